/- Merged texts: VolAt VolKeys VolOps VolNew VolTried VolMade VolReg VolFd VolLay VolTruncP VolRaw VolSetP VolOpenR. -/
import Derived.Test.YtjekpbkmhgfhoaaGreatDoorPBase28
import Derived.Test.YtjekpbkmhgfhoaaGreatDoorPBase32
import Derived.Test.YtjekpbkmhgfhoaaGreatDoorPBase31
import Derived.Test.YtjekpbkmhgfhoaaGreatDoorPBase38
import Derived.Test.YtjekpbkmhgfhoaaGreatDoorPBase39
import Derived.Test.YtjekpbkmhgfhoaaGreatDoorPBase36
import Derived.Test.YtjekpbkmhgfhoaaGreatDoorPBase40
import Derived.Test.YtjekpbkmhgfhoaaGreatDoorPBase41
import Derived.Deep.RegionHeld3
import Derived.Test.YtjekpbkmhgfhoaaGreatDoorPBase02
import Derived.Test.YtjekpbkmhgfhoaaGreatDoorPBase08
import Derived.Test.YtjekpbkmhgfhoaaGreatDoorPBase21
section
/- A volume in memory: its block, its tree, its body, its files, each in blocks of its own; what a turn of one of them leaves. -/
namespace Go.Proofs.YtjekpbkmhgfhoaaGreatDoor
open Go Go.RowKit
set_option maxRecDepth 100000
set_option linter.unusedSimpArgs false
set_option linter.unusedVariables false
variable {E : Nat → Addr} {B : Nat}
/-- Where a volume's objects are. -/
structure VP where
  v : Nat
  a : Nat
  b : Nat
  t : Nat
  dm : Nat
  bb : Nat
  bm : Nat
  bd : Nat
  fb : Nat
/-- A volume's blocks beside its tree's and the bytes of blocks. -/
def Fp (p : VP) (fm : Option Nat) (x : Nat) : Prop := x = p.v ∨ x = p.a ∨ x = p.bb ∨ x = p.bm ∨ x = p.bd ∨ Own p.fb fm x
theorem Fp.body {p : VP} {fm : Option Nat} {x : Nat} (h : x = p.bb ∨ x = p.bm ∨ x = p.bd) : Fp p fm x := by
  rcases h with h | h | h
  · exact .inr (.inr (.inl h))
  · exact .inr (.inr (.inr (.inl h)))
  · exact .inr (.inr (.inr (.inr (.inl h))))
def gB (g : Int → Nat → FBlk) (c : Cl) : Option (Option (List Int)) := if 0 ≤ c.2 ∧ c.2 < 64 then g c.1 c.2.toNat else none
def gF (fs : Nat → Option Hdl) (k : Int) : Option (Int × Int) := if 0 ≤ k then (fs k.toNat).map fun h => (h.node, h.pos) else none
theorem gB_at (g : Int → Nat → FBlk) (k : Int) {i : Nat} (hi : i < 64) : gB g (k, i) = g k i := by
  unfold gB
  rw [if_pos (by simp only; omega)]
  rfl
theorem gF_at (fs : Nat → Option Hdl) (k : Nat) : gF fs k = (fs k).map fun h => (h.node, h.pos) := by
  unfold gF
  rw [if_pos (by omega)]
  rfl
theorem gB_set (g : Int → Nat → FBlk) (k : Int) {i : Nat} (hi : i < 64) (o : Option (List Int)) : upd (gB g) (k, (i : Int)) o = gB (fun a j => if a = k ∧ j = i then some o else g a j) := by
  funext c
  obtain ⟨c1, c2⟩ := c
  unfold upd gB
  simp only [Prod.mk.injEq]
  by_cases h : c1 = k ∧ c2 = i
  · rw [if_pos h, if_pos (by omega), if_pos (by omega)]
  · rw [if_neg h]
    split
    · rw [if_neg (by omega)]
    · rfl
theorem gB_del (g : Int → Nat → FBlk) (k : Int) {i : Nat} (hi : i < 64) : del (gB g) (k, (i : Int)) = gB (fun a j => if a = k ∧ j = i then none else g a j) := by
  funext c
  obtain ⟨c1, c2⟩ := c
  unfold del gB
  simp only [Prod.mk.injEq]
  by_cases h : c1 = k ∧ c2 = i
  · rw [if_pos h, if_pos (by omega), if_pos (by omega)]
  · rw [if_neg h]
    split
    · rw [if_neg (by omega)]
    · rfl
theorem gF_set (fs : Nat → Option Hdl) (k : Nat) (h : Hdl) : upd (gF fs) (k : Int) (h.node, h.pos) = gF fun j => if j = k then some h else fs j := by
  funext j
  unfold upd gF
  by_cases hj : j = k
  · subst hj
    simp
  · rw [if_neg hj]
    split
    · simp only
      rw [if_neg (by omega)]
    · rfl
theorem gF_del (fs : Nat → Option Hdl) (k : Nat) : del (gF fs) (k : Int) = gF fun j => if j = k then none else fs j := by
  funext j
  unfold del gF
  by_cases hj : j = k
  · subst hj
    simp
  · rw [if_neg hj]
    split
    · simp only
      rw [if_neg (by omega)]
    · rfl
/-- A volume in memory, whatever its state is. -/
structure VA0 (E : Nat → Addr) (B : Nat) (L : Nat → Prop) (p : VP) (s : V) (w : World) (fm : Option Nat) (lab : Nat → Nat) (gd : Cl → Option Int) (n k fn : Nat) : Prop where
  c0 : w.cell? ⟨p.v, 0, none⟩ = some (.pointer (some ⟨p.a, 0, none⟩))
  c1 : w.cell? ⟨p.v, 1, none⟩ = some (.pointer (some ⟨p.bb, 0, none⟩))
  c2 : w.cell? ⟨p.v, 2, none⟩ = some (.pointer (some ⟨p.fb, 0, none⟩))
  c3 : w.cell? ⟨p.v, 3, none⟩ = some (.int .i64 s.quota)
  ta : TA w p.a p.b
  wb : WB B (fun x => L x ∨ Fp p fm x) w p.b p.t p.dm s.st
  body : BodyAt w (fun x => x = p.bb ∨ x = p.bm ∨ x = p.bd ∨ L x) p.bb p.bm p.bd (gB s.g) gd n k
  files : FilesAt w p.fb fm (gF s.fs) fn
  own : ∀ x, Fp p fm x → B ≤ x ∧ ¬ L x
  lv : lab p.v = 1
  la : lab p.a = 2
  lb : lab p.bb = 3 ∧ lab p.bm = 3 ∧ lab p.bd = 3
  lf : ∀ x, Own p.fb fm x → lab x = 4
  env : EnvM E B w
structure VA (E : Nat → Addr) (B : Nat) (L : Nat → Prop) (p : VP) (s : V) (w : World) (fm : Option Nat) (lab : Nat → Nat) (gd : Cl → Option Int) (n k fn : Nat) : Prop extends VA0 E B L p s w fm lab gd n k fn where
  wf : VWf s
/-- p is a volume that has s, its blocks from B on and none of L. -/
def VAt (E : Nat → Addr) (B : Nat) (L : Nat → Prop) (p : VP) (s : V) (w : World) : Prop := ∃ fm lab gd n k fn, VA E B L p s w fm lab gd n k fn
/-- What a call on a volume leaves: blocks below B, of L, and those whose first cell is plain; but for X. -/
def KV (B : Nat) (L X : Nat → Prop) (w w' : World) : Prop := Touch (fun x => (B ≤ x ∧ ¬ L x ∧ ¬ Plain w x) ∨ X x) w w'
section
variable {L L' X : Nat → Prop} {w w' w'' : World}
theorem KV.refl (B : Nat) (L X : Nat → Prop) (w : World) : KV B L X w w := Touch.refl _ _
theorem KV.trans (h : KV B L X w w') (k : KV B L X w' w'') : KV B L X w w'' := by
  refine Touch.trans h k fun x hx hl => ?_
  by_cases hX : X x
  · exact .inr hX
  · rcases hx with ⟨h1, h2, h3⟩ | hx
    · refine .inl ⟨h1, h2, fun hp => h3 (plain_keep hp (h.block x hl fun hs => ?_))⟩
      rcases hs with hs | hs
      · exact hs.2.2 hp
      · exact hX hs
    · exact .inr hx
theorem KV.of_below (h : Below w.heap.size w w') : KV B L X w w' := Touch.of_below h _
theorem KV.then (h : KV B L X w w') (k : Below w'.heap.size w' w'') : KV B L X w w'' := Touch.then h k
theorem KV.cell (h : KV B L NoB w w') {x : Nat} (hx : x < B ∨ L x ∨ Plain w x) (hl : x < w.heap.size) (o : Nat) : w'.cell? ⟨x, o, none⟩ = w.cell? ⟨x, o, none⟩ :=
  Touch.cell h (p := ⟨x, o, none⟩) hl fun hs => by
    rcases hs with ⟨h1, h2, h3⟩ | hs
    · rcases hx with hx | hx | hx
      · simp only at h1; omega
      · exact h2 hx
      · exact h3 hx
    · exact hs
theorem KV.below (h : KV B L NoB w w') (hB : B ≤ w.heap.size) : Below B w w' := Touch.below h hB fun x hx => by
  rcases hx with hx | hx
  · exact hx.1
  · exact hx.elim
theorem KV.less (h : KV B L X w w') (hL : ∀ x, L' x → L x) : KV B L' X w w' := Touch.mono h fun x hx _ => by
  rcases hx with hx | hx
  · exact .inl ⟨hx.1, fun hl => hx.2.1 (hL x hl), hx.2.2⟩
  · exact .inr hx
/-- What a call on a tree leaves, asked at all plain blocks. -/
theorem KV.of_wide {L2 : Nat → Prop} (h : KeptP B (fun x => L2 x ∨ (x < w.heap.size ∧ Plain w x)) w w') (hL : ∀ x, L x → L2 x) : KV B L X w w' :=
  ⟨h.below.os, h.below.tape, h.below.output, h.below.size, fun x hx hs => by
    by_cases hp : Plain w x
    · exact h.loc x (.inr ⟨hx, hp⟩)
    · by_cases hl : L x
      · exact h.loc x (.inl (hL x hl))
      · exact h.below.block x (Classical.byContradiction fun hB => hs (.inl ⟨by omega, hl, hp⟩))⟩
end
/-- A body stays where its three blocks and all plain ones stay. -/
theorem BodyAt.plain {w w' : World} {M : Nat → Prop} {b m d : Nat} {g : Cl → Option (Option (List Int))} {gd : Cl → Option Int} {n k : Nat} (h : BodyAt w M b m d g gd n k) (hz : w.heap.size ≤ w'.heap.size) (h1 : ∀ x, x = b ∨ x = m ∨ x = d → w'.heap[x]? = w.heap[x]?)
    (h2 : ∀ x, Plain w x → w'.heap[x]? = w.heap[x]?) : BodyAt w' M b m d g gd n k := by
  have eb := h1 b (.inl rfl)
  refine { h with cm := (World.cell?_of_block (w := w) eb).trans h.cm, cd := (World.cell?_of_block (w := w) eb).trans h.cd, fm := (World.frozen?_of_block (w := w) eb).trans h.fm, fd := (World.frozen?_of_block (w := w) eb).trans h.fd, lt := Nat.lt_of_lt_of_le h.lt hz, dirty := h.dirty.keep (h1 d (.inr (.inr rfl))), has := ?_ }
  obtain ⟨gv, h3, h4⟩ := h.has
  refine ⟨gv, h3.keep (h1 m (.inr (.inl rfl))), fun c => ?_⟩
  rcases h4 c with h5 | ⟨v, o, h5, h6, h7⟩
  · exact .inl h5
  · refine .inr ⟨v, o, h5, h6, ?_⟩
    rcases h7 with h7 | ⟨x, l, e1, e2, e3, e4, e5⟩
    · exact .inl h7
    · refine .inr ⟨x, l, e1, e2, e3, e4.keep (h2 x ?_), e5⟩
      obtain ⟨y, ys, hl⟩ : ∃ y ys, l = y :: ys := by
        cases l with
        | nil => cases e3
        | cons y ys => exact ⟨y, ys, rfl⟩
      subst hl
      exact e4.plain (plainI _ _)
section
variable {L L' : Nat → Prop} {p : VP} {s s' : V} {w w' : World} {fm : Option Nat} {lab : Nat → Nat} {gd : Cl → Option Int} {n k fn : Nat}
theorem VA0.lt (h : VA0 E B L p s w fm lab gd n k fn) {x : Nat} (hx : Fp p fm x) : x < w.heap.size := h.wb.2.1 x (.inr hx)
theorem VA0.hL (h : VA0 E B L p s w fm lab gd n k fn) {x : Nat} (hx : L x) : x < w.heap.size := h.wb.2.1 x (.inl hx)
theorem VA0.hB (h : VA0 E B L p s w fm lab gd n k fn) : B ≤ w.heap.size := h.wb.1
theorem ptr_notplain {x : Nat} {q : Option Addr} (h : w.cell? ⟨x, 0, none⟩ = some (.pointer q)) : ¬ Plain w x := fun ⟨v, hv, hp, _⟩ => by
  rw [h] at hv
  injection hv with hv
  exact hp q hv.symm
theorem mapc_notplain {x : Nat} {q : Option Nat} (h : w.cell? ⟨x, 0, none⟩ = some (.map q)) : ¬ Plain w x := fun ⟨v, hv, _, hp⟩ => by
  rw [h] at hv
  injection hv with hv
  exact hp q hv.symm
theorem MapAt.notplain {P : Program} {kt : TypeId} {K U : Type} {eK : K → Value} {eV : U → Value} {r n : Nat} {g : K → Option U} (h : MapAt P kt eK eV w r g n) : ¬ Plain w r := fun ⟨v, hv, _⟩ => by
  obtain ⟨es, clk, hh, _⟩ := h
  rw [map_nocell hh] at hv
  cases hv
theorem BodyAt.notplain {M : Nat → Prop} {b m d : Nat} {g : Cl → Option (Option (List Int))} (h : BodyAt w M b m d g gd n k) : ¬ Plain w b ∧ ¬ Plain w m ∧ ¬ Plain w d := by
  obtain ⟨gv, h1, _⟩ := h.has
  exact ⟨mapc_notplain h.cm, h1.notplain, h.dirty.notplain⟩
theorem FilesAt.notplain {b : Nat} {g : Int → Option (Int × Int)} (h : FilesAt w b fm g fn) {x : Nat} (hx : Own b fm x) : ¬ Plain w x := by
  rcases hx with rfl | hx
  · exact mapc_notplain h.1
  · subst hx
    exact h.2.2.2.2.notplain
/-- New blocks, and those of the law's own, turn. -/
theorem VA0.touch {S : Nat → Prop} (h : VA0 E B L p s w fm lab gd n k fn) (ht : Touch S w w') (hS : ∀ x, S x → L x ∧ B ≤ x) : VA0 E B L p s w' fm lab gd n k fn := by
  have hn : ∀ x, Fp p fm x → ¬ S x := fun x hx hs => (h.own x hx).2 (hS x hs).1
  have cv : ∀ o, w'.cell? ⟨p.v, o, none⟩ = w.cell? ⟨p.v, o, none⟩ := fun o => ht.cell (p := ⟨p.v, o, none⟩) (h.lt (.inl rfl)) (hn _ (.inl rfl))
  have hb : Below B w w' := ht.below h.hB fun x hx => (hS x hx).2
  refine { h with c0 := (cv 0).trans h.c0, c1 := (cv 1).trans h.c1, c2 := (cv 2).trans h.c2, c3 := (cv 3).trans h.c3, ta := ⟨(ht.cell (p := ⟨p.a, 0, none⟩) h.ta.2 (hn _ (.inr (.inl rfl)))).trans h.ta.1, Nat.lt_of_lt_of_le h.ta.2 ht.size⟩, wb := h.wb.touch ht fun x hx => .inl (hS x hx).1, body := ?_, files := ?_, env := h.env.keep hb }
  · refine h.body.touch ht fun x hx => ⟨.inr (.inr (.inr (hS x hx).1)), ?_, ?_, ?_⟩
    · rintro rfl; exact hn _ (.inr (.inr (.inl rfl))) hx
    · rintro rfl; exact hn _ (.inr (.inr (.inr (.inl rfl)))) hx
    · rintro rfl; exact hn _ (.inr (.inr (.inr (.inr (.inl rfl))))) hx
  · exact h.files.touch ht fun x hx => hn x (.inr (.inr (.inr (.inr (.inr hx)))))
theorem VA0.below (h : VA0 E B L p s w fm lab gd n k fn) (hb : Below w.heap.size w w') : VA0 E B L p s w' fm lab gd n k fn := h.touch (Touch.of_below hb NoB) fun _ hx => hx.elim
theorem VA.touch {S : Nat → Prop} (h : VA E B L p s w fm lab gd n k fn) (ht : Touch S w w') (hS : ∀ x, S x → L x ∧ B ≤ x) : VA E B L p s w' fm lab gd n k fn := { h.toVA0.touch ht hS with wf := h.wf }
theorem VA.below (h : VA E B L p s w fm lab gd n k fn) (hb : Below w.heap.size w w') : VA E B L p s w' fm lab gd n k fn := h.touch (Touch.of_below hb NoB) fun _ hx => hx.elim
theorem VA.less (h : VA E B L p s w fm lab gd n k fn) (hL : ∀ x, L' x → L x) : VA E B L' p s w fm lab gd n k fn := by
  refine { h with wb := h.wb.less (fun x hx => hx.imp (hL x) id), body := ?_, own := fun x hx => ⟨(h.own x hx).1, fun hl => (h.own x hx).2 (hL x hl)⟩ }
  obtain ⟨gv, h1, h2⟩ := h.body.has
  refine { h.body with Mb := .inl rfl, Mm := .inr (.inl rfl), Md := .inr (.inr (.inl rfl)), has := ⟨gv, h1, fun c => ?_⟩ }
  rcases h2 c with h5 | ⟨v, o, h5, h6, h7⟩
  · exact .inl h5
  · refine .inr ⟨v, o, h5, h6, h7.more fun x hx => .inl ?_⟩
    rcases hx with hx | hx | hx | hx
    · exact .inl hx
    · exact .inr (.inl hx)
    · exact .inr (.inr (.inl hx))
    · exact .inr (.inr (.inr (hL x hx)))
/-- New blocks of a law's own beside it. -/
theorem VA.loc (h : VA E B L p s w fm lab gd n k fn) (hb : Below w.heap.size w w') (hl : ∀ x, L' x → L x ∨ (w.heap.size ≤ x ∧ x < w'.heap.size)) (hl2 : ∀ x, L x → L' x) : VA E B L' p s w' fm lab gd n k fn := by
  refine { h.below hb with wb := h.wb.loc' hb fun x hx => ?_, body := (h.body.more (fun x hx => ?_) fun x hx => ?_).below hb, own := fun x hx => ⟨(h.own x hx).1, fun hl' => ?_⟩ }
  · rcases hx with hx | hx
    · exact (hl x hx).imp .inl id
    · exact .inl (.inr hx)
  · rcases hx with hx | hx | hx | hx
    · exact .inl (.inl hx)
    · exact .inl (.inr (.inl hx))
    · exact .inl (.inr (.inr (.inl hx)))
    · exact (hl x hx).imp (fun h => .inr (.inr (.inr h))) (fun h => h.1)
  · rcases hx with hx | hx | hx | hx
    · exact .inl hx
    · exact .inr (.inl hx)
    · exact .inr (.inr (.inl hx))
    · exact .inr (.inr (.inr (hl2 x hx)))
  · rcases hl x hl' with h1 | h1
    · exact (h.own x hx).2 h1
    · have := h.lt hx
      omega
/-- The tree has turned. -/
theorem VA0.tree {st' : St} {X : Nat → Prop} (h : VA0 E B L p s w fm lab gd n k fn) (hw : WB B (fun x => L x ∨ Fp p fm x) w' p.b p.t p.dm st') (hk : KeptP B (fun x => (L x ∨ Fp p fm x) ∨ (x < w.heap.size ∧ Plain w x)) w w') :
    VA0 E B L p { s with st := st' } w' fm lab gd n k fn ∧ KV B L X w w' := by
  have cv : ∀ o, w'.cell? ⟨p.v, o, none⟩ = w.cell? ⟨p.v, o, none⟩ := fun o => hk.cell (.inl (.inr (.inl rfl))) o
  refine ⟨{ h with c0 := (cv 0).trans h.c0, c1 := (cv 1).trans h.c1, c2 := (cv 2).trans h.c2, c3 := (cv 3).trans h.c3, ta := h.ta.kept (.inl (.inr (.inr (.inl rfl)))) hk, wb := hw, body := ?_, files := ?_, env := h.env.keep hk.below }, KV.of_wide hk fun x hx => .inl hx⟩
  · refine h.body.plain hk.below.size (fun x hx => hk.loc x (.inl (.inr ?_))) fun x hx => hk.loc x (.inr ⟨plain_lt hx, hx⟩)
    exact Fp.body hx
  · refine h.files.touch (S := fun x => ¬ Fp p fm x) ⟨hk.below.os, hk.below.tape, hk.below.output, hk.below.size, fun x hx hs => hk.loc x (.inl (.inr (Classical.not_not.1 hs)))⟩ fun x hx hs => hs (.inr (.inr (.inr (.inr (.inr hx)))))
theorem VA.tree {st' : St} {X : Nat → Prop} (h : VA E B L p s w fm lab gd n k fn) (hw : WB B (fun x => L x ∨ Fp p fm x) w' p.b p.t p.dm st') (hk : KeptP B (fun x => (L x ∨ Fp p fm x) ∨ (x < w.heap.size ∧ Plain w x)) w w') (hf : VWf { s with st := st' }) :
    VA E B L p { s with st := st' } w' fm lab gd n k fn ∧ KV B L X w w' := ⟨{ (h.toVA0.tree (X := X) hw hk).1 with wf := hf }, (h.toVA0.tree (X := X) hw hk).2⟩
/-- The body has turned. -/
theorem VA0.blocks {g' : Int → Nat → FBlk} {gd' : Cl → Option Int} {X : Nat → Prop} (h : VA0 E B L p s w fm lab gd n k fn) (ho : BodyOut (fun x => x = p.bb ∨ x = p.bm ∨ x = p.bd ∨ L x) p.bb p.bm p.bd (gB g') gd' w w') :
    (∃ n' k', VA0 E B L p { s with g := g' } w' fm lab gd' n' k' fn) ∧ KV B L X w w' := by
  obtain ⟨⟨n', k', h1⟩, h2⟩ := ho
  obtain ⟨l1, l2, l3⟩ := h.lb
  have ht : Touch (fun x => x = p.bb ∨ x = p.bm ∨ x = p.bd) w w' := h2.mono fun x hx _ => .inr hx
  have hown : ∀ x, (x = p.bb ∨ x = p.bm ∨ x = p.bd) → Fp p fm x := fun x hx => Fp.body hx
  have hlab : ∀ x, (x = p.bb ∨ x = p.bm ∨ x = p.bd) → lab x = 3 := fun x hx => by rcases hx with rfl | rfl | rfl <;> assumption
  have nv : ¬ (p.v = p.bb ∨ p.v = p.bm ∨ p.v = p.bd) := fun hx => by have := hlab _ hx; rw [h.lv] at this; cases this
  have na : ¬ (p.a = p.bb ∨ p.a = p.bm ∨ p.a = p.bd) := fun hx => by have := hlab _ hx; rw [h.la] at this; cases this
  have cv : ∀ o, w'.cell? ⟨p.v, o, none⟩ = w.cell? ⟨p.v, o, none⟩ := fun o => ht.cell (p := ⟨p.v, o, none⟩) (h.lt (.inl rfl)) nv
  have hb : Below B w w' := ht.below h.hB fun x hx => (h.own x (hown x hx)).1
  obtain ⟨q1, q2, q3⟩ := h.body.notplain
  refine ⟨⟨n', k', { h with c0 := (cv 0).trans h.c0, c1 := (cv 1).trans h.c1, c2 := (cv 2).trans h.c2, c3 := (cv 3).trans h.c3, ta := ⟨(ht.cell (p := ⟨p.a, 0, none⟩) h.ta.2 na).trans h.ta.1, Nat.lt_of_lt_of_le h.ta.2 ht.size⟩, wb := h.wb.touch ht fun x hx => .inr (hown x hx), body := h1, files := ?_, env := h.env.keep hb }⟩, ?_⟩
  · exact h.files.touch ht fun x hx hs => by have := hlab x hs; rw [h.lf x hx] at this; cases this
  · refine ht.mono fun x hx _ => .inl ⟨(h.own x (hown x hx)).1, (h.own x (hown x hx)).2, ?_⟩
    rcases hx with rfl | rfl | rfl <;> assumption
theorem VA.blocks {g' : Int → Nat → FBlk} {gd' : Cl → Option Int} {X : Nat → Prop} (h : VA E B L p s w fm lab gd n k fn) (ho : BodyOut (fun x => x = p.bb ∨ x = p.bm ∨ x = p.bd ∨ L x) p.bb p.bm p.bd (gB g') gd' w w') (hf : VWf { s with g := g' }) :
    (∃ n' k', VA E B L p { s with g := g' } w' fm lab gd' n' k' fn) ∧ KV B L X w w' := by
  obtain ⟨⟨n', k', h1⟩, h2⟩ := h.toVA0.blocks (X := X) ho
  exact ⟨⟨n', k', { h1 with wf := hf }⟩, h2⟩
open Classical in
/-- What is open has turned. -/
theorem VA.opens {fs' : Nat → Option Hdl} {fn' : Nat} {X : Nat → Prop} (h : VA E B L p s w fm lab gd n k fn) (ho : FilesOut p.fb fm (gF fs') fn' w w') (hf : VWf { s with fs := fs' }) :
    (∃ fm' lab', VA E B L p { s with fs := fs' } w' fm' lab' gd n k fn') ∧ KV B L X w w' := by
  obtain ⟨fm', h1, ht, h3⟩ := ho
  obtain ⟨l1, l2, l3⟩ := h.lb
  have hown : ∀ x, Own p.fb fm x → Fp p fm x := fun x hx => .inr (.inr (.inr (.inr (.inr hx))))
  have nv : ¬ Own p.fb fm p.v := fun hx => by have := h.lf _ hx; rw [h.lv] at this; cases this
  have na : ¬ Own p.fb fm p.a := fun hx => by have := h.lf _ hx; rw [h.la] at this; cases this
  have cv : ∀ o, w'.cell? ⟨p.v, o, none⟩ = w.cell? ⟨p.v, o, none⟩ := fun o => ht.cell (p := ⟨p.v, o, none⟩) (h.lt (.inl rfl)) nv
  have hb : Below B w w' := ht.below h.hB fun x hx => (h.own x (hown x hx)).1
  have nb : ∀ x, (x = p.bb ∨ x = p.bm ∨ x = p.bd) → ¬ Own p.fb fm x := fun x hx hs => by
    have h4 := h.lf x hs
    rcases hx with rfl | rfl | rfl
    · rw [l1] at h4; cases h4
    · rw [l2] at h4; cases h4
    · rw [l3] at h4; cases h4
  have np : ∀ x, Own p.fb fm x → ¬ Plain w x := fun x hx => h.files.notplain hx
  have old : ∀ x, x < w.heap.size → (if w.heap.size ≤ x ∧ Own p.fb fm' x then 4 else lab x) = lab x := fun x hx => if_neg fun hh => by omega
  have hnew : ∀ x, Fp p fm' x → Fp p fm x ∨ w.heap.size ≤ x := fun x hx => by
    rcases hx with hx | hx | hx | hx | hx | hx
    · exact .inl (.inl hx)
    · exact .inl (.inr (.inl hx))
    · exact .inl (.inr (.inr (.inl hx)))
    · exact .inl (.inr (.inr (.inr (.inl hx))))
    · exact .inl (.inr (.inr (.inr (.inr (.inl hx)))))
    · exact (h3 x hx).imp (hown x) id
  have hlt : ∀ x, Own p.fb fm' x → x < w'.heap.size := by
    rintro x (rfl | hx)
    · exact h1.2.2.1
    · subst hx; exact h1.2.2.2.2.lt
  refine ⟨⟨fm', fun x => if w.heap.size ≤ x ∧ Own p.fb fm' x then 4 else lab x, { h with c0 := (cv 0).trans h.c0, c1 := (cv 1).trans h.c1, c2 := (cv 2).trans h.c2, c3 := (cv 3).trans h.c3, ta := ⟨(ht.cell (p := ⟨p.a, 0, none⟩) h.ta.2 na).trans h.ta.1, Nat.lt_of_lt_of_le h.ta.2 ht.size⟩, wb := ?_, body := ?_, files := h1, own := ?_, lv := ?_, la := ?_, lb := ?_, lf := ?_, env := h.env.keep hb, wf := hf }⟩, ?_⟩
  · have hw1 := h.wb.touch ht fun x hx => .inr (hown x hx)
    obtain ⟨g1, g2, nm, dirs, pn, lb2, g3, g4, g5⟩ := h.wb
    have hg3 := g3.touch ht fun x hx hs => (g4 x hx).2 (.inr (hown x hs))
    refine ⟨hw1.1, fun x hx => ?_, nm, dirs, pn, lb2, hg3, fun x hx => ⟨(g4 x hx).1, fun hl => ?_⟩, g5⟩
    · rcases hx with hx | hx
      · exact Nat.lt_of_lt_of_le (h.hL hx) ht.size
      · rcases hx with hx | hx | hx | hx | hx | hx
        · exact Nat.lt_of_lt_of_le (h.lt (.inl hx)) ht.size
        · exact Nat.lt_of_lt_of_le (h.lt (.inr (.inl hx))) ht.size
        · exact Nat.lt_of_lt_of_le (h.lt (.inr (.inr (.inl hx)))) ht.size
        · exact Nat.lt_of_lt_of_le (h.lt (.inr (.inr (.inr (.inl hx))))) ht.size
        · exact Nat.lt_of_lt_of_le (h.lt (.inr (.inr (.inr (.inr (.inl hx)))))) ht.size
        · exact hlt x hx
    · rcases hl with hl | hl
      · exact (g4 x hx).2 (.inl hl)
      · rcases hnew x hl with hl | hl
        · exact (g4 x hx).2 (.inr hl)
        · have := g3.lt x hx
          omega
  · refine h.body.plain ht.size (fun x hx => ht.block x ?_ (nb x hx)) fun x hx => ht.block x (plain_lt hx) fun hs => np x hs hx
    exact h.lt (Fp.body hx)
  · intro x hx
    rcases hnew x hx with hx | hx
    · exact h.own x hx
    · exact ⟨Nat.le_trans h.hB hx, fun hl => by have := h.hL hl; omega⟩
  · exact (old _ (h.lt (.inl rfl))).trans h.lv
  · exact (old _ (h.lt (.inr (.inl rfl)))).trans h.la
  · exact ⟨(old _ (h.lt (.inr (.inr (.inl rfl))))).trans l1, (old _ (h.lt (.inr (.inr (.inr (.inl rfl)))))).trans l2, (old _ (h.lt (.inr (.inr (.inr (.inr (.inl rfl))))))).trans l3⟩
  · intro x hx
    show (if w.heap.size ≤ x ∧ Own p.fb fm' x then 4 else lab x) = 4
    split
    · rfl
    · rename_i hc
      rcases h3 x hx with hy | hy
      · exact h.lf x hy
      · exact absurd ⟨hy, hx⟩ hc
  · exact ht.mono fun x hx _ => .inl ⟨(h.own x (hown x hx)).1, (h.own x (hown x hx)).2, np x hx⟩
end
section
variable {L L' X : Nat → Prop} {p : VP} {s s' : V} {w w' : World}
theorem VAt.below (h : VAt E B L p s w) (hb : Below w.heap.size w w') : VAt E B L p s w' := by
  obtain ⟨fm, lab, gd, n, k, fn, h⟩ := h
  exact ⟨fm, lab, gd, n, k, fn, h.below hb⟩
theorem VAt.touch {S : Nat → Prop} (h : VAt E B L p s w) (ht : Touch S w w') (hS : ∀ x, S x → L x ∧ B ≤ x) : VAt E B L p s w' := by
  obtain ⟨fm, lab, gd, n, k, fn, h⟩ := h
  exact ⟨fm, lab, gd, n, k, fn, h.touch ht hS⟩
theorem VAt.less (h : VAt E B L p s w) (hL : ∀ x, L' x → L x) : VAt E B L' p s w := by
  obtain ⟨fm, lab, gd, n, k, fn, h⟩ := h
  exact ⟨fm, lab, gd, n, k, fn, h.less hL⟩
theorem VAt.loc (h : VAt E B L p s w) (hb : Below w.heap.size w w') (hl : ∀ x, L' x → L x ∨ (w.heap.size ≤ x ∧ x < w'.heap.size)) (hl2 : ∀ x, L x → L' x) : VAt E B L' p s w' := by
  obtain ⟨fm, lab, gd, n, k, fn, h⟩ := h
  exact ⟨fm, lab, gd, n, k, fn, h.loc hb hl hl2⟩
theorem VAt.hB (h : VAt E B L p s w) : B ≤ w.heap.size := by
  obtain ⟨fm, lab, gd, n, k, fn, h⟩ := h
  exact h.hB
theorem VAt.hL (h : VAt E B L p s w) {x : Nat} (hx : L x) : x < w.heap.size := by
  obtain ⟨fm, lab, gd, n, k, fn, h⟩ := h
  exact h.hL hx
theorem VAt.env (h : VAt E B L p s w) : EnvM E B w := by
  obtain ⟨fm, lab, gd, n, k, fn, h⟩ := h
  exact h.env
theorem VAt.wf (h : VAt E B L p s w) : VWf s := by
  obtain ⟨fm, lab, gd, n, k, fn, h⟩ := h
  exact h.wf
/-- The volume's own cells. -/
theorem VAt.cells (h : VAt E B L p s w) : w.cell? ⟨p.v, 0, none⟩ = some (.pointer (some ⟨p.a, 0, none⟩)) ∧ w.cell? ⟨p.v, 1, none⟩ = some (.pointer (some ⟨p.bb, 0, none⟩)) ∧ w.cell? ⟨p.v, 2, none⟩ = some (.pointer (some ⟨p.fb, 0, none⟩)) ∧
    w.cell? ⟨p.v, 3, none⟩ = some (.int .i64 s.quota) ∧ p.v < w.heap.size := by
  obtain ⟨fm, lab, gd, n, k, fn, h⟩ := h
  exact ⟨h.c0, h.c1, h.c2, h.c3, h.lt (.inl rfl)⟩
end
end Go.Proofs.YtjekpbkmhgfhoaaGreatDoor
end

section
/- A volume's blocks as lists: all cells, one node's blocks; how many. -/
namespace Go.Proofs.YtjekpbkmhgfhoaaGreatDoor
open Go Go.RowKit
set_option maxRecDepth 100000
set_option linter.unusedSimpArgs false
set_option linter.unusedVariables false
variable {E : Nat → Addr} {B : Nat}
def idxL (g : Nat → FBlk) : List Nat := (List.range 64).filter fun i => (g i).isSome
def cellsL (g : Int → Nat → FBlk) : List NR → List Cl
  | [] => []
  | r :: l => (idxL (g r.nd.id)).map (fun i : Nat => (r.nd.id, (i : Int))) ++ cellsL g l
theorem idxL_mem {g : Nat → FBlk} {i : Nat} : i ∈ idxL g ↔ i < 64 ∧ (g i).isSome = true := by
  unfold idxL
  rw [List.mem_filter, List.mem_range]
theorem cellsL_id {g : Int → Nat → FBlk} : ∀ {l : List NR} {c : Cl}, c ∈ cellsL g l → ∃ r ∈ l, c.1 = r.nd.id ∧ 0 ≤ c.2 ∧ c.2 < 64 ∧ (g c.1 c.2.toNat).isSome = true
  | [], _, h => by cases h
  | r :: l, c, h => by
    unfold cellsL at h
    rcases List.mem_append.1 h with h | h
    · obtain ⟨i, hi, rfl⟩ := List.mem_map.1 h
      obtain ⟨h1, h2⟩ := idxL_mem.1 hi
      exact ⟨r, List.mem_cons_self .., rfl, by simp only; omega, by simp only; omega, h2⟩
    · obtain ⟨x, h1, h2⟩ := cellsL_id h
      exact ⟨x, List.mem_cons_of_mem _ h1, h2⟩
theorem cellsL_mem {g : Int → Nat → FBlk} : ∀ {l : List NR} {r : NR} {i : Nat}, r ∈ l → i < 64 → (g r.nd.id i).isSome = true → (r.nd.id, (i : Int)) ∈ cellsL g l
  | [], _, _, h, _, _ => by cases h
  | x :: l, r, i, h, h1, h2 => by
    unfold cellsL
    rcases List.mem_cons.1 h with rfl | h
    · exact List.mem_append_left _ (List.mem_map.2 ⟨i, idxL_mem.2 ⟨h1, h2⟩, rfl⟩)
    · exact List.mem_append_right _ (cellsL_mem h h1 h2)
theorem cellsL_nodup {g : Int → Nat → FBlk} : ∀ {l : List NR}, RiseN l → (cellsL g l).Nodup
  | [], _ => List.nodup_nil
  | r :: l, h => by
    obtain ⟨h1, h2⟩ := List.pairwise_cons.1 h
    unfold cellsL
    rw [List.nodup_append]
    refine ⟨?_, cellsL_nodup h2, fun a ha b hb e => ?_⟩
    · refine List.Pairwise.map _ (fun a b hab e => ?_) ((List.nodup_range (n := 64)).filter _)
      injection e with _ e
      exact hab (by omega)
    · obtain ⟨i, hi, rfl⟩ := List.mem_map.1 ha
      obtain ⟨x, h3, h4, _⟩ := cellsL_id hb
      have := h1 x h3
      rw [← e] at h4
      simp only at h4
      omega
theorem cellsL_len (g : Int → Nat → FBlk) : ∀ l : List NR, (cellsL g l).length = (l.map fun r => nBlk (g r.nd.id)).sum
  | [] => rfl
  | r :: l => by
    unfold cellsL
    rw [List.length_append, List.length_map, cellsL_len g l, List.map_cons, List.sum_cons]
    rfl
theorem nBlk_le' (g : Nat → FBlk) : nBlk g ≤ 64 := by
  unfold nBlk
  exact Nat.le_trans (List.length_filter_le _ _) (by simp)
theorem sumB_le (g : Int → Nat → FBlk) : ∀ l : List NR, (l.map fun r => nBlk (g r.nd.id)).sum ≤ 64 * l.length
  | [] => by simp
  | r :: l => by
    have := sumB_le g l
    have := nBlk_le' (g r.nd.id)
    simp only [List.map_cons, List.sum_cons, List.length_cons]
    omega
section
variable {s : V}
theorem VWf.cells (h : VWf s) (c : Cl) : c ∈ cellsL s.g s.st.ns ↔ (gB s.g c).isSome = true := by
  constructor
  · intro hc
    obtain ⟨r, h1, h2, h3, h4, h5⟩ := cellsL_id hc
    unfold gB
    rw [if_pos ⟨h3, h4⟩]
    exact h5
  · intro hc
    obtain ⟨c1, c2⟩ := c
    unfold gB at hc
    split at hc
    · rename_i hb
      simp only at hb hc
      obtain ⟨_, r, h1, _⟩ := h.blk c1 c2.toNat (by intro e; rw [e] at hc; cases hc)
      have := cellsL_mem (g := s.g) (findN_mem h1) (i := c2.toNat) (by omega) (by rw [findN_id h1]; exact hc)
      rw [findN_id h1] at this
      rw [show ((c2.toNat : Nat) : Int) = c2 by omega] at this
      exact this
    · cases hc
theorem VWf.few (h : VWf s) : (cellsL s.g s.st.ns).length ≤ 32768 := by
  rw [cellsL_len]
  have := sumB_le s.g s.st.ns
  have := h.full.len
  omega
theorem blocks_eq (s : V) : s.blocks = ((cellsL s.g s.st.ns).length : Int) := by
  rw [cellsL_len]
  rfl
theorem VWf.count (h : VWf s) {zs : List Cl} {n : Nat} (hz : KeysOf (gB s.g) zs n) : n = (cellsL s.g s.st.ns).length := by
  rw [← hz.len]
  exact hz.len_eq (cellsL_nodup h.full.rise) h.cells
theorem idxL_eq {s : V} {k : Int} {zs : List Int} (hm : ∀ i, i ∈ zs ↔ (gB s.g (k, i)).isSome = true) (hr : zs.Pairwise (· < ·)) : zs = (idxL (s.g k)).map fun i : Nat => (i : Int) := by
  have hs : SortedKeys (fun i => gB s.g (k, i)) zs := ⟨hr, hm⟩
  refine hs.uniq hr ?_ fun i => ?_
  · rw [List.pairwise_map]
    refine (List.Pairwise.filter _ (List.pairwise_lt_range (n := 64))).imp fun h => ?_
    omega
  · constructor
    · intro hi
      obtain ⟨j, hj, rfl⟩ := List.mem_map.1 hi
      obtain ⟨h1, h2⟩ := idxL_mem.1 hj
      show (gB s.g (k, (j : Int))).isSome = true
      rw [gB_at _ _ h1]
      exact h2
    · intro hi
      simp only [gB] at hi
      split at hi
      · rename_i hb
        refine List.mem_map.2 ⟨i.toNat, idxL_mem.2 ⟨by omega, hi⟩, by omega⟩
      · cases hi
end
section
variable {L : Nat → Prop} {p : VP} {s : V} {w w' : World} {fm : Option Nat} {lab : Nat → Nat} {gd : Cl → Option Int} {n k fn : Nat}
/-- How many blocks the body's map has. -/
theorem VA.nkeys (h : VA E B L p s w fm lab gd n k fn) : n = (cellsL s.g s.st.ns).length := by
  obtain ⟨gv, h4, h5⟩ := h.body.has
  obtain ⟨ks, hk⟩ := h4.keys Tryz.underlying114 encC_inj
  refine h.wf.count (zs := ks) ⟨hk.nodup, fun c => (hk.mem c).trans ?_, hk.len⟩
  rcases h5 c with ⟨e1, e2⟩ | ⟨v, o, e1, e2, _⟩
  · rw [e1, e2]; exact Iff.rfl
  · rw [e1, e2]; exact Iff.rfl
end
end Go.Proofs.YtjekpbkmhgfhoaaGreatDoor
end

section
/- What the calls on a volume's tree, body and files leave of the volume. -/
namespace Go.Proofs.YtjekpbkmhgfhoaaGreatDoor
open Go Go.RowKit
set_option maxRecDepth 100000
set_option linter.unusedSimpArgs false
set_option linter.unusedVariables false
variable {E : Nat → Addr} {B : Nat}
def LW (L : Nat → Prop) (p : VP) (fm : Option Nat) (w : World) (x : Nat) : Prop := (L x ∨ Fp p fm x) ∨ (x < w.heap.size ∧ Plain w x)
section
variable {L : Nat → Prop} {p : VP} {s : V} {w w' : World} {fm : Option Nat} {lab : Nat → Nat} {gd : Cl → Option Int} {n k fn : Nat} {st' : St}
theorem VA.ts (h : VA E B L p s w fm lab gd n k fn) : TS E B (LW L p fm w) p.a p.b p.t p.dm w s.st w := ⟨h.ta, .inl (.inr (.inr (.inl rfl))), h.wb.wide, h.wf.full, h.env, Below.refl _ _⟩
theorem VA.ts_out (h : VA E B L p s w fm lab gd n k fn) (ht : TS E B (LW L p fm w) p.a p.b p.t p.dm w st' w') (hk : KeptP B (LW L p fm w) w w') (hf : VWf { s with st := st' }) : VAt E B L p { s with st := st' } w' ∧ KV B L NoB w w' := by
  obtain ⟨h1, h2⟩ := h.tree (X := NoB) (ht.wb.less fun x hx => .inl hx) hk hf
  exact ⟨⟨fm, lab, gd, n, k, fn, h1⟩, h2⟩
end
section
variable {L : Nat → Prop} {p : VP} {s : V} {w w' : World}
theorem VAt.tcells (h : VAt E B L p s w) : w.cell? ⟨p.a, 0, none⟩ = some (.pointer (some ⟨p.b, 0, none⟩)) ∧ p.a < w.heap.size ∧ w.cell? ⟨p.b, 0, none⟩ = some (.pointer (some ⟨p.t, 0, none⟩)) ∧ p.b < w.heap.size := by
  obtain ⟨fm, lab, gd, n, k, fn, h⟩ := h
  exact ⟨h.ta.1, h.ta.2, h.wb.c0, h.wb.lt.1⟩
theorem va_make (h : VAt E B L p s w) (x to : ByteArray) {k : Int} (hk : 1 ≤ k ∧ k ≤ 3) (hf : VWf { s with st := (makeT s.st x k to).2.2 }) :
    Calls Tryz.prog 57 #[.pointer (some ⟨p.a, 0, none⟩), .string x, .int .i64 k, .string to] w fun e w' => e = .returned (.tuple #[.int .i64 (makeT s.st x k to).2.1, errOf E (makeT s.st x k to).1]) ∧
      VAt E B L p { s with st := (makeT s.st x k to).2.2 } w' ∧ KV B L NoB w w' := by
  obtain ⟨fm, lab, gd, n, kk, fn, h⟩ := h
  by_cases h0 : (parseP x).1 = 0
  · refine (ts_make h.ts x to k rfl rfl rfl rfl h0 hk).mono ?_
    rintro e w' ⟨h1, h2, h3⟩
    exact ⟨h1, h.ts_out h2 h3 hf⟩
  · refine (tmake_bad h.ts.wb x k to h.env (.inl h0)).mono ?_
    rintro e w' ⟨h1, h2, h3⟩
    exact ⟨h1, h.ts_out (h.ts.kept (by have := hf.full; exact this) h2 h3) h3 hf⟩
theorem va_unlink (h : VAt E B L p s w) (x : ByteArray) (hf : VWf { s with st := (unlinkT s.st x).2.2 }) :
    Calls Tryz.prog 34 #[.pointer (some ⟨p.a, 0, none⟩), .string x] w fun e w' => e = .returned (.tuple #[.int .i64 (unlinkT s.st x).2.1, errOf E (unlinkT s.st x).1]) ∧ VAt E B L p { s with st := (unlinkT s.st x).2.2 } w' ∧ KV B L NoB w w' := by
  obtain ⟨fm, lab, gd, n, kk, fn, h⟩ := h
  refine (ts_unlink h.ts x rfl rfl rfl rfl).mono ?_
  rintro e w' ⟨h1, h2, h3⟩
  exact ⟨h1, h.ts_out h2 h3 hf⟩
theorem va_rename (h : VAt E B L p s w) (x y : ByteArray) (hf : VWf { s with st := (renameT s.st x y).2.2 }) :
    Calls Tryz.prog 37 #[.pointer (some ⟨p.a, 0, none⟩), .string x, .string y] w fun e w' => e = .returned (.tuple #[.int .i64 (renameT s.st x y).2.1, errOf E (renameT s.st x y).1]) ∧ VAt E B L p { s with st := (renameT s.st x y).2.2 } w' ∧ KV B L NoB w w' := by
  obtain ⟨fm, lab, gd, n, kk, fn, h⟩ := h
  refine (ts_rename h.ts x y rfl rfl rfl rfl).mono ?_
  rintro e w' ⟨h1, h2, h3⟩
  exact ⟨h1, h.ts_out h2 h3 hf⟩
theorem va_look (h : VAt E B L p s w) (x : ByteArray) (fo : Bool) :
    Calls Tryz.prog 24 #[.pointer (some ⟨p.a, 0, none⟩), .string x, .bool fo] w fun e w' => e = .returned (.tuple #[encN (lookT s.st x fo).2, errOf E (lookT s.st x fo).1]) ∧ VAt E B L p s w' ∧ KV B L NoB w w' := by
  obtain ⟨fm, lab, gd, n, kk, fn, h⟩ := h
  refine (ts_look h.ts x fo rfl rfl rfl).mono ?_
  rintro e w' ⟨h1, h2, h3⟩
  exact ⟨h1, h.ts_out h2 h3 h.wf⟩
theorem va_entries (h : VAt E B L p s w) :
    Calls Tryz.prog 39 #[.pointer (some ⟨p.a, 0, none⟩)] w fun e w' => e = .returned (.int .i64 s.st.count) ∧ VAt E B L p s w' ∧ KV B L NoB w w' := by
  obtain ⟨fm, lab, gd, n, kk, fn, h⟩ := h
  refine (ts_entries h.ts rfl).mono ?_
  rintro e w' ⟨h1, h2, h3⟩
  exact ⟨h1, h.ts_out h2 h3 h.wf⟩
theorem va_len (h : VAt E B L p s w) : Calls Tryz.prog 38 #[.pointer (some ⟨p.t, 0, none⟩)] w fun e w' => e = .returned (.int .i64 s.st.ns.length) ∧ w = w' := by
  obtain ⟨fm, lab, gd, n, kk, fn, h⟩ := h
  exact wl_len h.wb
theorem va_nget (h : VAt E B L p s w) {k : Int} (hk : -9223372036854775808 ≤ k ∧ k ≤ 9223372036854775807) :
    Calls Tryz.prog 54 #[.pointer (some ⟨p.t, 0, none⟩), .int .i64 k] w fun e w' => e = .returned (.tuple #[encN ((s.st.nd k).getD noNd), .bool (s.st.nd k).isSome]) ∧ Below w.heap.size w w' := by
  obtain ⟨fm, lab, gd, n, kk, fn, h⟩ := h
  exact wl_get h.wb hk
theorem upd_len {st : St} (f : Full st) (n : Nd) : (st.put n).ns.length = if (st.nd n.id).isSome then st.ns.length else st.ns.length + 1 := by
  show (putN n st.ns).length = _
  rw [putN_length f.rise]
  unfold St.nd
  rw [Option.isSome_map]
  rfl
/-- A file's size is put. -/
theorem va_size (h : VAt E B L p s w) {k : Int} {r : NR} (hr : s.st.get k = some r) (hk : r.nd.kind = 1) {z : Int} (h0 : 0 ≤ z) (h1 : z ≤ 16384) (hf : VWf { s with st := s.st.put (sized r.nd z) }) :
    Calls Tryz.prog 65 #[.pointer (some ⟨p.t, 0, none⟩), encN (sized r.nd z)] w fun e w' => e = .returned .nilIface ∧ VAt E B L p { s with st := s.st.put (sized r.nd z) } w' ∧ KV B L NoB w w' := by
  obtain ⟨fm, lab, gd, n, kk, fn, h⟩ := h
  have hid := findN_id hr
  have hid2 : (sized r.nd z).id = k := hid
  have hv := h.wf.full.val r (findN_mem hr)
  have hsome : (s.st.nd (sized r.nd z).id).isSome = true := by rw [hid2]; unfold St.nd; rw [hr]; rfl
  refine (wl_put h.ts.wb (sized r.nd z) (valid_sized hv hk h0 h1) (fun hn => by rw [hsome] at hn; cases hn) h.env.toEnv).mono ?_
  rintro e w' ⟨h2, h3, h4⟩
  rw [hsome, if_pos rfl] at h3
  have hnd : (s.st.put (sized r.nd z)).nd = upd s.st.nd (sized r.nd z).id (sized r.nd z) := nd_put h.wf.full.rise _
  have hlen : (s.st.put (sized r.nd z)).ns.length = s.st.ns.length := by rw [upd_len h.wf.full, hsome, if_pos rfl]
  have hlast : (s.st.put (sized r.nd z)).last = max s.st.last (sized r.nd z).id := rfl
  have hkd : s.st.isDir k = false := by unfold St.isDir; rw [hr]; simp [hk]
  have hents : (s.st.put (sized r.nd z)).ents = s.st.ents := by
    rw [ents_put h.wf.full.rise]
    funext i
    by_cases hi : i = (sized r.nd z).id
    · rw [if_pos hi, hi, hid2]
      have hf0 := h.wf.full.flat r (findN_mem hr) (by rw [hk]; decide)
      unfold St.ents
      rw [hr]
      simp [keepE, sized, hk, hf0]
    · rw [if_neg hi]
  have hdir : ∀ i, (s.st.put (sized r.nd z)).isDir i = s.st.isDir i := fun i => by
    by_cases he : i = k
    · rw [he, hkd]
      unfold St.isDir
      rw [get_sized h.wf.full hr hk, if_pos rfl]
      show (r.nd.kind == 2) = false
      rw [hk]
      rfl
    · unfold St.isDir
      rw [get_sized h.wf.full hr hk, if_neg he]
  have hw : WB B (LW L p fm w) w' p.b p.t p.dm (s.st.put (sized r.nd z)) := by
    unfold WB
    rw [hnd, hlen, hlast, hents]
    exact h3.weak fun d hd i hi => by rw [hdir]; exact hd i hi
  exact ⟨h2, h.ts_out (h.ts.kept hf.full hw h4) h4 hf⟩
/-! ### blocks -/
theorem in64_of {k : Int} (h0 : 0 ≤ k) (h1 : k ≤ 16777215) : In64 k := by unfold In64; omega
theorem va_bhas (h : VAt E B L p s w) {k : Int} (hk : In64 k) {i : Nat} (hi : i < 64) : Calls Tryz.prog 113 #[.pointer (some ⟨p.bb, 0, none⟩), .agg #[.int .i64 k, .int .i64 i]] w fun e w' => e = .returned (.bool (s.g k i).isSome) ∧ Below w.heap.size w w' := by
  obtain ⟨fm, lab, gd, n, kk, fn, h⟩ := h
  have := bhas_any (c := (k, (i : Int))) h.body hk (in64_of (by omega) (by omega))
  rw [gB_at _ _ hi] at this
  exact this
theorem va_bget (h : VAt E B L p s w) {k : Int} (hk : In64 k) {i : Nat} (hi : i < 64) (hg : s.g k i ≠ some none) :
    Calls Tryz.prog 29 #[.pointer (some ⟨p.bb, 0, none⟩), .agg #[.int .i64 k, .int .i64 i]] w fun e w' =>
      (∃ h' cap, e = .returned (.tuple #[.slice (some ⟨h', 0, none⟩) 256 cap, .nilIface]) ∧ w.heap.size ≤ h' ∧ Buf w' h' 5 cap ((bytesOf (s.g k i)).map (Value.int .u8))) ∧ Below w.heap.size w w' := by
  obtain ⟨fm, lab, gd, n, kk, fn, h⟩ := h
  cases hb : s.g k i with
  | none =>
    refine (bget_none (c := (k, (i : Int))) h.body hk (in64_of (by omega) (by omega)) (by rw [gB_at _ _ hi]; exact hb)).mono ?_
    rintro e w' h1
    exact h1
  | some o =>
    cases o with
    | none => exact absurd hb hg
    | some l =>
      refine (bget_some (c := (k, (i : Int))) h.body hk (in64_of (by omega) (by omega)) (by rw [gB_at _ _ hi]; exact hb)).mono ?_
      rintro e w' h1
      exact h1
theorem va_bget_lost (h : VAt E B L p s w) {k : Int} (hk : In64 k) {i : Nat} (hi : i < 64) (hg : s.g k i = some none) :
    Calls Tryz.prog 29 #[.pointer (some ⟨p.bb, 0, none⟩), .agg #[.int .i64 k, .int .i64 i]] w fun e w' => e = .returned (.tuple #[.slice none 0 0, errV E 5]) ∧ Below w.heap.size w w' := by
  obtain ⟨fm, lab, gd, n, kk, fn, h⟩ := h
  exact bget_lost (c := (k, (i : Int))) h.body hk (in64_of (by omega) (by omega)) (by rw [gB_at _ _ hi]; exact hg) h.env.toEnv
def setG (g : Int → Nat → FBlk) (k : Int) (i : Nat) (o : FBlk) : Int → Nat → FBlk := fun a j => if a = k ∧ j = i then o else g a j
theorem VA.mlt {fm : Option Nat} {lab : Nat → Nat} {gd : Cl → Option Int} {n k fn : Nat} (h : VA E B L p s w fm lab gd n k fn) : ∀ x, (x = p.bb ∨ x = p.bm ∨ x = p.bd ∨ L x) → x < w.heap.size := fun x hx => by
  rcases hx with hx | hx | hx | hx
  · exact h.lt (.inr (.inr (.inl hx)))
  · exact h.lt (.inr (.inr (.inr (.inl hx))))
  · exact h.lt (.inr (.inr (.inr (.inr (.inl hx)))))
  · exact h.hL hx
theorem va_bset (h : VAt E B L p s w) {k : Int} (hk : 1 ≤ k ∧ k ≤ 16777215) {i : Nat} (hi : i < 64) {sp : Option Addr} {cap : Nat} {l : List Int} (hl : l.length ≤ 256) (hin : SlIn w sp l) (hf : VWf { s with g := setG s.g k i (some (some (pad l))) }) :
    Calls Tryz.prog 63 #[.pointer (some ⟨p.bb, 0, none⟩), .agg #[.int .i64 k, .int .i64 i], .slice sp l.length cap] w fun e w' => e = .returned .nilIface ∧ VAt E B L p { s with g := setG s.g k i (some (some (pad l))) } w' ∧ KV B L NoB w w' := by
  obtain ⟨fm, lab, gd, n, kk, fn, h⟩ := h
  refine (bset_ok (c := (k, (i : Int))) h.body ⟨hk.1, hk.2, by simp only; omega, by simp only; omega⟩ (cap := cap) hl hin h.mlt).mono ?_
  rintro e w' ⟨h1, h2⟩
  rw [gB_set _ _ hi] at h2
  obtain ⟨⟨n', k', h3⟩, h4⟩ := h.blocks (X := NoB) h2 hf
  exact ⟨h1, ⟨fm, lab, _, n', k', fn, h3⟩, h4⟩
theorem va_of (h : VAt E B L p s w) (k : Int) :
    Calls Tryz.prog 71 #[.pointer (some ⟨p.bb, 0, none⟩), .int .i64 k] w fun e w' =>
      (∃ v, e = .returned v ∧ SlE w' w.heap.size 3 1 encI1 v ((idxL (s.g k)).map fun i : Nat => (i : Int))) ∧ Below w.heap.size w w' := by
  obtain ⟨fm, lab, gd, n, kk, fn, h⟩ := h
  refine (bof_any h.body (by have := h.nkeys; have := h.wf.few; omega) k).mono ?_
  rintro e w' ⟨⟨v, zs, rfl, h1, h2, h3, _⟩, hb⟩
  rw [idxL_eq h1 h2] at h3
  exact ⟨⟨v, rfl, h3⟩, hb⟩
theorem va_cells (h : VAt E B L p s w) :
    Calls Tryz.prog 40 #[.pointer (some ⟨p.bb, 0, none⟩)] w fun e w' => (∃ sp cap, e = .returned (.slice sp (cellsL s.g s.st.ns).length cap)) ∧ Below w.heap.size w w' := by
  obtain ⟨fm, lab, gd, n, kk, fn, h⟩ := h
  have hn := h.nkeys
  refine (bcells_any h.body (by have := h.wf.few; omega)).mono ?_
  rintro e w' ⟨⟨v, zs, rfl, h1, h2, h3⟩, hb⟩
  obtain ⟨sp, cap, rfl⟩ := h3.shape
  refine ⟨⟨sp, cap, ?_⟩, hb⟩
  rw [h1.len, hn]
/-! ### what is open -/
theorem gF_none {fs : Nat → Option Hdl} {k : Int} (h : k < 0 ∨ fs k.toNat = none) : gF fs k = none := by
  unfold gF
  split
  · rcases h with h | h
    · omega
    · rw [h]; rfl
  · rfl
theorem va_fget (h : VAt E B L p s w) {fd : Nat} (hfd : fd < 16) {x : Hdl} (hx : s.fs fd = some x) :
    Calls Tryz.prog 58 #[.pointer (some ⟨p.fb, 0, none⟩), .int .i64 fd] w fun e w' => e = .returned (.tuple #[.agg #[.int .i64 x.node, .int .i64 x.pos], .nilIface]) ∧ Below w.heap.size w w' := by
  obtain ⟨fm, lab, gd, n, kk, fn, h⟩ := h
  exact get_some h.files (k := fd) (by omega) (by rw [gF_at, hx]; rfl)
theorem va_fget_no (h : VAt E B L p s w) {k : Int} (hk : In64 k) (hx : k < 0 ∨ s.fs k.toNat = none) :
    Calls Tryz.prog 58 #[.pointer (some ⟨p.fb, 0, none⟩), .int .i64 k] w fun e w' => e = .returned (.tuple #[.agg #[.int .i64 0, .int .i64 0], errV E 9]) ∧ Below w.heap.size w w' := by
  obtain ⟨fm, lab, gd, n, kk, fn, h⟩ := h
  exact get_none h.files hk (gF_none hx) h.env.toEnv
theorem va_move (h : VAt E B L p s w) {fd : Nat} (hfd : fd < 16) {x : Hdl} (hx : s.fs fd = some x) {q : Int} (h0 : 0 ≤ q) (h1 : q ≤ 1099511627776) (hf : VWf { s with fs := fun j => if j = fd then some ⟨x.node, q⟩ else s.fs j }) :
    Calls Tryz.prog 42 #[.pointer (some ⟨p.fb, 0, none⟩), .int .i64 fd, .int .i64 q] w fun e w' => e = .returned .nilIface ∧ VAt E B L p { s with fs := fun j => if j = fd then some ⟨x.node, q⟩ else s.fs j } w' ∧ KV B L NoB w w' := by
  obtain ⟨fm, lab, gd, n, kk, fn, h⟩ := h
  refine (move_in h.files (k := fd) (by omega) (nd := x.node) (ps := x.pos) (by rw [gF_at, hx]; rfl) ⟨h0, h1⟩).mono ?_
  rintro e w' ⟨h2, h3⟩
  rw [gF_set s.fs fd ⟨x.node, q⟩] at h3
  obtain ⟨⟨fm', lab', h4⟩, h5⟩ := h.opens (X := NoB) h3 hf
  exact ⟨h2, ⟨fm', lab', gd, n, kk, _, h4⟩, h5⟩
theorem va_fclose (h : VAt E B L p s w) {fd : Nat} (hfd : fd < 16) {x : Hdl} (hx : s.fs fd = some x) (hf : VWf { s with fs := fun j => if j = fd then none else s.fs j }) :
    Calls Tryz.prog 36 #[.pointer (some ⟨p.fb, 0, none⟩), .int .i64 fd] w fun e w' => e = .returned (.tuple #[.agg #[.int .i64 x.node, .int .i64 x.pos], .nilIface]) ∧ VAt E B L p { s with fs := fun j => if j = fd then none else s.fs j } w' ∧ KV B L NoB w w' := by
  obtain ⟨fm, lab, gd, n, kk, fn, h⟩ := h
  refine (close_some h.files (k := fd) (by omega) (nd := x.node) (ps := x.pos) (by rw [gF_at, hx]; rfl)).mono ?_
  rintro e w' ⟨h2, h3⟩
  rw [gF_del s.fs fd] at h3
  obtain ⟨⟨fm', lab', h4⟩, h5⟩ := h.opens (X := NoB) h3 hf
  exact ⟨h2, ⟨fm', lab', gd, n, kk, _, h4⟩, h5⟩
theorem va_fclose_no (h : VAt E B L p s w) {k : Int} (hk : In64 k) (hx : k < 0 ∨ s.fs k.toNat = none) :
    Calls Tryz.prog 36 #[.pointer (some ⟨p.fb, 0, none⟩), .int .i64 k] w fun e w' => e = .returned (.tuple #[.agg #[.int .i64 0, .int .i64 0], errV E 9]) ∧ Below w.heap.size w w' := by
  obtain ⟨fm, lab, gd, n, kk, fn, h⟩ := h
  exact close_none h.files hk (gF_none hx) h.env.toEnv
theorem fdOf_some {fs : Nat → Option Hdl} {fd : Nat} (h : fdOf fs = some fd) : fd < 16 ∧ fs fd = none ∧ ∀ j, j < fd → fs j ≠ none := by
  unfold fdOf at h
  obtain ⟨h1, l1, l2, h2, h3⟩ := List.find?_eq_some_iff_append.1 h
  have hm : fd ∈ List.range 16 := List.mem_of_find?_eq_some h
  have hr := List.mem_range.1 hm
  refine ⟨hr, by simpa using h1, fun j hj e => ?_⟩
  have hlen : l1.length = fd := by
    have h4 : (List.range 16)[l1.length]? = some fd := by rw [h2]; simp
    rw [List.getElem?_range] at h4
    · injection h4
    · have := congrArg List.length h2
      simp at this
      omega
  have h5 : l1[j]? = some j := by
    have h6 : (List.range 16)[j]? = some j := List.getElem?_range (by omega)
    rw [h2, List.getElem?_append_left (by omega)] at h6
    exact h6
  have := h3 j (List.mem_of_getElem? h5)
  rw [e] at this
  simp at this
theorem fdOf_none {fs : Nat → Option Hdl} (h : fdOf fs = none) : ∀ j, j < 16 → fs j ≠ none := by
  intro j hj e
  unfold fdOf at h
  have := List.find?_eq_none.1 h j (List.mem_range.2 hj)
  rw [e] at this
  simp at this
theorem va_fopen (h : VAt E B L p s w) (id : Int) {fd : Nat} (hfd : fdOf s.fs = some fd) (hf : VWf { s with fs := fun j => if j = fd then some ⟨id, 0⟩ else s.fs j }) :
    Calls Tryz.prog 26 #[.pointer (some ⟨p.fb, 0, none⟩), .int .i64 id] w fun e w' => e = .returned (.tuple #[.int .i64 fd, .nilIface]) ∧ VAt E B L p { s with fs := fun j => if j = fd then some ⟨id, 0⟩ else s.fs j } w' ∧ KV B L NoB w w' := by
  obtain ⟨fm, lab, gd, n, kk, fn, h⟩ := h
  obtain ⟨g1, g2, g3⟩ := fdOf_some hfd
  refine (open_ok h.files id g1 (fun j hj => ?_) (by rw [gF_at, g2]; rfl)).mono ?_
  · rw [gF_at]
    intro e
    exact g3 j hj (by simpa using e)
  rintro e w' ⟨h2, h3⟩
  rw [gF_set s.fs fd ⟨id, 0⟩] at h3
  obtain ⟨⟨fm', lab', h4⟩, h5⟩ := h.opens (X := NoB) h3 hf
  exact ⟨h2, ⟨fm', lab', gd, n, kk, _, h4⟩, h5⟩
theorem va_fopen_no (h : VAt E B L p s w) (id : Int) (hfd : fdOf s.fs = none) :
    Calls Tryz.prog 26 #[.pointer (some ⟨p.fb, 0, none⟩), .int .i64 id] w fun e w' => e = .returned (.tuple #[.int .i64 0, errV E 4]) ∧ Below w.heap.size w w' := by
  obtain ⟨fm, lab, gd, n, kk, fn, h⟩ := h
  refine open_full h.files id (fun j hj => ?_) h.env.toEnv
  rw [gF_at]
  intro e
  exact fdOf_none hfd j hj (by simpa using e)
theorem VWf.holds (h : VWf s) (id : Int) : s.holds id = true ↔ ∃ k q, gF s.fs k = some (id, q) := by
  unfold V.holds
  rw [List.any_eq_true]
  constructor
  · rintro ⟨fd, _, hfd⟩
    split at hfd
    · rename_i x hx
      refine ⟨fd, x.pos, ?_⟩
      rw [gF_at, hx]
      simp only [beq_iff_eq] at hfd
      simp [hfd]
    · cases hfd
  · rintro ⟨k, q, hk⟩
    unfold gF at hk
    split at hk
    · cases hx : s.fs k.toNat with
      | none => rw [hx] at hk; cases hk
      | some x =>
        rw [hx] at hk
        simp at hk
        refine ⟨k.toNat, List.mem_range.2 (h.fs _ x hx).1, ?_⟩
        rw [hx]
        simp [hk.1]
    · cases hk
theorem va_holds (h : VAt E B L p s w) (id : Int) :
    Calls Tryz.prog 69 #[.pointer (some ⟨p.fb, 0, none⟩), .int .i64 id] w fun e w' => e = .returned (.bool (s.holds id)) ∧ Below w.heap.size w w' := by
  obtain ⟨fm, lab, gd, n, kk, fn, h⟩ := h
  cases fm with
  | none =>
    refine (holds_nil h.files id).mono ?_
    rintro e w' ⟨h1, h2⟩
    refine ⟨?_, h2⟩
    rw [h1]
    cases hh : s.holds id with
    | false => rfl
    | true =>
      obtain ⟨k, q, hk⟩ := (h.wf.holds id).1 hh
      rw [h.files.2.2.2.2 k] at hk
      cases hk
  | some r =>
    refine (holds_some h.files id).mono ?_
    rintro e w' ⟨⟨x, h1, h2⟩, h3⟩
    refine ⟨?_, h3⟩
    have : x = s.holds id := by
      rw [Bool.eq_iff_iff, h2, h.wf.holds id]
    rw [h1, this]
end
end Go.Proofs.YtjekpbkmhgfhoaaGreatDoor
end

section
/- The walks of package vol: New, Of, Clone, Count. -/
namespace Go.Proofs.YtjekpbkmhgfhoaaGreatDoor
open Go Go.RowKit
set_option maxRecDepth 100000
set_option linter.unusedSimpArgs false
set_option linter.unusedVariables false
attribute [local go_sem] giv
variable {E : Nat → Addr} {B : Nat}
/-- Blocks whose first cell is not plain may be counted among those that hold no bytes. -/
theorem BodyAt.dense {w : World} {M : Nat → Prop} {b m d : Nat} {g : Cl → Option (Option (List Int))} {gd : Cl → Option Int} {n k : Nat} (h : BodyAt w M b m d g gd n k) : BodyAt w (fun x => M x ∨ ¬ Plain w x) b m d g gd n k := by
  obtain ⟨gv, h3, h4⟩ := h.has
  refine { h with Mb := .inl h.Mb, Mm := .inl h.Mm, Md := .inl h.Md, has := ⟨gv, h3, fun c => ?_⟩ }
  rcases h4 c with h5 | ⟨v, o, h5, h6, h7⟩
  · exact .inl h5
  · refine .inr ⟨v, o, h5, h6, ?_⟩
    rcases h7 with h7 | ⟨x, l, e1, e2, e3, e4, e5⟩
    · exact .inl h7
    · refine .inr ⟨x, l, e1, e2, e3, e4, fun hx => ?_⟩
      rcases hx with hx | hx
      · exact e5 hx
      · obtain ⟨y, ys, hl⟩ : ∃ y ys, l = y :: ys := by
          cases l with
          | nil => cases e3
          | cons y ys => exact ⟨y, ys, rfl⟩
        subst hl
        exact hx (e4.plain (plainI _ _))
/-- A volume put together of its parts, made one behind the other. -/
theorem va_joined {s : V} {w w1 w2 w3 : World} {a b t dm bb bm bd fb : Nat} {fm : Option Nat} {gd : Cl → Option Int} {n k fn : Nat} {M : Nat → Prop} {T : TypeId}
    (hE : EnvM E B w) (hwf : VWf s) (ha : w.heap.size ≤ a) (hta : TA w1 a b) (hwb : WB w.heap.size (fun x => x = a) w1 b t dm s.st) (h01 : Below w.heap.size w w1)
    (hb1 : w1.heap.size ≤ bb) (hm1 : w1.heap.size ≤ bm) (hd1 : w1.heap.size ≤ bd) (hbody : BodyAt w2 M bb bm bd (gB s.g) gd n k) (h12 : Below w1.heap.size w1 w2)
    (hf : FilesAt w3 fb fm (gF s.fs) fn) (hfo : ∀ x, Own fb fm x → w2.heap.size ≤ x) (h23 : Below w2.heap.size w2 w3) {L' : Nat → Prop} (hL' : ∀ x, L' x → x < w.heap.size) (hLM : ∀ x, L' x → M x) :
    VAt E B L' ⟨w3.heap.size, a, b, t, dm, bb, bm, bd, fb⟩ s (w3.alloc (.cells #[.pointer (some ⟨a, 0, none⟩), .pointer (some ⟨bb, 0, none⟩), .pointer (some ⟨fb, 0, none⟩), .int .i64 s.quota] T)) := by
  obtain ⟨w4, hw4⟩ : ∃ w4, w4 = w3.alloc (.cells #[.pointer (some ⟨a, 0, none⟩), .pointer (some ⟨bb, 0, none⟩), .pointer (some ⟨fb, 0, none⟩), .int .i64 s.quota] T) := ⟨_, rfl⟩
  have hz4 : w4.heap.size = w3.heap.size + 1 := by rw [hw4]; simp
  have h34 : Below w3.heap.size w3 w4 := by rw [hw4]; exact bl_alloc (Below.refl _ _) _
  have r : Row w4 w3.heap.size T [.pointer (some ⟨a, 0, none⟩), .pointer (some ⟨bb, 0, none⟩), .pointer (some ⟨fb, 0, none⟩), .int .i64 s.quota] := by rw [hw4]; exact Row.new _ _ _
  rw [← hw4]
  have z01 := h01.size
  have z12 := h12.size
  have z23 := h23.size
  have h14 : Below w1.heap.size w1 w4 := (h12.trans (h23.mono z12)).trans (h34.mono (Nat.le_trans z12 z23))
  have h24 : Below w2.heap.size w2 w4 := h23.trans (h34.mono z23)
  have h04 : Below w.heap.size w w4 := h01.trans (h14.mono z01)
  have lb := hbody.lt
  have lm := hbody.ltm
  have ld := hbody.ltd
  have la := hta.2
  have lf : ∀ x, Own fb fm x → x < w3.heap.size := by
    rintro x (rfl | hx)
    · exact hf.2.2.1
    · subst hx; exact hf.2.2.2.2.lt
  have hall : ∀ x, Fp ⟨w3.heap.size, a, b, t, dm, bb, bm, bd, fb⟩ fm x → x = a ∨ (w1.heap.size ≤ x ∧ x < w4.heap.size) := by
    rintro x (hx | hx | hx | hx | hx | hx)
    · simp only at hx; right; omega
    · exact .inl hx
    · simp only at hx; right; omega
    · simp only at hx; right; omega
    · simp only at hx; right; omega
    · have h1 := hfo x hx
      have h2 := lf x hx
      right; omega
  refine ⟨fm, fun x => if x = w3.heap.size then 1 else if x < w1.heap.size then 2 else if x < w2.heap.size then 3 else 4, gd, n, k, fn, ⟨r.cell 0, r.cell 1, r.cell 2, r.cell 3, hta.below h14, ?_, ?_, hf.below h34, ?_, if_pos rfl, ?_, ⟨?_, ?_, ?_⟩, ?_, hE.keep (h04.mono hE.size)⟩, hwf⟩
  · obtain ⟨g1, g2, nm, dirs, pn, lab, g3, g4, g5⟩ := hwb.loc' (L' := fun x => Fp ⟨w3.heap.size, a, b, t, dm, bb, bm, bd, fb⟩ fm x) h14 fun x hx => hall x hx
    refine ⟨Nat.le_trans hE.size g1, fun x hx => ?_, nm, dirs, pn, lab, g3, fun x hx => ⟨Nat.le_trans hE.size (g4 x hx).1, fun hl => ?_⟩, g5⟩
    · rcases hx with hx | hx
      · exact Nat.lt_of_lt_of_le (hL' x hx) h04.size
      · exact g2 x hx
    · rcases hl with hl | hl
      · have := hL' x hl
        have := (g4 x hx).1
        omega
      · exact (g4 x hx).2 hl
  · refine (hbody.less (fun x hx => ?_) (.inl rfl) (.inr (.inl rfl)) (.inr (.inr (.inl rfl)))).below h24
    rcases hx with hx | hx | hx | hx
    · rw [hx]; exact hbody.Mb
    · rw [hx]; exact hbody.Mm
    · rw [hx]; exact hbody.Md
    · exact hLM x hx
  · intro x hx
    have hBz := hE.size
    refine ⟨?_, fun h => ?_⟩
    · rcases hall x hx with h | h <;> omega
    · have := hL' x h
      rcases hall x hx with h | h <;> omega
  · show (if a = w3.heap.size then 1 else if a < w1.heap.size then 2 else if a < w2.heap.size then 3 else 4) = 2
    rw [if_neg (by omega), if_pos la]
  · show (if bb = w3.heap.size then 1 else if bb < w1.heap.size then 2 else if bb < w2.heap.size then 3 else 4) = 3
    rw [if_neg (by omega), if_neg (by omega), if_pos lb]
  · show (if bm = w3.heap.size then 1 else if bm < w1.heap.size then 2 else if bm < w2.heap.size then 3 else 4) = 3
    rw [if_neg (by omega), if_neg (by omega), if_pos lm]
  · show (if bd = w3.heap.size then 1 else if bd < w1.heap.size then 2 else if bd < w2.heap.size then 3 else 4) = 3
    rw [if_neg (by omega), if_neg (by omega), if_pos ld]
  · intro x hx
    have h1 := hfo x hx
    have h2 := lf x hx
    show (if x = w3.heap.size then 1 else if x < w1.heap.size then 2 else if x < w2.heap.size then 3 else 4) = 4
    rw [if_neg (by omega), if_neg (by omega), if_neg (by omega)]
section
variable {L : Nat → Prop} {p : VP} {s : V} {w w' : World}
theorem VAt.set (h : VAt E B L p s w) {c : Nat} (hc : L c) (hB : B ≤ c) (i : Nat) (u : Value) : VAt E B L p s (w.setCell ⟨c, i, none⟩ u) :=
  h.touch (Touch.setCell (S := fun x => x = c) (Touch.refl _ _) (.inl rfl) u) fun x hx => by rw [hx]; exact ⟨hc, hB⟩
/-- A call's own block for a result of several cells. -/
structure RC (C : Nat) (w : World) : Prop where
  lt : C < w.heap.size
  froz : ∀ i, w.frozen? ⟨C, i, none⟩ = false
/-- The classes of a region that draws its order over a volume. -/
def CV (E : Nat → Addr) (B : Nat) (L : Nat → Prop) (p : VP) (s : V) (w0 w : World) : Prop := VAt E B L p s w ∧ KV B L NoB w0 w
def EV (E : Nat → Addr) (B : Nat) (L : Nat → Prop) (p : VP) (s : V) (w w' : World) : Prop := (VAt E B L p s w → VAt E B L p s w') ∧ KV B L NoB w w'
theorem EV.refl (w : World) : EV E B L p s w w := ⟨id, KV.refl _ _ _ _⟩
theorem EV.below (h : Below w.heap.size w w') : EV E B L p s w w' := ⟨fun x => x.below h, KV.of_below h⟩
theorem CV.step {w0 : World} (h : CV E B L p s w0 w) (k : EV E B L p s w w') : CV E B L p s w0 w' := ⟨k.1 h.1, h.2.trans k.2⟩
theorem CV.start (h : VAt E B L p s w) : CV E B L p s w w := ⟨h, KV.refl _ _ _ _⟩
theorem CV.drew {w0 : World} (h : CV E B L p s w0 w) : CV E B L p s w0 w.drew := h.step (EV.below (Below.refl _ _).drew)
/-- What a walk loads of a volume. -/
def VC (p : VP) (w' : World) : Prop := w'.cell? ⟨p.v, 0, none⟩ = some (.pointer (some ⟨p.a, 0, none⟩)) ∧ w'.cell? ⟨p.v, 1, none⟩ = some (.pointer (some ⟨p.bb, 0, none⟩)) ∧ w'.cell? ⟨p.v, 2, none⟩ = some (.pointer (some ⟨p.fb, 0, none⟩)) ∧ w'.cell? ⟨p.a, 0, none⟩ = some (.pointer (some ⟨p.b, 0, none⟩)) ∧ w'.cell? ⟨p.b, 0, none⟩ = some (.pointer (some ⟨p.t, 0, none⟩))
theorem VAt.vc (h : VAt E B L p s w) : VC p w := by
  obtain ⟨c0, c1, c2, c3, cl⟩ := h.cells
  obtain ⟨t0, t1, t2, t3⟩ := h.tcells
  exact ⟨c0, c1, c2, t0, t2⟩
/-- The blocks that are there, but for those of bytes that none of L is. -/
def OldL (L : Nat → Prop) (w : World) (x : Nat) : Prop := x < w.heap.size ∧ (¬ Plain w x ∨ L x)
set_option maxHeartbeats 2000000 in
/-- Clone: one of its own, that has the same. -/
theorem vclone_any (h : VAt E B L p s w) : Calls Tryz.prog 61 #[.pointer (some ⟨p.v, 0, none⟩)] w fun e w' => (∃ p', e = .returned (.pointer (some ⟨p'.v, 0, none⟩)) ∧ VAt E B (OldL L w) p' s w') ∧ Below w.heap.size w w' := by
  generalize hP : (fun (e : Ending) (w' : World) => (∃ p', e = .returned (.pointer (some ⟨p'.v, 0, none⟩)) ∧ VAt E B (OldL L w) p' s w') ∧ Below w.heap.size w w') = Post
  have HP := Lib.hid hP
  obtain ⟨fm, lab, gd, n, kk, fn, hv⟩ := h
  have H := Lib.hid hv
  have s0 := hv.c0
  have s1 := hv.c1
  have s2 := hv.c2
  have s3 := hv.c3
  have hlt := hv.lt (.inl rfl)
  clear hv hP
  obtain ⟨pv, pa, pb, pt, pd, bb, bm, bd, fb⟩ := p
  simp only at s0 s1 s2 s3 hlt
  go_enter Tryz.func61, Tryz.ntmps61
  go_wp2_with fail
  have K : ∀ w', Below w.heap.size w w' → w'.cell? ⟨pv, 0, none⟩ = some (.pointer (some ⟨pa, 0, none⟩)) ∧ w'.cell? ⟨pv, 1, none⟩ = some (.pointer (some ⟨bb, 0, none⟩)) ∧ w'.cell? ⟨pv, 2, none⟩ = some (.pointer (some ⟨fb, 0, none⟩)) ∧ w'.cell? ⟨pv, 3, none⟩ = some (.int .i64 s.quota) ∧ Below w.heap.size w w' := fun w' hb =>
    ⟨(hb.cell (p := ⟨pv, 0, none⟩) hlt).trans s0, (hb.cell (p := ⟨pv, 1, none⟩) hlt).trans s1, (hb.cell (p := ⟨pv, 2, none⟩) hlt).trans s2, (hb.cell (p := ⟨pv, 3, none⟩) hlt).trans s3, hb⟩
  have HK := Lib.hid K
  clear K
  go_region_held3 (fun w' => w'.cell? ⟨pv, 0, none⟩ = some (.pointer (some ⟨pa, 0, none⟩)) ∧ w'.cell? ⟨pv, 1, none⟩ = some (.pointer (some ⟨bb, 0, none⟩)) ∧ w'.cell? ⟨pv, 2, none⟩ = some (.pointer (some ⟨fb, 0, none⟩)) ∧ w'.cell? ⟨pv, 3, none⟩ = some (.int .i64 s.quota) ∧ Below w.heap.size w w') (first | exact HK.out _ (Below.refl _ _).drew | exact HK.out _ HW3.out | exact HK.out _ HW2.out | exact HK.out _ HW1.out | exact HK.out _ (bl_alloc HW3.out _))
    (first
      | (go_at_call 106; refine (tclone_any (H.out.ts.below (Below.refl w.heap.size w).drew)).mono ?_; rintro e w1 ⟨⟨a', b', t', dm', rfl, ha, hta, hwb⟩, hb1⟩; have HW1 : Hid (Below w.heap.size w w1) := Lib.hid ((Below.refl w.heap.size w).drew.trans hb1); have HT := Lib.hid (And.intro ha (And.intro hta hwb)); clear ha hta hwb hb1)
      | (go_at_call 107; refine (bclone_any (H.out.body.dense.below HW1.out)).mono ?_; rintro e w2 ⟨⟨b2, m2, d2, rfl, e1, e2, e3, hbd⟩, hb2⟩; have HW2 : Hid (Below w.heap.size w w2) := Lib.hid (HW1.out.trans (hb2.mono HW1.out.size)); have HBD := Lib.hid (And.intro e1 (And.intro e2 (And.intro e3 hbd))); have HB2 := Lib.hid hb2; clear e1 e2 e3 hbd hb2)
      | (go_at_call 108; refine (fclone_any (H.out.files.below HW2.out)).mono ?_; rintro e w3 ⟨⟨f3, m3, rfl, hfl, hfo⟩, hb3⟩; have HW3 : Hid (Below w.heap.size w w3) := Lib.hid (HW2.out.trans (hb3.mono HW2.out.size)); have HF := Lib.hid (And.intro hfl hfo); have HB3 := Lib.hid hb3; clear hfl hfo hb3))
  go_wp2
  rw [← HP.out]
  obtain ⟨ha, hta, hwb⟩ := HT.out
  obtain ⟨e1, e2, e3, hbd⟩ := HBD.out
  obtain ⟨hfl, hfo⟩ := HF.out
  exact ⟨⟨_, rfl, va_joined H.out.env H.out.wf ha hta hwb HW1.out e1 e2 e3 hbd HB2.out hfl hfo HB3.out (L' := OldL L w) (fun x hx => hx.1) (fun x hx => .inl (hx.2.symm.imp (fun h => .inr (.inr (.inr h))) id))⟩, bl_alloc HW3.out _⟩
set_option maxHeartbeats 2000000 in
/-- Count: how many nodes, entries, blocks. -/
theorem vcount_any (h : VAt E B L p s w) : Calls Tryz.prog 13 #[.pointer (some ⟨p.v, 0, none⟩)] w fun e w' => e = .returned (.agg #[.int .i64 s.nodes, .int .i64 s.st.count, .int .i64 s.blocks]) ∧ VAt E B L p s w' ∧ KV B L NoB w w' := by
  generalize hP : (fun (e : Ending) (w' : World) => e = .returned (.agg #[.int .i64 s.nodes, .int .i64 s.st.count, .int .i64 s.blocks]) ∧ VAt E B L p s w' ∧ KV B L NoB w w') = Post
  have HP := Lib.hid hP
  have H := Lib.hid h
  have hlL : ∀ x, L x → x < w.heap.size := fun x hx => h.hL hx
  have HLL := Lib.hid hlL
  have HBZ := Lib.hid h.hB
  obtain ⟨C, hC⟩ : ∃ C, w.heap.size = C := ⟨_, rfl⟩
  obtain ⟨w0, hw0⟩ : ∃ w0, w0 = w.alloc (.cells #[.int .i64 0, .int .i64 0, .int .i64 0] 36) := ⟨_, rfl⟩
  have hb0 : Below w.heap.size w w0 := by rw [hw0]; exact bl_alloc (Below.refl _ _) _
  have hz0 : w0.heap.size = C + 1 := by rw [hw0]; simp [hC]
  obtain ⟨L1, hL1⟩ : ∃ L1 : Nat → Prop, L1 = fun x => x = C ∨ L x := ⟨_, rfl⟩
  have HL1 : Hid (L1 C ∧ (∀ x, L x → L1 x)) := Lib.hid (by rw [hL1]; exact ⟨.inl rfl, fun x hx => .inr hx⟩)
  have h0 : VAt E B L1 p s w0 := h.loc hb0 (fun x hx => by
    rw [hL1] at hx
    rcases hx with hx | hx
    · right; omega
    · exact .inl hx) HL1.out.2
  have H0 := Lib.hid h0
  have r0 : Row w0 C 36 [.int .i64 0, .int .i64 0, .int .i64 0] := by rw [hw0, ← hC]; exact Row.new _ _ _
  have HR0 := Lib.hid r0
  have HB0 := Lib.hid hb0
  have HC := Lib.hid hC
  have HZ0 := Lib.hid hz0
  have HRC0 : Hid (RC C w0) := Lib.hid ⟨r0.lt, fun i => r0.froz i⟩
  have HBC : Hid (B ≤ C) := Lib.hid (by rw [← hC]; exact HBZ.out)
  clear hP h hb0 h0 r0 hlL hL1 hz0
  obtain ⟨pv, pa, pb, pt, pd, bb, bm, bd, fb⟩ := p
  go_enter Tryz.func13, Tryz.ntmps13
  go_wp2_with fail
  rw [← hw0]
  clear hw0 hC
  have S : ∀ w', CV E B L1 ⟨pv, pa, pb, pt, pd, bb, bm, bd, fb⟩ s w0 w' → w'.cell? ⟨pv, 0, none⟩ = some (.pointer (some ⟨pa, 0, none⟩)) ∧ w'.cell? ⟨pv, 1, none⟩ = some (.pointer (some ⟨bb, 0, none⟩)) ∧ w'.cell? ⟨pa, 0, none⟩ = some (.pointer (some ⟨pb, 0, none⟩)) ∧ w'.cell? ⟨pb, 0, none⟩ = some (.pointer (some ⟨pt, 0, none⟩)) := fun w' hC => by
    obtain ⟨c0, c1, c2, t0, t1⟩ := hC.1.vc
    exact ⟨c0, c1, t0, t1⟩
  apply wp_region_tail 23 _ (by kernel_rfl) (by kernel_rfl) (by kernel_rfl) (by decide) (CV E B L1 ⟨pv,pa,pb,pt,pd,bb,bm,bd,fb⟩ s w0) (EV E B L1 ⟨pv,pa,pb,pt,pd,bb,bm,bd,fb⟩ s) (fun w' w'' h1 h2 => h1.step h2) (CV.drew (CV.start H0.out))
  simp only [List.take_succ_cons, List.take_zero, List.drop_succ_cons, List.drop_zero]
  repeat (first
    | (apply wpRel_skip (by rfl)
       simp only [Act.put, List.setIfInBounds_toArray, List.set_cons_zero, List.set_cons_succ])
    | (apply wpRel_fix (by rfl)
       · intro w' hC hf R hR
         have hS := S w' hC
         go_simp
         exact hR _ (EV.refl _)
       simp only [Act.put, List.setIfInBounds_toArray, List.set_cons_zero, List.set_cons_succ]))
  apply wpRel_fix (by rfl)
  · intro w' hC hf R hR
    have hS := S w' hC
    go_simp
    refine (va_len hC.1).mono ?_
    first
      | (rintro e w'' ⟨rfl, rfl⟩; exact ⟨_, rfl, hR _ (EV.refl _)⟩)
      | (rintro e w'' ⟨rfl, hb⟩; exact ⟨_, rfl, hR _ (EV.below hb)⟩)
      | (rintro e w'' ⟨rfl, h, k⟩; exact ⟨_, rfl, hR _ ⟨fun _ => h, k⟩⟩)
  simp only [Act.put, List.setIfInBounds_toArray, List.set_cons_zero, List.set_cons_succ]
  repeat (first
    | (apply wpRel_skip (by rfl)
       simp only [Act.put, List.setIfInBounds_toArray, List.set_cons_zero, List.set_cons_succ])
    | (apply wpRel_fix (by rfl)
       · intro w' hC hf R hR
         have hS := S w' hC
         go_simp
         exact hR _ (EV.refl _)
       simp only [Act.put, List.setIfInBounds_toArray, List.set_cons_zero, List.set_cons_succ]))
  apply wpRel_fix (by rfl)
  · intro w' hC hf R hR
    have hS := S w' hC
    go_simp
    refine (va_entries hC.1).mono ?_
    first
      | (rintro e w'' ⟨rfl, rfl⟩; exact ⟨_, rfl, hR _ (EV.refl _)⟩)
      | (rintro e w'' ⟨rfl, hb⟩; exact ⟨_, rfl, hR _ (EV.below hb)⟩)
      | (rintro e w'' ⟨rfl, h, k⟩; exact ⟨_, rfl, hR _ ⟨fun _ => h, k⟩⟩)
  simp only [Act.put, List.setIfInBounds_toArray, List.set_cons_zero, List.set_cons_succ]
  repeat (first
    | (apply wpRel_skip (by rfl)
       simp only [Act.put, List.setIfInBounds_toArray, List.set_cons_zero, List.set_cons_succ])
    | (apply wpRel_fix (by rfl)
       · intro w' hC hf R hR
         have hS := S w' hC
         go_simp
         exact hR _ (EV.refl _)
       simp only [Act.put, List.setIfInBounds_toArray, List.set_cons_zero, List.set_cons_succ]))
  apply wpRel_rel (fun v _ => ∃ sp cap, v = .slice sp (cellsL s.g s.st.ns).length cap) (by rfl) (fun _ _ _ h _ => h)
  · intro w' hC hf R hR
    have hS := S w' hC
    go_simp
    refine (va_cells hC.1).mono ?_
    rintro e w'' ⟨⟨sp, cap, rfl⟩, hb⟩
    exact ⟨_, rfl, hR _ _ ⟨sp, cap, rfl⟩ (EV.below hb)⟩
  intro vc
  simp only [Act.put, List.setIfInBounds_toArray, List.set_cons_zero, List.set_cons_succ]
  apply wpRel_fix (by rfl)
  · intro w' hC hf R hR
    obtain ⟨sp, cap, rfl⟩ := hf _ (List.mem_cons_self ..) (by kernel_rfl)
    go_simp
    exact hR _ (EV.refl _)
  simp only [Act.put, List.setIfInBounds_toArray, List.set_cons_zero, List.set_cons_succ]
  repeat (first
    | (apply wpRel_skip (by rfl)
       simp only [Act.put, List.setIfInBounds_toArray, List.set_cons_zero, List.set_cons_succ])
    | (apply wpRel_fix (by rfl)
       · intro w' hC hf R hR
         have hS := S w' hC
         go_simp
         exact hR _ (EV.refl _)
       simp only [Act.put, List.setIfInBounds_toArray, List.set_cons_zero, List.set_cons_succ]))
  refine wpRel_nil (fun w3 hC3 hf => ?_)
  have H3 := Lib.hid hC3.1
  have K3 := Lib.hid hC3.2
  clear hC3 hf S
  have r3 := HR0.out.keep (w' := w3) (Touch.block K3.out C HRC0.out.lt (fun hs => by
    rcases hs with hs | hs
    · exact hs.2.1 HL1.out.1
    · exact hs))
  have x0 := r3.cell' (i := 0) rfl
  have x1 := r3.cell' (i := 1) rfl
  have x2 := r3.cell' (i := 2) rfl
  have xl := r3.lt
  have xf := fun i => r3.froz i
  go_wp2
  rw [← HP.out]
  have hbl := blocks_eq s
  have hnn : s.nodes = (s.st.ns.length : Int) := rfl
  refine bodyPost_ret (v := .agg #[.int .i64 s.st.ns.length, .int .i64 s.st.count, .int .i64 (cellsL s.g s.st.ns).length]) (by simp [results, Tryz.results13, go_sem, x0, x1, x2, xl]) rfl ⟨by rw [hbl, hnn], ?_, ?_⟩
  · exact (((H3.out.set HL1.out.1 HBC.out _ _).set HL1.out.1 HBC.out _ _).set HL1.out.1 HBC.out _ _).less HL1.out.2
  · have hk : KV B L NoB w w3 := (KV.of_below HB0.out).trans (K3.out.less HL1.out.2)
    have hCz : w.heap.size ≤ C := Nat.le_of_eq HC.out
    exact Touch.setCell (Touch.setCell (Touch.setCell hk (.inr hCz) _) (.inr hCz) _) (.inr hCz) _
end
end Go.Proofs.YtjekpbkmhgfhoaaGreatDoor
end

section
/- The walk of vol's tried: a call tried on a copy, then done. -/
namespace Go.Proofs.YtjekpbkmhgfhoaaGreatDoor
open Go Go.RowKit
set_option maxRecDepth 100000
set_option linter.unusedSimpArgs false
set_option linter.unusedVariables false
attribute [local go_sem] giv
variable {E : Nat → Addr} {B : Nat}
section
variable {L : Nat → Prop} {p : VP} {s : V} {w w' : World}
theorem charge_any (h : VAt E B L p s w) {C : Nat} (r : Row w C 36 [.int .i64 s.nodes, .int .i64 s.st.count, .int .i64 s.blocks]) :
    Calls Tryz.prog 62 #[.slice (some ⟨C, 0, none⟩) 1 1] w fun e w' => e = .returned (.int .i64 s.charge) ∧ Below w.heap.size w w' := by
  refine charge_one C _ _ _ w (r.cell 0) (r.cell 1) (r.cell 2) ⟨by unfold V.nodes; omega, ?_, by unfold V.blocks; omega⟩
  unfold St.count
  have : ∀ l : List NR, 0 ≤ (l.map fun r => (r.ents.length : Int)).sum := fun l => by
    induction l with
    | nil => simp
    | cons x l ih => simp only [List.map_cons, List.sum_cons]; omega
  exact this _
/-- What a trial answers, and leaves, if the call comes to c, s1. -/
def triedC (s : V) (c : Int) (s1 : V) : Int := if c ≠ 0 then c else if s.quota < s1.charge ∧ s.charge < s1.charge then 119 else 0
def triedS (s : V) (c : Int) (s1 : V) : V := if c ≠ 0 then s else if s.quota < s1.charge ∧ s.charge < s1.charge then s else s1
theorem KV.old {X : Nat → Prop} {w1 w2 : World} (hb : Below w.heap.size w w1) (hB : B ≤ w.heap.size) (hk : KV B (OldL L w) X w1 w2) : Touch X w w2 := by
  refine (Touch.of_below hb X).trans hk fun x hx hl => ?_
  rcases hx with ⟨h1, h2, h3⟩ | hx
  · exfalso
    by_cases hp : Plain w x
    · exact h3 (plain_keep hp (hb.block x hl))
    · exact h2 ⟨hl, .inl hp⟩
  · exact hx
theorem KV.anyX {X : Nat → Prop} {w' : World} (h : KV B L NoB w w') : KV B L X w w' := Touch.mono h fun x hx _ => hx.imp id fun h => h.elim
set_option maxHeartbeats 4000000 in
theorem triedP_any {g : Nat} {cap : Array Value} (eg : ∀ args w, (callFunc g args).run Tryz.prog w = .ok (.enter g args) w) (h : VAt E B L p s w) {X : Nat → Prop} (Inv Pre : World → Prop) (hpre : ∀ (L' : Nat → Prop) (w w' : World), Pre w → KV B L' NoB w w' → Pre w') (hp0 : Pre w) (hX : ∀ x, X x → L x ∧ B ≤ x) {c : Int} {s1 : V} (hc : CodeOk c)
    (hdo : ∀ (L' : Nat → Prop) (p' : VP) (w1 : World), KV B L X w w1 → (∀ x, L x → L' x) → VAt E B L' p' s w1 → Pre w1 → Calls Tryz.prog g (#[.pointer (some ⟨p'.v, 0, none⟩)] ++ cap) w1 fun e w2 => e = .returned (errOf E c) ∧ (c = 0 → VAt E B L' p' s1 w2 ∧ Inv w2) ∧ KV B L' X w1 w2 ∧ Pre w2) :
    Calls Tryz.prog 31 #[.pointer (some ⟨p.v, 0, none⟩), .func (.func g) #[] cap] w fun e w' => e = .returned (errOf E (triedC s c s1)) ∧ VAt E B L p (triedS s c s1) w' ∧ KV B L X w w' ∧ (triedC s c s1 = 0 → Inv w') := by
  generalize hP : (fun (e : Ending) (w' : World) => e = .returned (errOf E (triedC s c s1)) ∧ VAt E B L p (triedS s c s1) w' ∧ KV B L X w w' ∧ (triedC s c s1 = 0 → Inv w')) = Post
  have HP := Lib.hid hP
  have H := Lib.hid h
  have HDO := Lib.hid hdo
  have HX := Lib.hid hX
  have VC := Lib.hid (err_split (E := E) hc)
  have HPRE := Lib.hid hpre
  have HP0 := Lib.hid hp0
  clear hP h hdo hX hc hpre hp0
  go_enter Tryz.func31, Tryz.ntmps31
  go_wp2_with fail
  refine (vclone_any H.out).mono ?_
  rintro e w1 ⟨⟨p', rfl, hv1⟩, hb1⟩
  have H1 := Lib.hid hv1
  have HB1 := Lib.hid hb1
  have HP1 := Lib.hid (HPRE.out L _ _ HP0.out (KV.of_below hb1))
  clear hv1 hb1 HP0
  go_wp2_with fail
  refine (HDO.out (OldL L w) p' w1 (KV.of_below HB1.out) (fun x hx => ⟨H.out.hL hx, .inr hx⟩) H1.out HP1.out).mono ?_
  rintro e w2 ⟨rfl, h2, k2, p2⟩
  have HP2 := Lib.hid p2
  clear p2 HP1
  have KC2 := Lib.hid k2
  have T2 := Lib.hid (KV.old HB1.out H.out.hB k2)
  have H2 := Lib.hid h2
  clear h2 k2
  rcases VC.out with ⟨hc0, el⟩ | ⟨hcn, q, el⟩
  case inr =>
    have HEL := Lib.hid el
    have HCN := Lib.hid hcn
    rw [el]
    clear el hcn VC
    go_wp2
    rw [← HP.out]
    have e1 : triedC s c s1 = c := by unfold triedC; rw [if_pos HCN.out]
    have e2 : triedS s c s1 = s := by unfold triedS; rw [if_pos HCN.out]
    have hfin : (Ending.returned (.iface 295 (.pointer (some q))) : Ending) = .returned (errOf E (triedC s c s1)) ∧ VAt E B L p (triedS s c s1) w2 ∧ KV B L X w w2 ∧ (triedC s c s1 = 0 → Inv w2) := by
      rw [e1, e2, HEL.out]
      exact ⟨rfl, H.out.touch T2.out HX.out, T2.out.mono fun x hx _ => .inr hx, fun h => absurd h HCN.out⟩
    first
      | exact hfin
      | (go_ret2; exact hfin)
  have H2b := Lib.hid (H2.out hc0).1
  have HC0 := Lib.hid hc0
  rw [el]
  clear el hc0 H2 VC
  go_wp2_with fail
  refine (vcount_any H2b.out).mono ?_
  rintro e w3 ⟨rfl, h3, k3⟩
  have H3 := Lib.hid h3
  have KC3 := Lib.hid (KC2.out.trans k3.anyX)
  have HP3 := Lib.hid (HPRE.out _ _ _ HP2.out k3)
  clear h3 k3 T2 HP2
  go_wp2_with fail
  have bb3 := bl_alloc (Below.refl w3.heap.size w3) (.cells #[.int .i64 s1.nodes, .int .i64 s1.st.count, .int .i64 s1.blocks] 36)
  refine (charge_any (H3.out.below bb3) (Row.new w3 36 [.int .i64 s1.nodes, .int .i64 s1.st.count, .int .i64 s1.blocks])).mono ?_
  rintro e w4 ⟨rfl, hb4⟩
  have hk4 : KV B (OldL L w) X w1 w4 := KC3.out.then (bb3.trans (hb4.mono bb3.size))
  have hv4 : VAt E B L p s w4 := H.out.touch (KV.old HB1.out H.out.hB hk4) HX.out
  have H4 := Lib.hid hv4
  have HP4 := Lib.hid (HPRE.out L _ _ HP3.out (KV.of_below (bb3.trans (hb4.mono bb3.size))))
  have T4 := Lib.hid (KV.old HB1.out H.out.hB hk4)
  obtain ⟨x0, x1, x2, x3, xl⟩ := hv4.cells
  clear hk4 hv4 hb4 bb3 KC3 H3 x0 x1 x2
  obtain ⟨ch1, hch1⟩ : ∃ ch1, s1.charge = ch1 := ⟨_, rfl⟩
  have HCH1 := Lib.hid hch1
  rw [hch1]
  clear hch1
  obtain ⟨pv, hpv⟩ : ∃ pv, p.v = pv := ⟨_, rfl⟩
  have HPV := Lib.hid hpv
  rw [hpv] at x3 xl ⊢
  clear hpv
  by_cases hq : s.quota < ch1
  · go_wp2_with fail
    have hv4 := H4.out
    rw [← HPV.out]
    refine (vcount_any H4.out).mono ?_
    rintro e w5 ⟨rfl, h5, k5⟩
    have H5 := Lib.hid h5
    have K5 := Lib.hid k5
    clear h5 k5 hv4 x3 xl
    go_wp2_with fail
    have bb5 := bl_alloc (Below.refl w5.heap.size w5) (.cells #[.int .i64 s.nodes, .int .i64 s.st.count, .int .i64 s.blocks] 36)
    refine (charge_any (H5.out.below bb5) (Row.new w5 36 [.int .i64 s.nodes, .int .i64 s.st.count, .int .i64 s.blocks])).mono ?_
    rintro e w6 ⟨rfl, hb6⟩
    have hb56 := bb5.trans (hb6.mono bb5.size)
    have H6 := Lib.hid (H5.out.below hb56)
    have HP6 := Lib.hid (HPRE.out L _ _ HP4.out (K5.out.then hb56))
    have T6 := Lib.hid ((show KV B L X w w4 from T4.out.mono fun x hx _ => .inr hx).trans ((K5.out.then hb56).anyX (X := X)))
    clear hb56 hb6 bb5 K5 H5 T4 H4
    obtain ⟨ch0, hch0⟩ : ∃ ch0, s.charge = ch0 := ⟨_, rfl⟩
    have HCH0 := Lib.hid hch0
    rw [hch0]
    clear hch0
    by_cases hq2 : ch0 < ch1
    · have e1 : triedC s c s1 = 119 := by unfold triedC; rw [if_neg (by rw [HC0.out]; decide), if_pos (by rw [HCH0.out, HCH1.out]; exact ⟨hq, hq2⟩)]
      have e2 : triedS s c s1 = s := by unfold triedS; rw [if_neg (by rw [HC0.out]; decide), if_pos (by rw [HCH0.out, HCH1.out]; exact ⟨hq, hq2⟩)]
      have HE := Lib.hid (And.intro e1 e2)
      have CE := Lib.hid (show errOf E 119 = errV E 6 from errOf_code (g := 6) (by decide))
      have ce := H6.out.env.toEnv.cell 6 (by decide)
      have cl : 6 < w6.heap.size := Nat.lt_of_lt_of_le (H6.out.env.toEnv.glt _ (by decide)) H6.out.env.toEnv.size
      clear e1 e2
      go_wp2
      rw [← HP.out, HE.out.1, HE.out.2, CE.out]
      first
        | exact ⟨rfl, H6.out, T6.out, fun h => absurd h (by decide)⟩
        | (go_ret2; exact ⟨rfl, H6.out, T6.out, fun h => absurd h (by decide)⟩)
    · have e1 : triedC s c s1 = 0 := by unfold triedC; rw [if_neg (by rw [HC0.out]; decide), if_neg (by rw [HCH0.out, HCH1.out]; exact fun h => hq2 h.2)]
      have e2 : triedS s c s1 = s1 := by unfold triedS; rw [if_neg (by rw [HC0.out]; decide), if_neg (by rw [HCH0.out, HCH1.out]; exact fun h => hq2 h.2)]
      have HE := Lib.hid (And.intro e1 e2)
      clear e1 e2
      go_wp2_with fail
      refine (HDO.out L p w6 T6.out (fun x hx => hx) H6.out HP6.out).mono ?_
      rintro e w7 ⟨rfl, h7, k7, -⟩
      have H7 := Lib.hid (h7 HC0.out).1
      have I7 := Lib.hid (h7 HC0.out).2
      have K7 := Lib.hid (T6.out.trans k7)
      clear h7 k7
      go_wp2
      rw [← HP.out, HE.out.1, HE.out.2, ← HC0.out]
      first
        | exact ⟨rfl, H7.out, K7.out, fun _ => I7.out⟩
        | (go_ret2; exact ⟨rfl, H7.out, K7.out, fun _ => I7.out⟩)
  · have e1 : triedC s c s1 = 0 := by unfold triedC; rw [if_neg (by rw [HC0.out]; decide), if_neg (by rw [HCH1.out]; exact fun h => hq h.1)]
    have e2 : triedS s c s1 = s1 := by unfold triedS; rw [if_neg (by rw [HC0.out]; decide), if_neg (by rw [HCH1.out]; exact fun h => hq h.1)]
    have HE := Lib.hid (And.intro e1 e2)
    have T6 := Lib.hid (show KV B L X w w4 from T4.out.mono fun x hx _ => .inr hx)
    clear e1 e2
    go_wp2_with fail
    rw [← HPV.out]
    refine (HDO.out L p w4 T6.out (fun x hx => hx) H4.out HP4.out).mono ?_
    rintro e w7 ⟨rfl, h7, k7, -⟩
    have H7 := Lib.hid (h7 HC0.out).1
    have I7 := Lib.hid (h7 HC0.out).2
    have K7 := Lib.hid (T6.out.trans k7)
    clear h7 k7
    go_wp2
    rw [← HP.out, HE.out.1, HE.out.2, ← HC0.out]
    first
      | exact ⟨rfl, H7.out, K7.out, fun _ => I7.out⟩
      | (go_ret2; exact ⟨rfl, H7.out, K7.out, fun _ => I7.out⟩)
theorem tried_any {g : Nat} {cap : Array Value} (eg : ∀ args w, (callFunc g args).run Tryz.prog w = .ok (.enter g args) w) (h : VAt E B L p s w) {X : Nat → Prop} (Inv : World → Prop) (hX : ∀ x, X x → L x ∧ B ≤ x) {c : Int} {s1 : V} (hc : CodeOk c)
    (hdo : ∀ (L' : Nat → Prop) (p' : VP) (w1 : World), KV B L X w w1 → (∀ x, L x → L' x) → VAt E B L' p' s w1 → Calls Tryz.prog g (#[.pointer (some ⟨p'.v, 0, none⟩)] ++ cap) w1 fun e w2 => e = .returned (errOf E c) ∧ (c = 0 → VAt E B L' p' s1 w2 ∧ Inv w2) ∧ KV B L' X w1 w2) :
    Calls Tryz.prog 31 #[.pointer (some ⟨p.v, 0, none⟩), .func (.func g) #[] cap] w fun e w' => e = .returned (errOf E (triedC s c s1)) ∧ VAt E B L p (triedS s c s1) w' ∧ KV B L X w w' ∧ (triedC s c s1 = 0 → Inv w') := by
  exact triedP_any eg h Inv (fun _ => True) (fun _ _ _ _ _ => trivial) trivial hX hc (fun L' p' w1 h1 h2 h3 _ => (hdo L' p' w1 h1 h2 h3).mono fun e w2 h => ⟨h.1, h.2.1, h.2.2, trivial⟩)
end
end Go.Proofs.YtjekpbkmhgfhoaaGreatDoor
end

section
/- The walks of vol's made, Mkdir, Symlink, Link. -/
namespace Go.Proofs.YtjekpbkmhgfhoaaGreatDoor
open Go Go.RowKit
set_option maxRecDepth 100000
set_option linter.unusedSimpArgs false
set_option linter.unusedVariables false
attribute [local go_sem] giv
variable {E : Nat → Addr} {B : Nat}
/-- The classes of a drawn region with one call that turns the volume. -/
def CO (E : Nat → Addr) (B : Nat) (L : Nat → Prop) (p : VP) (s s1 : V) (w0 : World) (d : Bool) (w : World) : Prop := VAt E B L p (bif d then s1 else s) w ∧ KV B L NoB w0 w
/-- A box: a block of one cell. -/
def Box (w : World) (b : Nat) (v : Value) : Prop := w.cell? ⟨b, 0, none⟩ = some v ∧ b < w.heap.size
section
variable {L : Nat → Prop} {p : VP} {s s1 : V} {w w' : World}
theorem Box.kv {b : Nat} {v : Value} (h : Box w b v) (hp : PlainV v) (k : KV B L NoB w w') : Box w' b v := ⟨(k.cell (.inr (.inr ⟨v, h.1, hp⟩)) h.2 0).trans h.1, Nat.lt_of_lt_of_le h.2 (Touch.size k)⟩
theorem Box.row {b : Nat} {v : Value} {T : TypeId} {vs : List Value} (h : Row w b T (v :: vs)) : Box w b v := ⟨h.cell 0, h.lt⟩
theorem triedV_one (v : V) (act : V → Int × V) : (triedV v act).1 = triedC v (act v).1 (act v).2 := by
  unfold triedV triedC
  simp only
  split
  · rfl
  · rename_i h0
    split
    · rfl
    · exact Classical.not_not.1 h0
theorem triedV_two (v : V) (act : V → Int × V) : (triedV v act).2 = triedS v (act v).1 (act v).2 := by
  unfold triedV triedS
  simp only
  split
  · rfl
  · split <;> rfl
end
end Go.Proofs.YtjekpbkmhgfhoaaGreatDoor
end

section
/- A drawn region that asks a volume and lays the answer into a new block. -/
namespace Go.Proofs.YtjekpbkmhgfhoaaGreatDoor
open Go Go.RowKit
set_option maxRecDepth 100000
set_option linter.unusedSimpArgs false
set_option linter.unusedVariables false
attribute [local go_sem] giv
variable {E : Nat → Addr} {B : Nat}
section
variable {L : Nat → Prop} {p : VP} {s : V} {w w' : World}
/-- A plain block of another type than the bytes' is none of the volume's. -/
theorem VAt.addP (h : VAt E B L p s w) {c : Nat} {T : TypeId} {cs : Array Value} (r : w.heap[c]? = some (.cells cs T (0, 0))) (hpl : Plain w c) (hT : T ≠ 5) : VAt E B (fun y => y = c ∨ L y) p s w := by
  obtain ⟨fm, lab, gd, n, k, fn, h⟩ := h
  have hF : ∀ x, Fp p fm x → x ≠ c := by
    rintro x hx rfl
    obtain ⟨v', e1, e2, e3⟩ := hpl
    rcases hx with hx | hx | hx | hx | hx | hx
    · subst hx
      rw [h.c0] at e1
      injection e1 with e1
      exact e2 _ e1.symm
    · subst hx
      rw [h.ta.1] at e1
      injection e1 with e1
      exact e2 _ e1.symm
    · subst hx
      rw [h.body.cm] at e1
      injection e1 with e1
      exact e3 _ e1.symm
    · subst hx
      obtain ⟨gv, ⟨es, clk, g1, _⟩, _⟩ := h.body.has
      rw [show w.heap[p.bm]? = _ from r] at g1
      cases g1
    · subst hx
      obtain ⟨es, clk, g1, _⟩ := h.body.dirty
      rw [show w.heap[p.bd]? = _ from r] at g1
      cases g1
    · have hf := h.files
      rcases hx with hx | hx
      · subst hx
        rw [hf.1] at e1
        injection e1 with e1
        exact e3 _ e1.symm
      · subst hx
        obtain ⟨_, _, _, _, es, clk, g1, _⟩ := hf
        rw [show w.heap[x]? = _ from r] at g1
        cases g1
  refine ⟨fm, lab, gd, n, k, fn, { c0 := h.c0, c1 := h.c1, c2 := h.c2, c3 := h.c3, ta := h.ta, wb := ?_, body := ?_, files := h.files, own := ?_, lv := h.lv, la := h.la, lb := h.lb, lf := h.lf, env := h.env, wf := h.wf }⟩
  · refine h.wb.more (fun x hx => ?_)
    rcases hx with (hx | hx) | hx
    · subst hx
      exact ⟨plain_lt hpl, .inr hpl⟩
    · exact ⟨h.wb.2.1 x (.inl hx), .inl (.inl hx)⟩
    · exact ⟨h.wb.2.1 x (.inr hx), .inl (.inr hx)⟩
  · have hb := h.body
    obtain ⟨gv, g1, g2⟩ := hb.has
    refine { hb with Mb := .inl rfl, Mm := .inr (.inl rfl), Md := .inr (.inr (.inl rfl)), has := ⟨gv, g1, fun cl => ?_⟩ }
    rcases g2 cl with g3 | ⟨v', o, g3, g4, g5⟩
    · exact .inl g3
    · refine .inr ⟨v', o, g3, g4, ?_⟩
      rcases g5 with g5 | ⟨hh, l, k1, k2, k3, k4, k5⟩
      · exact .inl g5
      · refine .inr ⟨hh, l, k1, k2, k3, k4, fun hm => ?_⟩
        rcases hm with hm | hm | hm | hm | hm
        · exact k5 (.inl hm)
        · exact k5 (.inr (.inl hm))
        · exact k5 (.inr (.inr (.inl hm)))
        · subst hm
          have k4' : w.heap[hh]? = _ := k4
          rw [show w.heap[hh]? = _ from r] at k4'
          injection k4' with k4'
          injection k4' with _ k4'
          exact hT k4'
        · exact k5 (.inr (.inr (.inr hm)))
  · intro x hx
    refine ⟨(h.own x hx).1, fun hl => ?_⟩
    rcases hl with hl | hl
    · exact hF x hx hl
    · exact (h.own x hx).2 hl
/-- What a step of such a region leaves. -/
structure ShV (E : Nat → Addr) (B : Nat) (L : Nat → Prop) (p : VP) (s : V) (base : Nat) (vals : List Value) (ty : TypeId) (w w' : World) : Prop where
  vol : VAt E B L p s w → VAt E B L p s w'
  kept : Touch (fun x => (B ≤ x ∧ ¬ L x ∧ ¬ Plain w x) ∨ base ≤ x) w w'
  blk : ∀ c, TyB vals.length ty w c → Plain w c → TyB vals.length ty w' c ∧ Plain w' c
  hold : ∀ c, Plain w c → Row w c ty vals → Plain w' c ∧ Row w' c ty vals
end
section
variable {L : Nat → Prop} {p : VP} {s : V} {base : Nat} {vals : List Value} {ty : TypeId} {a w w' : World}
theorem ShV.refl (w : World) : ShV E B L p s base vals ty w w := ⟨id, Touch.refl _ _, fun _ h k => ⟨h, k⟩, fun _ h k => ⟨h, k⟩⟩
theorem ShV.trans {c : World} (h : ShV E B L p s base vals ty a w) (k : ShV E B L p s base vals ty w c) : ShV E B L p s base vals ty a c :=
  ⟨fun x => k.vol (h.vol x), Touch.trans h.kept k.kept fun x hx hl => by
    by_cases hb : base ≤ x
    · exact .inr hb
    · rcases hx with ⟨h1, h2, h3⟩ | hx
      · refine .inl ⟨h1, h2, fun hp => h3 (plain_keep hp (h.kept.block x hl fun hs => ?_))⟩
        rcases hs with hs | hs
        · exact hs.2.2 hp
        · exact hb hs
      · exact (hb hx).elim,
   fun c h1 h2 => k.blk c (h.blk c h1 h2).1 (h.blk c h1 h2).2, fun c h1 h2 => k.hold c (h.hold c h1 h2).1 (h.hold c h1 h2).2⟩
theorem ShV.of_keep (hv : VAt E B L p s w → VAt E B L p s w') (hk : KV B L NoB w w') : ShV E B L p s base vals ty w w' := by
  have hp : ∀ x, Plain w x → w'.heap[x]? = w.heap[x]? := fun x hx => Touch.block hk x (plain_lt hx) fun hs => by
    rcases hs with hs | hs
    · exact hs.2.2 hx
    · exact hs
  exact ⟨hv, Touch.mono hk fun x hx _ => hx.imp id fun h => h.elim, fun x ⟨cs, h1, h2⟩ h3 => ⟨⟨cs, h1, (hp x h3).trans h2⟩, plain_keep h3 (hp x h3)⟩, fun x h3 h4 => ⟨plain_keep h3 (hp x h3), h4.keep (hp x h3)⟩⟩
theorem ShV.of_below (hb : Below w.heap.size w w') : ShV E B L p s base vals ty w w' := .of_keep (fun h => h.below hb) (KV.of_below hb)
theorem ShV.call (hv : VAt E B L p s w') (hk : KV B L NoB w w') : ShV E B L p s base vals ty w w' := .of_keep (fun _ => hv) hk
theorem ShV.row (h : ShV E B L p s w.heap.size vals ty w w') {c : Nat} {T : TypeId} {v : Value} {vs : List Value} (r : Row w c T (v :: vs)) (hv : PlainV v) : Row w' c T (v :: vs) :=
  r.keep (h.kept.block c r.lt fun hs => by
    rcases hs with hs | hs
    · exact hs.2.2 (r.plain hv)
    · have := r.lt; omega)
theorem ShV.kv (h : ShV E B L p s w.heap.size vals ty w w') : KV B L NoB w w' := Touch.mono h.kept fun x hx hl => by
  rcases hx with hx | hx
  · exact .inl hx
  · omega
theorem setAll_vat {c : Nat} (hB : B ≤ c) : ∀ (l : List Value) (w : World) (i : Nat), VAt E B (fun y => y = c ∨ L y) p s w → VAt E B (fun y => y = c ∨ L y) p s (setAll w c i l)
  | [], _, _, h => h
  | v :: l, w, i, h => setAll_vat hB l _ _ (h.set (.inl rfl) hB i v)
theorem setAll_touch {c : Nat} {S : Nat → Prop} (hS : S c) : ∀ (l : List Value) (w w0 : World) (i : Nat), Touch S w0 w → Touch S w0 (setAll w c i l)
  | [], _, _, _, h => h
  | v :: l, w, w0, i, h => setAll_touch hS l _ w0 _ (Touch.setCell h (.inl hS) v)
theorem ShV.setAll {c : Nat} (hv : ∃ v vs, vals = v :: vs ∧ PlainV v) (hT : ty ≠ 5) (h : TyB vals.length ty w c) (hp : Plain w c) (hB : B ≤ base) (hc : base ≤ c) : ShV E B L p s base vals ty w (setAll w c 0 vals) := by
  have hrow := setAll_row h
  have hpl : Plain (Go.Proofs.YtjekpbkmhgfhoaaGreatDoor.setAll w c 0 vals) c := by
    obtain ⟨v, vs, rfl, hv⟩ := hv
    exact hrow.plain hv
  refine ⟨fun hw => ?_, setAll_touch (.inr hc) _ _ _ _ (Touch.refl _ _), fun x hx hx2 => ?_, fun x hx hx2 => ?_⟩
  · obtain ⟨cs, h1, h2⟩ := h
    exact (setAll_vat (Nat.le_trans hB hc) vals w 0 (hw.addP h2 hp hT)).less (fun x hx => .inr hx)
  · by_cases he : x = c
    · subst he
      exact ⟨⟨vals.toArray, by simp, hrow⟩, hpl⟩
    · obtain ⟨cs, h1, h2⟩ := hx
      exact ⟨⟨cs, h1, (setAll_other he _ _ _).trans h2⟩, plain_keep hx2 (setAll_other he _ _ _)⟩
  · by_cases he : x = c
    · subst he; exact ⟨hpl, hrow⟩
    · exact ⟨plain_keep hx (setAll_other he _ _ _), hx2.keep (setAll_other he _ _ _)⟩
theorem ptTyV_keep (v : Value) (w w' : World) (h : PtTyT base vals.length ty v w) (hs : ShV E B L p s base vals ty w w') : PtTyT base vals.length ty v w' := by
  obtain ⟨c, h1, h2, h3, h4⟩ := h
  exact ⟨c, h1, h2, hs.blk c h3 h4⟩
theorem ptRowV_keep (v : Value) (w w' : World) (h : PtRowT base vals ty v w) (hs : ShV E B L p s base vals ty w w') : PtRowT base vals ty v w' := by
  obtain ⟨c, h1, h2, h3, h4⟩ := h
  exact ⟨c, h1, h2, hs.hold c h3 h4⟩
end
end Go.Proofs.YtjekpbkmhgfhoaaGreatDoor
end

section
/- The walks of vol's at, Seek, stat, Fstat, New. -/
namespace Go.Proofs.YtjekpbkmhgfhoaaGreatDoor
open Go Go.RowKit
set_option maxRecDepth 100000
set_option linter.unusedSimpArgs false
set_option linter.unusedVariables false
attribute [local go_sem] giv
variable {E : Nat → Addr} {B : Nat}
section
variable {L : Nat → Prop} {p : VP} {s s1 : V} {w w' : World}
set_option maxHeartbeats 2000000 in
theorem at_any (h : VAt E B L p s w) {fd : Nat} (hfd : fd < 16) {x : Hdl} (hx : s.fs fd = some x) {n : Nd} (hn : (s.st.nd x.node).getD noNd = n) (h64 : In64 x.node) :
    Calls Tryz.prog 27 #[.pointer (some ⟨p.v, 0, none⟩), .int .i64 fd] w fun e w' => e = .returned (.tuple #[.agg #[.int .i64 x.node, .int .i64 x.pos], encN n, .nilIface]) ∧ Below w.heap.size w w' := by
  generalize hP : (fun (e : Ending) (w' : World) => e = .returned (.tuple #[.agg #[.int .i64 x.node, .int .i64 x.pos], encN n, .nilIface]) ∧ Below w.heap.size w w') = Post
  have HP := Lib.hid hP
  have H := Lib.hid h
  have HX := Lib.hid hx
  have HN := Lib.hid hn
  have H64 := Lib.hid h64
  obtain ⟨c0, c1, c2, c3, cl⟩ := h.cells
  obtain ⟨C1, hC1⟩ : ∃ C1, w.heap.size = C1 := ⟨_, rfl⟩
  obtain ⟨w1, hw1⟩ : ∃ w1, w1 = (w.alloc (.cells #[.int .i64 0, .int .i64 0] 68)).alloc (.cells #[.int .i64 0, .int .i64 0, .int .i64 0, .int .i64 0, .string ⟨#[]⟩, .int .i64 0] 59) := ⟨_, rfl⟩
  have hb1 : Below w.heap.size w w1 := by rw [hw1]; exact bl_alloc (bl_alloc (Below.refl _ _) _) _
  have R1 : Hid (Row w1 C1 68 [.int .i64 0, .int .i64 0]) := Lib.hid (by rw [hw1, ← hC1]; exact (Row.new _ _ _).alloc _)
  have R2 : Hid (Row w1 (C1 + 1) 59 [.int .i64 0, .int .i64 0, .int .i64 0, .int .i64 0, .string ⟨#[]⟩, .int .i64 0]) := Lib.hid (by
    have r := Row.new (w.alloc (.cells #[.int .i64 0, .int .i64 0] 68)) 59 [.int .i64 0, .int .i64 0, .int .i64 0, .int .i64 0, .string ⟨#[]⟩, .int .i64 0]
    rw [show (w.alloc (.cells #[.int .i64 0, .int .i64 0] 68)).heap.size = C1 + 1 by simp [hC1]] at r
    rw [hw1]
    exact r)
  have HB1 := Lib.hid hb1
  have HC1 := Lib.hid hC1
  have HW1 := Lib.hid hw1
  clear hP h hx hn hb1 h64 hw1 hC1
  go_enter Tryz.func27, Tryz.ntmps27
  go_wp2_with fail
  rw [← HW1.out]
  simp only [HC1.out]
  refine (va_fget (H.out.below HB1.out) hfd HX.out).mono ?_
  rintro e w2 ⟨rfl, hb2⟩
  obtain ⟨xn, xp⟩ := x
  simp only
  obtain ⟨w3, hw3⟩ : ∃ w3, w3 = w2.alloc (.cells #[.int .i64 xn, .int .i64 xp] 68) := ⟨_, rfl⟩
  obtain ⟨C3, hC3⟩ : ∃ C3, w2.heap.size = C3 := ⟨_, rfl⟩
  have hb3 : Below w2.heap.size w2 w3 := by rw [hw3]; exact bl_alloc (Below.refl _ _) _
  have hb13 : Below w1.heap.size w1 w3 := hb2.trans (hb3.mono hb2.size)
  have R1b := Lib.hid (R1.out.below hb13)
  have R2b := Lib.hid (R2.out.below hb13)
  have R3 : Hid (Row w3 C3 68 [.int .i64 xn, .int .i64 xp]) := Lib.hid (by rw [hw3, ← hC3]; exact Row.new _ _ _)
  have HB3 := Lib.hid (HB1.out.trans (hb13.mono HB1.out.size))
  have H3 := Lib.hid (H.out.below HB3.out)
  have HC3 : Hid (C1 + 2 ≤ C3) := Lib.hid (by have := R2.out.lt; have := hb2.size; omega)
  have HW3 := Lib.hid hw3
  have HC3e := Lib.hid hC3
  clear hb2 hb3 hb13 c0 c1 c2 c3 cl R1 R2 hw3 hC3
  go_wp2_with fail
  rw [← HW3.out, HC3e.out]
  obtain ⟨q1, q2, q3, q4, q5, q6⟩ := n
  have S : ∀ w', ShH w3.heap.size (ndC ⟨q1, q2, q3, q4, q5, q6⟩) 59 w3 w' → w'.cell? ⟨p.v, 0, none⟩ = some (.pointer (some ⟨p.a, 0, none⟩)) ∧ w'.cell? ⟨p.a, 0, none⟩ = some (.pointer (some ⟨p.b, 0, none⟩)) ∧ w'.cell? ⟨p.b, 0, none⟩ = some (.pointer (some ⟨p.t, 0, none⟩)) ∧ w'.cell? ⟨C3, 0, none⟩ = some (.int .i64 xn) := fun w' hs => by
    obtain ⟨c0, c1, c2, t0, t1⟩ := (H3.out.below hs.bel).vc
    exact ⟨c0, t0, t1, (R3.out.below hs.bel).cell' (i := 0) rfl⟩
  have HG : Hid (∀ w', ShH w3.heap.size (ndC ⟨q1, q2, q3, q4, q5, q6⟩) 59 w3 w' → Calls Tryz.prog 54 #[.pointer (some ⟨p.t, 0, none⟩), .int .i64 xn] w' fun e w'' => e = .returned (.tuple #[.agg #[.int .i64 q1, .int .i64 q2, .int .i64 q3, .int .i64 q4, .string q5, .int .i64 q6], .bool (s.st.nd xn).isSome]) ∧ Below w'.heap.size w' w'') := Lib.hid fun w' hs => by
    have := va_nget (H3.out.below hs.bel) (k := xn) H64.out
    rw [HN.out] at this
    exact this
  generalize (s.st.nd xn).isSome = is at HG
  apply wp_region_rel _ (by kernel_rfl) (by kernel_rfl) (fun w' => ShH w3.heap.size (ndC ⟨q1, q2, q3, q4, q5, q6⟩) 59 w3 w') (fun w' w'' => ShH w3.heap.size (ndC ⟨q1, q2, q3, q4, q5, q6⟩) 59 w' w'') (fun w' w'' h1 h2 => h1.trans h2) (ShH.refl _ _ _ _).drew
  repeat (first
    | (apply wpRel_fix (by rfl)
       · intro w' hC hf R hR
         have hS := S w' hC
         go_simp
         exact hR _ (ShH.refl _ _ _ _)
       simp only [Act.put, List.setIfInBounds_toArray, List.set_cons_zero, List.set_cons_succ])
    | (apply wpRel_fix (by rfl)
       · intro w' hC hf R hR
         have hS := S w' hC
         go_simp
         refine (HG.out w' hC).mono ?_
         rintro e w'' ⟨rfl, hb⟩
         exact ⟨_, rfl, hR _ (ShH.of_below hb (Nat.le_trans hC.bel.size (Nat.le_refl _)))⟩
       simp only [Act.put, List.setIfInBounds_toArray, List.set_cons_zero, List.set_cons_succ]))
  apply wpRel_rel (PtTy w3.heap.size ((ndC ⟨q1, q2, q3, q4, q5, q6⟩) : List Value).length 59) (by rfl) ptTy_keep
  · intro w' hC hf R hR
    go_simp
    exact hR _ _ ⟨_, rfl, hC.bel.size, TyB.new _ _ _ rfl⟩ (ShH.of_below (bl_alloc (Below.refl _ _) _) hC.bel.size)
  intro vptr
  simp only [Act.put, List.setIfInBounds_toArray, List.set_cons_zero, List.set_cons_succ]
  apply wpRel_dep 9 (PtRow w3.heap.size (ndC ⟨q1, q2, q3, q4, q5, q6⟩) 59) (by rfl) (by rfl) ptRow_keep
  · intro w' hC hf R hR
    obtain ⟨c, rfl, hc, hk⟩ := hf _ (List.mem_cons_self ..) (by kernel_rfl)
    obtain ⟨u0, e0⟩ := hk.cell (i := 0) (Nat.lt_of_lt_of_eq (by decide : 0 < 6) rfl)
    have f0 := hk.froz 0
    obtain ⟨u1, e1⟩ := hk.cell (i := 1) (Nat.lt_of_lt_of_eq (by decide : 1 < 6) rfl)
    have f1 := hk.froz 1
    obtain ⟨u2, e2⟩ := hk.cell (i := 2) (Nat.lt_of_lt_of_eq (by decide : 2 < 6) rfl)
    have f2 := hk.froz 2
    obtain ⟨u3, e3⟩ := hk.cell (i := 3) (Nat.lt_of_lt_of_eq (by decide : 3 < 6) rfl)
    have f3 := hk.froz 3
    obtain ⟨u4, e4⟩ := hk.cell (i := 4) (Nat.lt_of_lt_of_eq (by decide : 4 < 6) rfl)
    have f4 := hk.froz 4
    obtain ⟨u5, e5⟩ := hk.cell (i := 5) (Nat.lt_of_lt_of_eq (by decide : 5 < 6) rfl)
    have f5 := hk.froz 5
    have hN := Lib.hid hk
    clear hk
    go_simp
    exact hR _ _ (ptRow_mk hN.out hc) (ShH.setAll hN.out hc)
  intro vst
  simp only [Act.put, List.setIfInBounds_toArray, List.set_cons_zero, List.set_cons_succ]
  repeat (first
    | (apply wpRel_fix (by rfl)
       · intro w' hC hf R hR
         have hS := S w' hC
         go_simp
         exact hR _ (ShH.refl _ _ _ _)
       simp only [Act.put, List.setIfInBounds_toArray, List.set_cons_zero, List.set_cons_succ]))
  refine wpRel_nil (fun w4 hC hf => ?_)
  obtain ⟨cn, rfl, hcn, rw4⟩ : PtRow w3.heap.size (ndC ⟨q1, q2, q3, q4, q5, q6⟩) 59 vptr w4 := hf _ (List.mem_cons_self ..)
  have hc34 := HC3.out
  have hz3 := R3.out.lt
  have n1 : ¬ cn = C1 := by omega
  have n2 : ¬ cn = C1 + 1 := by omega
  have n3 : ¬ C1 = cn := fun h => n1 h.symm
  have n4 : ¬ C1 + 1 = cn := fun h => n2 h.symm
  have n5 : ¬ C3 = C1 := by omega
  have n6 : ¬ C3 = C1 + 1 := by omega
  have n7 : ¬ C1 = C3 := by omega
  have n8 : ¬ C1 + 1 = C3 := by omega
  have HB4 := Lib.hid (HB3.out.trans (hC.bel.mono HB3.out.size))
  have r1 := R1b.out.below hC.bel
  have r2 := R2b.out.below hC.bel
  have r3 := R3.out.below hC.bel
  have x0 := r1.cell' (i := 0) rfl
  have x1 := r1.cell' (i := 1) rfl
  have xf := fun i => r1.froz i
  have xl := r1.lt
  have v0 := r2.cell' (i := 0) rfl
  have v1 := r2.cell' (i := 1) rfl
  have v2 := r2.cell' (i := 2) rfl
  have v3 := r2.cell' (i := 3) rfl
  have v4 := r2.cell' (i := 4) rfl
  have v5 := r2.cell' (i := 5) rfl
  have vf := fun i => r2.froz i
  have vl := r2.lt
  have y0 := r3.cell' (i := 0) rfl
  have y1 := r3.cell' (i := 1) rfl
  have z0 := rw4.cell' (i := 0) rfl
  have z1 := rw4.cell' (i := 1) rfl
  have z2 := rw4.cell' (i := 2) rfl
  have z3 := rw4.cell' (i := 3) rfl
  have z4 := rw4.cell' (i := 4) rfl
  have z5 := rw4.cell' (i := 5) rfl
  have HCC : Hid (w.heap.size ≤ C1 ∧ w.heap.size ≤ C1 + 1) := Lib.hid (by have := HC1.out; omega)
  clear S hf hC HG r1 r2 r3 rw4 R1b R2b R3
  go_wp2_with fail
  go_region
  go_wp2
  rw [← HP.out]
  refine bodyPost_ret (v := .tuple #[.agg #[.int .i64 xn, .int .i64 xp], .agg #[.int .i64 q1, .int .i64 q2, .int .i64 q3, .int .i64 q4, .string q5, .int .i64 q6], .nilIface]) (by simp [results, Tryz.results27, go_sem, x0, x1, xl, v0, v1, v2, v3, v4, v5, vl, n1, n2, n3, n4, n5, n6, n7, n8]) rfl ⟨rfl, ?_⟩
  repeat (first | with_reducible exact HB4.out | with_reducible refine Below.setCell ?_ HCC.out.1 _ | with_reducible refine Below.setCell ?_ HCC.out.2 _ | with_reducible refine Below.drew ?_)
set_option maxHeartbeats 2000000 in
theorem at_no (h : VAt E B L p s w) {fd : Int} (hfd : In64 fd) (hx : fd < 0 ∨ s.fs fd.toNat = none) :
    Calls Tryz.prog 27 #[.pointer (some ⟨p.v, 0, none⟩), .int .i64 fd] w fun e w' => e = .returned (.tuple #[.agg #[.int .i64 0, .int .i64 0], encN noNd, errV E 9]) ∧ Below w.heap.size w w' := by
  generalize hP : (fun (e : Ending) (w' : World) => e = .returned (.tuple #[.agg #[.int .i64 0, .int .i64 0], encN noNd, errV E 9]) ∧ Below w.heap.size w w') = Post
  have HP := Lib.hid hP
  have H := Lib.hid h
  have HX := Lib.hid hx
  have H64 := Lib.hid hfd
  obtain ⟨c0, c1, c2, c3, cl⟩ := h.cells
  obtain ⟨C1, hC1⟩ : ∃ C1, w.heap.size = C1 := ⟨_, rfl⟩
  obtain ⟨w1, hw1⟩ : ∃ w1, w1 = (w.alloc (.cells #[.int .i64 0, .int .i64 0] 68)).alloc (.cells #[.int .i64 0, .int .i64 0, .int .i64 0, .int .i64 0, .string ⟨#[]⟩, .int .i64 0] 59) := ⟨_, rfl⟩
  have hb1 : Below w.heap.size w w1 := by rw [hw1]; exact bl_alloc (bl_alloc (Below.refl _ _) _) _
  have R1 : Hid (Row w1 C1 68 [.int .i64 0, .int .i64 0]) := Lib.hid (by rw [hw1, ← hC1]; exact (Row.new _ _ _).alloc _)
  have R2 : Hid (Row w1 (C1 + 1) 59 [.int .i64 0, .int .i64 0, .int .i64 0, .int .i64 0, .string ⟨#[]⟩, .int .i64 0]) := Lib.hid (by
    have r := Row.new (w.alloc (.cells #[.int .i64 0, .int .i64 0] 68)) 59 [.int .i64 0, .int .i64 0, .int .i64 0, .int .i64 0, .string ⟨#[]⟩, .int .i64 0]
    rw [show (w.alloc (.cells #[.int .i64 0, .int .i64 0] 68)).heap.size = C1 + 1 by simp [hC1]] at r
    rw [hw1]
    exact r)
  have HB1 := Lib.hid hb1
  have HC1 := Lib.hid hC1
  have HW1 := Lib.hid hw1
  clear hP h hx hb1 hfd hw1 hC1
  go_enter Tryz.func27, Tryz.ntmps27
  go_wp2_with fail
  rw [← HW1.out]
  simp only [HC1.out]
  refine (va_fget_no (H.out.below HB1.out) H64.out HX.out).mono ?_
  rintro e w2 ⟨rfl, hb2⟩
  have r1 := R1.out.below hb2
  have r2 := R2.out.below hb2
  have x0 := r1.cell' (i := 0) rfl
  have x1 := r1.cell' (i := 1) rfl
  have xf := fun i => r1.froz i
  have xl := r1.lt
  have v0 := r2.cell' (i := 0) rfl
  have v1 := r2.cell' (i := 1) rfl
  have v2 := r2.cell' (i := 2) rfl
  have v3 := r2.cell' (i := 3) rfl
  have v4 := r2.cell' (i := 4) rfl
  have v5 := r2.cell' (i := 5) rfl
  have vf := fun i => r2.froz i
  have vl := r2.lt
  have HB2 := Lib.hid (HB1.out.trans (hb2.mono HB1.out.size))
  have HCC : Hid (w.heap.size ≤ C1 ∧ w.heap.size ≤ C1 + 1) := Lib.hid (by have := HC1.out; omega)
  clear hb2 r1 r2 R1 R2 c0 c1 c2 c3 cl
  go_wp2
  rw [← HP.out]
  refine bodyPost_ret (v := .tuple #[.agg #[.int .i64 0, .int .i64 0], .agg #[.int .i64 0, .int .i64 0, .int .i64 0, .int .i64 0, .string ⟨#[]⟩, .int .i64 0], errV E 9]) (by simp [results, Tryz.results27, go_sem, x0, x1, xl, v0, v1, v2, v3, v4, v5, vl]) rfl ⟨rfl, ?_⟩
  repeat (first | with_reducible exact HB2.out | with_reducible refine Below.setCell ?_ HCC.out.1 _ | with_reducible refine Below.setCell ?_ HCC.out.2 _ | with_reducible refine bl_alloc ?_ _ | with_reducible refine Below.drew ?_)
theorem Row.kv {c : Nat} {ty : TypeId} {v : Value} {vs : List Value} (r : Row w c ty (v :: vs)) (hp : PlainV v) (k : KV B L NoB w w') : Row w' c ty (v :: vs) := r.keep (Touch.block k c r.lt fun hs => by
  rcases hs with hs | hs
  · exact hs.2.2 (r.plain hp)
  · exact hs)
theorem VWf.moved (h : VWf s) {fd : Nat} {x : Hdl} (hx : s.fs fd = some x) {q : Int} (h0 : 0 ≤ q) (h1 : q ≤ 1099511627776) : VWf { s with fs := fun j => if j = fd then some ⟨x.node, q⟩ else s.fs j } :=
  ⟨h.full, h.blk, h.wf, fun j y hy => by
    simp only at hy
    obtain ⟨a1, a2, a3, a4⟩ := h.fs fd x hx
    split at hy
    · rename_i he
      injection hy with hy
      subst hy
      exact ⟨by omega, h0, h1, a4⟩
    · exact h.fs j y hy⟩
def staC (x : Sta) : Value := .agg #[.int .i64 x.node, .int .i64 x.kind, .int .i64 x.links, .int .i64 x.size, .int .i64 x.blocks]
theorem idxL_len (g : Nat → FBlk) : (idxL g).length = nBlk g := rfl
set_option maxHeartbeats 2000000 in
theorem stat_any (h : VAt E B L p s w) (n : Nd) :
    Calls Tryz.prog 41 #[.pointer (some ⟨p.v, 0, none⟩), encN n] w fun e w' => e = .returned (staC (statN s n)) ∧ Below w.heap.size w w' := by
  generalize hP : (fun (e : Ending) (w' : World) => e = .returned (staC (statN s n)) ∧ Below w.heap.size w w') = Post
  have HP := Lib.hid hP
  have H := Lib.hid h
  obtain ⟨q1, q2, q3, q4, q5, q6⟩ := n
  obtain ⟨C, hC⟩ : ∃ C, w.heap.size = C := ⟨_, rfl⟩
  obtain ⟨w1, hw1⟩ : ∃ w1, w1 = (w.alloc (.cells #[.int .i64 q1, .int .i64 q2, .int .i64 q3, .int .i64 q4, .string q5, .int .i64 q6] 59)).alloc (.cells #[.int .i64 0, .int .i64 0, .int .i64 0, .int .i64 0, .int .i64 0] 39) := ⟨_, rfl⟩
  have hb1 : Below w.heap.size w w1 := by rw [hw1]; exact bl_alloc (bl_alloc (Below.refl _ _) _) _
  have R1 : Hid (Row w1 C 59 [.int .i64 q1, .int .i64 q2, .int .i64 q3, .int .i64 q4, .string q5, .int .i64 q6]) := Lib.hid (by rw [hw1, ← hC]; exact (Row.new _ _ _).alloc _)
  have R2 : Hid (Row w1 (C + 1) 39 [.int .i64 0, .int .i64 0, .int .i64 0, .int .i64 0, .int .i64 0]) := Lib.hid (by
    have r := Row.new (w.alloc (.cells #[.int .i64 q1, .int .i64 q2, .int .i64 q3, .int .i64 q4, .string q5, .int .i64 q6] 59)) 39 [.int .i64 0, .int .i64 0, .int .i64 0, .int .i64 0, .int .i64 0]
    rw [show (w.alloc (.cells #[.int .i64 q1, .int .i64 q2, .int .i64 q3, .int .i64 q4, .string q5, .int .i64 q6] 59)).heap.size = C + 1 by simp [hC]] at r
    rw [hw1]
    exact r)
  have HB1 := Lib.hid hb1
  have HC1 := Lib.hid hC
  have HW1 := Lib.hid hw1
  clear hP h hb1 hw1 hC
  go_enter Tryz.func41, Tryz.ntmps41
  simp only [encN]
  go_wp2_with fail
  rw [← HW1.out]
  simp only [HC1.out]
  have H1 := Lib.hid (H.out.below HB1.out)
  have S : ∀ w', Below w1.heap.size w1 w' → w'.cell? ⟨p.v, 1, none⟩ = some (.pointer (some ⟨p.bb, 0, none⟩)) ∧ w'.cell? ⟨C, 0, none⟩ = some (.int .i64 q1) ∧ w'.cell? ⟨C, 1, none⟩ = some (.int .i64 q2) ∧ w'.cell? ⟨C, 2, none⟩ = some (.int .i64 q3) ∧ w'.cell? ⟨C, 3, none⟩ = some (.int .i64 q4) := fun w' hC => by
    obtain ⟨c0, c1, c2, t0, t1⟩ := (H1.out.below hC).vc
    have r := R1.out.below hC
    exact ⟨c1, r.cell' (i := 0) rfl, r.cell' (i := 1) rfl, r.cell' (i := 2) rfl, r.cell' (i := 3) rfl⟩
  apply wp_region_tail 17 _ (by kernel_rfl) (by kernel_rfl) (by kernel_rfl) (by decide) (fun w' => Below w1.heap.size w1 w') (fun w' w'' => Below w'.heap.size w' w'') (fun w' w'' h1 h2 => bl_trans h1 h2) (Below.refl _ _).drew
  simp only [List.take_succ_cons, List.take_zero, List.drop_succ_cons, List.drop_zero]
  repeat (first
    | (apply wpRel_skip (by rfl)
       simp only [Act.put, List.setIfInBounds_toArray, List.set_cons_zero, List.set_cons_succ])
    | (apply wpRel_fix (by rfl)
       · intro w' hC hf R hR
         have hS := S w' hC
         go_simp
         exact hR _ (Below.refl _ _)
       simp only [Act.put, List.setIfInBounds_toArray, List.set_cons_zero, List.set_cons_succ]))
  apply wpRel_rel (fun v _ => ∃ sp cap, v = .slice sp (nBlk (s.g q1)) cap) (by rfl) (fun _ _ _ h _ => h)
  · intro w' hC hf R hR
    have hS := S w' hC
    go_simp
    refine (va_of (H1.out.below hC) q1).mono ?_
    rintro e w'' ⟨⟨v, rfl, hs⟩, hb⟩
    obtain ⟨sp, cap, rfl⟩ := hs.shape
    exact ⟨_, rfl, hR _ _ ⟨sp, cap, by rw [List.length_map, idxL_len]⟩ hb⟩
  intro vc
  simp only [Act.put, List.setIfInBounds_toArray, List.set_cons_zero, List.set_cons_succ]
  apply wpRel_fix (by rfl)
  · intro w' hC hf R hR
    obtain ⟨sp, cap, rfl⟩ := hf _ (List.mem_cons_self ..) (by kernel_rfl)
    go_simp
    exact hR _ (Below.refl _ _)
  simp only [Act.put, List.setIfInBounds_toArray, List.set_cons_zero, List.set_cons_succ]
  repeat (first
    | (apply wpRel_skip (by rfl)
       simp only [Act.put, List.setIfInBounds_toArray, List.set_cons_zero, List.set_cons_succ])
    | (apply wpRel_fix (by rfl)
       · intro w' hC hf R hR
         have hS := S w' hC
         go_simp
         exact hR _ (Below.refl _ _)
       simp only [Act.put, List.setIfInBounds_toArray, List.set_cons_zero, List.set_cons_succ]))
  refine wpRel_nil (fun w3 hC3 hf => ?_)
  have r3 := R2.out.below hC3
  have HB3 := Lib.hid (HB1.out.trans (hC3.mono HB1.out.size))
  have x0 := r3.cell' (i := 0) rfl
  have x1 := r3.cell' (i := 1) rfl
  have x2 := r3.cell' (i := 2) rfl
  have x3 := r3.cell' (i := 3) rfl
  have x4 := r3.cell' (i := 4) rfl
  have xf := fun i => r3.froz i
  have xl := r3.lt
  have HCC : Hid (w.heap.size ≤ C + 1) := Lib.hid (by have := HC1.out; omega)
  clear hC3 hf S r3 R1 R2 H1
  go_wp2
  rw [← HP.out]
  refine bodyPost_ret (v := .agg #[.int .i64 q1, .int .i64 q2, .int .i64 q3, .int .i64 q4, .int .i64 (nBlk (s.g q1))]) (by simp [results, Tryz.results41, go_sem, x0, x1, x2, x3, x4, xl]) rfl ⟨rfl, ?_⟩
  repeat (first | with_reducible exact HB3.out | with_reducible refine Below.setCell ?_ HCC.out _ | with_reducible refine Below.drew ?_)
set_option maxHeartbeats 2000000 in
theorem vfstat_any (h : VAt E B L p s w) {fd : Nat} (hfd : fd < 16) {x : Hdl} (hx : s.fs fd = some x) {n : Nd} (hn : (s.st.nd x.node).getD noNd = n) (h64 : In64 x.node) :
    Calls Tryz.prog 14 #[.pointer (some ⟨p.v, 0, none⟩), .int .i64 fd] w fun e w' => e = .returned (.tuple #[staC (statN s n), .nilIface]) ∧ Below w.heap.size w w' := by
  generalize hP : (fun (e : Ending) (w' : World) => e = .returned (.tuple #[staC (statN s n), .nilIface]) ∧ Below w.heap.size w w') = Post
  have HP := Lib.hid hP
  have H := Lib.hid h
  have HA := Lib.hid (fun (w' : World) (hb : Below w.heap.size w w') => at_any (h.below hb) hfd hx hn h64)
  obtain ⟨C, hC⟩ : ∃ C, w.heap.size = C := ⟨_, rfl⟩
  obtain ⟨w1, hw1⟩ : ∃ w1, w1 = w.alloc (.cells #[.int .i64 0, .int .i64 0, .int .i64 0, .int .i64 0, .int .i64 0] 39) := ⟨_, rfl⟩
  have hb1 : Below w.heap.size w w1 := by rw [hw1]; exact bl_alloc (Below.refl _ _) _
  have R1 : Hid (Row w1 C 39 [.int .i64 0, .int .i64 0, .int .i64 0, .int .i64 0, .int .i64 0]) := Lib.hid (by rw [hw1, ← hC]; exact Row.new _ _ _)
  have HB1 := Lib.hid hb1
  have HC1 := Lib.hid hC
  have HW1 := Lib.hid hw1
  clear hP h hb1 hw1 hC hx hn h64
  go_enter Tryz.func14, Tryz.ntmps14
  go_wp2_with fail
  rw [← HW1.out]
  simp only [HC1.out]
  refine (HA.out w1 HB1.out).mono ?_
  rintro e w2 ⟨rfl, hb2⟩
  have HS := Lib.hid (fun (w' : World) (hb : Below w.heap.size w w') => stat_any (H.out.below hb) n)
  have r2 := Lib.hid (R1.out.below hb2)
  have HB2 := Lib.hid (HB1.out.trans (hb2.mono HB1.out.size))
  clear hb2 R1 HA
  obtain ⟨xn, xp⟩ := x
  obtain ⟨q1, q2, q3, q4, q5, q6⟩ := n
  simp only [encN]
  obtain ⟨w3, hw3⟩ : ∃ w3, w3 = (w2.alloc (.cells #[.int .i64 xn, .int .i64 xp] 68)).alloc (.cells #[.int .i64 q1, .int .i64 q2, .int .i64 q3, .int .i64 q4, .string q5, .int .i64 q6] 59) := ⟨_, rfl⟩
  have HW3 := Lib.hid hw3
  have hb3 : Below w2.heap.size w2 w3 := by rw [hw3]; exact bl_alloc (bl_alloc (Below.refl _ _) _) _
  have HB3 := Lib.hid (HB2.out.trans (hb3.mono HB2.out.size))
  have R3 := Lib.hid (r2.out.below hb3)
  clear hw3 hb3 r2
  go_wp2_with fail
  rw [← HW3.out]
  refine (HS.out w3 HB3.out).mono ?_
  rintro e w4 ⟨rfl, hb4⟩
  have r4 := R3.out.below hb4
  have HB4 := Lib.hid (HB3.out.trans (hb4.mono HB3.out.size))
  have x0 := r4.cell' (i := 0) rfl
  have x1 := r4.cell' (i := 1) rfl
  have x2 := r4.cell' (i := 2) rfl
  have x3 := r4.cell' (i := 3) rfl
  have x4 := r4.cell' (i := 4) rfl
  have xf := fun i => r4.froz i
  have xl := r4.lt
  have HCC : Hid (w.heap.size ≤ C) := Lib.hid (by have := HC1.out; omega)
  unfold staC
  unfold staC at HP
  clear hb4 r4 R3 HS
  go_wp2
  rw [← HP.out]
  generalize statN s ⟨q1, q2, q3, q4, q5, q6⟩ = sn
  obtain ⟨y0, y1, y2, y3, y4⟩ := sn
  refine bodyPost_ret (v := .tuple #[.agg #[.int .i64 y0, .int .i64 y1, .int .i64 y2, .int .i64 y3, .int .i64 y4], .nilIface]) (by simp [results, Tryz.results14, go_sem, x0, x1, x2, x3, x4, xl]) rfl ⟨rfl, ?_⟩
  repeat (first | with_reducible exact HB4.out | with_reducible refine Below.setCell ?_ HCC.out _ | with_reducible refine Below.drew ?_)
theorem EnvM.up {B' : Nat} {w : World} (h : EnvM E B w) (hB : B ≤ B') (hz : B' ≤ w.heap.size) : EnvM E B' w :=
  ⟨⟨hz, fun g hg => Nat.lt_of_lt_of_le (h.glt g hg) hB, fun g hg => Nat.lt_of_lt_of_le (h.elt g hg) hB, h.cell, h.blk, h.inj⟩, h.max, Nat.lt_of_lt_of_le h.mlt hB⟩
set_option maxHeartbeats 1000000 in
theorem vnew_any (hE : EnvM E B w) (hL : ∀ x, L x → x < w.heap.size) (q : Int) :
    Calls Tryz.prog 7 #[.int .i64 q] w fun e w' => (∃ p, e = .returned (.pointer (some ⟨p.v, 0, none⟩)) ∧ VAt E B L p (newV q) w' ∧ w.heap.size ≤ p.v) ∧ Below w.heap.size w w' := by
  generalize hP : (fun (e : Ending) (w' : World) => (∃ p, e = .returned (.pointer (some ⟨p.v, 0, none⟩)) ∧ VAt E B L p (newV q) w' ∧ w.heap.size ≤ p.v) ∧ Below w.heap.size w w') = Post
  have HP := Lib.hid hP
  have HE := Lib.hid hE
  have HL := Lib.hid hL
  clear hP hE hL
  go_enter Tryz.func7, Tryz.ntmps7
  go_wp2_with fail
  refine (tnew_any (E := E) (B := w.heap.size) (L := fun _ => False) w (Nat.le_refl _) (fun _ h => h.elim) (HE.out.up HE.out.size (Nat.le_refl _)).toEnv).mono ?_
  rintro e w1 ⟨a, b, t, dm, rfl, ha, hta, hwb, hk⟩
  have HT := Lib.hid (And.intro ha (And.intro hta hwb))
  have HB1 := Lib.hid hk.below
  clear ha hta hwb hk
  go_wp2_with fail
  refine (bnew_any w1 (fun _ => True) (fun _ _ => trivial)).mono ?_
  rintro e w2 ⟨rfl, hbd, hb2⟩
  have HBD := Lib.hid hbd
  have HB2 := Lib.hid hb2
  clear hbd hb2
  go_wp2_with go_in
  rw [← HP.out]
  obtain ⟨ha, hta, hwb⟩ := HT.out
  have hb23 : Below w2.heap.size w2 (w2.alloc (.cells #[.map none] 112)) := bl_alloc (Below.refl _ _) _
  have hg : gB (newV q).g = fun _ => none := by
    funext c
    unfold gB newV
    split <;> rfl
  have hgf : gF (newV q).fs = fun _ => none := by
    funext c
    unfold gF newV
    split <;> rfl
  have hfl : FilesAt (w2.alloc (.cells #[.map none] 112)) w2.heap.size none (gF (newV q).fs) 0 := by
    have r := Row.new w2 112 [.map none]
    rw [hgf]
    exact ⟨r.cell 0, r.froz 0, r.lt, rfl, fun _ => rfl⟩
  have hbd := HBD.out
  rw [← hg] at hbd
  have hj := va_joined (T := 63) (s := newV q) (L' := L) HE.out (newV_wf q) ha hta (hwb.less (fun x hx => .inl hx)) HB1.out (by omega) (by omega) (by omega) hbd HB2.out hfl (fun x hx => by
    rcases hx with hx | hx
    · rw [hx]; exact Nat.le_refl _
    · cases hx) hb23 HL.out (fun _ _ => trivial)
  have hz := HB2.out.size
  have hz1 := HB1.out.size
  have h3 : (w2.alloc (.cells #[.map none] 112)).heap.size = w2.heap.size + 1 := by simp
  refine ⟨⟨⟨_, _, _, _, _, _, _, _, _⟩, ?_, hj, ?_⟩, ?_⟩
  · rw [h3]
    rfl
  · simp only
    omega
  · exact bl_alloc (bl_alloc (HB1.out.trans (HB2.out.mono hz1)) _) _
end
end Go.Proofs.YtjekpbkmhgfhoaaGreatDoor
end

section
/- The walk of vol's lay: bytes laid into a file's blocks, piece by piece. -/
namespace Go.Proofs.YtjekpbkmhgfhoaaGreatDoor
open Go Go.RowKit
set_option maxRecDepth 100000
set_option linter.unusedSimpArgs false
set_option linter.unusedVariables false
attribute [local go_sem] giv
variable {E : Nat → Addr} {B : Nat}
/-! ### plain -/
theorem layF_fuel : ∀ (f f' : Nat) (g : Nat → FBlk) (a : Nat) (b : List Int), b.length ≤ f → b.length ≤ f' → layF f g a b = layF f' g a b
  | 0, f', g, a, b, h, h' => by
    obtain rfl : b = [] := List.eq_nil_of_length_eq_zero (by omega)
    cases f' <;> simp [layF]
  | f + 1, 0, g, a, b, h, h' => by
    obtain rfl : b = [] := List.eq_nil_of_length_eq_zero (by omega)
    simp [layF]
  | f + 1, f' + 1, g, a, b, h, h' => by
    unfold layF
    by_cases hb : b = []
    · rw [if_pos hb, if_pos hb]
    · rw [if_neg hb, if_neg hb]
      have hn := List.length_pos_iff.2 hb
      have hm := Nat.mod_lt a (show 256 > 0 by decide)
      simp only
      exact layF_fuel f f' _ _ _ (by rw [List.length_drop]; omega) (by rw [List.length_drop]; omega)
def putB (g : Nat → FBlk) (i : Nat) (l : List Int) : Nat → FBlk := fun j => if j = i then some (some l) else g j
theorem layAt_cons (g : Nat → FBlk) (a : Nat) {b : List Int} (hb : b ≠ []) :
    layAt g a b = layAt (putB g (a / 256) (laidB (bytesOf (g (a / 256))) (a % 256) (b.take (min b.length (256 - a % 256))))) (a + min b.length (256 - a % 256)) (b.drop (min b.length (256 - a % 256))) := by
  have hn := List.length_pos_iff.2 hb
  have hm := Nat.mod_lt a (show 256 > 0 by decide)
  obtain ⟨k, hk⟩ : ∃ k, b.length = k + 1 := ⟨b.length - 1, by omega⟩
  unfold layAt
  rw [hk]
  conv => lhs; unfold layF
  rw [if_neg hb]
  simp only
  rw [hk]
  exact layF_fuel _ _ _ _ _ (by rw [List.length_drop]; omega) (Nat.le_refl _)
/-- One node's blocks put in place of what it had. -/
def gOf (s : V) (id : Int) (g : Nat → FBlk) : V := { s with g := fun k => if k = id then g else s.g k }
theorem gOf_self (s : V) (id : Int) : gOf s id (s.g id) = s := by
  unfold gOf
  have : (fun k => if k = id then s.g id else s.g k) = s.g := by
    funext k
    split
    · rename_i h; rw [h]
    · rfl
  rw [this]
theorem gOf_at (s : V) (id : Int) (g : Nat → FBlk) : (gOf s id g).g id = g := by
  unfold gOf
  simp
theorem gOf_set (s : V) (id : Int) (g : Nat → FBlk) (i : Nat) (l : List Int) : ({ gOf s id g with g := setG (gOf s id g).g id i (some (some l)) } : V) = gOf s id (putB g i l) := by
  unfold gOf setG putB
  simp only [V.mk.injEq, true_and, and_true]
  funext a j
  by_cases h1 : a = id
  · subst h1
    by_cases h2 : j = i
    · simp [h2]
    · simp [h2]
  · simp [h1]
theorem VWf.gOf {s : V} (h : VWf s) {id : Int} {r : NR} (hr : s.st.get id = some r) (hk : r.nd.kind = 1) {g : Nat → FBlk} (hg : ∀ i, g i ≠ none → i < 64) (hw : Wf g) : VWf (Go.Proofs.YtjekpbkmhgfhoaaGreatDoor.gOf s id g) := by
  refine ⟨h.full, fun a i hi => ?_, fun a => ?_, h.fs⟩
  · unfold Go.Proofs.YtjekpbkmhgfhoaaGreatDoor.gOf at hi
    simp only at hi
    split at hi
    · rename_i he
      exact ⟨hg i hi, r, by rw [he]; exact hr, hk⟩
    · exact h.blk a i hi
  · unfold Go.Proofs.YtjekpbkmhgfhoaaGreatDoor.gOf
    simp only
    split
    · exact hw
    · exact h.wf a
theorem putB_some {g : Nat → FBlk} (h : ∀ i, g i ≠ none → i < 64) {i : Nat} (hi : i < 64) (l : List Int) : ∀ j, putB g i l j ≠ none → j < 64 := fun j hj => by
  unfold putB at hj
  split at hj
  · rename_i he; omega
  · exact h j hj
theorem putB_wf {g : Nat → FBlk} (h : Wf g) (i : Nat) {l : List Int} (hl : l.length = 256) : Wf (putB g i l) := fun j l' hj => by
  unfold putB at hj
  split at hj
  · injection hj with hj
    injection hj with hj
    rw [← hj]; exact hl
  · exact h j l' hj
/-! ### what is read stays -/
/-- Bytes in a block that calls on the volume leave alone. -/
def SlK (B : Nat) (L : Nat → Prop) (w : World) (sp : Option Addr) (l : List Int) : Prop := 0 < l.length → ∃ h off, sp = some ⟨h, off, none⟩ ∧ (h < B ∨ L h ∨ Plain w h) ∧ h < w.heap.size ∧ ∀ i, i < l.length → w.cell? ⟨h, off + i, none⟩ = some (.int .u8 (l.getD i 0))
section
variable {L L' : Nat → Prop} {w w' : World} {sp : Option Addr} {l : List Int}
theorem SlK.kv (h : SlK B L w sp l) (k : KV B L NoB w w') : SlK B L w' sp l := fun h0 => by
  obtain ⟨c, off, e1, e2, e3, e4⟩ := h h0
  have hb : w'.heap[c]? = w.heap[c]? := Touch.block k c e3 fun hs => by
    rcases hs with ⟨h1, h2, h3⟩ | hs
    · rcases e2 with e2 | e2 | e2
      · omega
      · exact h2 e2
      · exact h3 e2
    · exact hs
  exact ⟨c, off, e1, e2.imp id fun h => h.imp id fun h => plain_keep h hb, Nat.lt_of_lt_of_le e3 (Touch.size k), fun i hi => (World.cell?_of_block (w := w) hb).trans (e4 i hi)⟩
theorem SlK.below (h : SlK B L w sp l) (hb : Below w.heap.size w w') : SlK B L w' sp l := h.kv (KV.of_below hb)
theorem SlK.more (h : SlK B L w sp l) (hL : ∀ x, L x → L' x) : SlK B L' w sp l := fun h0 => by
  obtain ⟨c, off, e1, e2, e3, e4⟩ := h h0
  exact ⟨c, off, e1, e2.imp id fun h => h.imp (hL c) id, e3, e4⟩
theorem SlK.slIn (h : SlK B L w sp l) : SlIn w sp l := fun h0 => by
  obtain ⟨c, off, e1, e2, e3, e4⟩ := h h0
  refine ⟨⟨c, off, none⟩, e1, fun j v hj => ?_⟩
  have ha : (⟨c, off, none⟩ : Addr).add j = ⟨c, off + j, none⟩ := by unfold Addr.add; split <;> simp_all
  rw [ha]
  have hl : j < l.length := by
    have := (List.getElem?_eq_some_iff.1 hj).1
    simpa using this
  refine ⟨?_, e3⟩
  rw [e4 j hl]
  rw [List.getElem?_map, List.getElem?_eq_getElem hl] at hj
  rw [← hj, List.getD_eq_getElem?_getD, List.getElem?_eq_getElem hl]
  rfl
theorem SlK.take (h : SlK B L w sp l) (n : Nat) : SlK B L w sp (l.take n) := fun h0 => by
  rw [List.length_take] at h0
  obtain ⟨c, off, e1, e2, e3, e4⟩ := h (by omega)
  refine ⟨c, off, e1, e2, e3, fun i hi => ?_⟩
  rw [List.length_take] at hi
  rw [e4 i (by omega), List.getD_eq_getElem?_getD, List.getD_eq_getElem?_getD, List.getElem?_take, if_pos (by omega)]
theorem SlK.drop {h0 off0 : Nat} (h : SlK B L w (some ⟨h0, off0, none⟩) l) (n : Nat) : SlK B L w (some ⟨h0, off0 + n, none⟩) (l.drop n) := fun hp => by
  rw [List.length_drop] at hp
  obtain ⟨c, off, e1, e2, e3, e4⟩ := h (by omega)
  injection e1 with e1
  injection e1 with e1 e1'
  subst e1 e1'
  refine ⟨_, _, rfl, e2, e3, fun i hi => ?_⟩
  rw [List.length_drop] at hi
  rw [Nat.add_assoc, e4 (n + i) (by omega), List.getD_eq_getElem?_getD, List.getD_eq_getElem?_getD, List.getElem?_drop]
/-- Pieces in a block that calls on the volume leave alone. -/
def PcK (B : Nat) (L : Nat → Prop) (w : World) (v : Value) (ps : List (Nat × Nat × Nat)) : Prop := ∃ h off cap, v = .slice (some ⟨h, off, none⟩) ps.length cap ∧ (h < B ∨ L h ∨ Plain w h) ∧ h < w.heap.size ∧ ∀ i p, ps[i]? = some p → w.cell? ⟨h, off + i * 3, none⟩ = some (.int .i64 p.1) ∧ w.cell? ⟨h, off + i * 3 + 1, none⟩ = some (.int .i64 p.2.1) ∧ w.cell? ⟨h, off + i * 3 + 2, none⟩ = some (.int .i64 p.2.2)
theorem PcK.kv {v : Value} {ps : List (Nat × Nat × Nat)} (h : PcK B L w v ps) (k : KV B L NoB w w') : PcK B L w' v ps := by
  obtain ⟨c, off, cap, e1, e2, e3, e4⟩ := h
  have hb : w'.heap[c]? = w.heap[c]? := Touch.block k c e3 fun hs => by
    rcases hs with ⟨h1, h2, h3⟩ | hs
    · rcases e2 with e2 | e2 | e2
      · omega
      · exact h2 e2
      · exact h3 e2
    · exact hs
  refine ⟨c, off, cap, e1, e2.imp id fun h => h.imp id fun h => plain_keep h hb, Nat.lt_of_lt_of_le e3 (Touch.size k), fun i p hp => ?_⟩
  obtain ⟨f1, f2, f3⟩ := e4 i p hp
  exact ⟨(World.cell?_of_block (w := w) hb).trans f1, (World.cell?_of_block (w := w) hb).trans f2, (World.cell?_of_block (w := w) hb).trans f3⟩
theorem PcK.more {v : Value} {ps : List (Nat × Nat × Nat)} (h : PcK B L w v ps) (hL : ∀ x, L x → L' x) : PcK B L' w v ps := by
  obtain ⟨c, off, cap, e1, e2, e3, e4⟩ := h
  exact ⟨c, off, cap, e1, e2.imp id fun h => h.imp (hL c) id, e3, e4⟩
theorem PcK.of_sl {base : Nat} {v : Value} {p : Nat × Nat × Nat} {ps : List (Nat × Nat × Nat)} (h : SlE w base 74 3 encPc v (p :: ps)) : PcK B L w v (p :: ps) := by
  obtain ⟨sp, cap, e1, e2, e3, e4⟩ := h.rd (fun _ => rfl)
  obtain ⟨c, off, e5, e6, e7⟩ := e4 (by simp)
  have hoff : off = 0 := by
    rcases h.cases with ⟨h1, h2⟩ | ⟨g, cap', h1, _⟩
    · cases h2
    · rw [e1, e5] at h1
      injection h1 with h1
      injection h1 with h1
      injection h1 with _ h1
  subst hoff
  refine ⟨c, 0, cap, by rw [e1, e5], .inr (.inr ⟨.int .i64 p.1, ?_, plainI _ _⟩), e6, fun i q hq => ?_⟩
  · have := e7 0 0 (by simp) (by decide)
    simpa [encPc] using this
  · have hi : i < (p :: ps).length := (List.getElem?_eq_some_iff.1 hq).1
    have f0 := e7 i 0 hi (by decide)
    have f1 := e7 i 1 hi (by decide)
    have f2 := e7 i 2 hi (by decide)
    rw [hq] at f0 f1 f2
    exact ⟨f0, f1, f2⟩
end
end Go.Proofs.YtjekpbkmhgfhoaaGreatDoor
end

section
/- What Trunc leaves, step by step, in plain words: the last block cut, then what is behind taken away. No program in sight. -/
namespace Go.Proofs.YtjekpbkmhgfhoaaGreatDoor
set_option linter.unusedSimpArgs false
set_option linter.unusedVariables false
/-- What is there but the blocks of a list that are behind. -/
def cutG (g : Nat → FBlk) (nb : Int) (l : List Nat) : Nat → FBlk := fun k => if nb ≤ k ∧ k ∈ l then none else g k
def delB (g : Nat → FBlk) (i : Nat) : Nat → FBlk := fun j => if j = i then none else g j
theorem cutG_nil (g : Nat → FBlk) (nb : Int) : cutG g nb [] = g := by
  funext k
  unfold cutG
  rw [if_neg (by simp)]
theorem cutG_del (g : Nat → FBlk) {nb : Int} {l : List Nat} {i : Nat} (h : nb ≤ i) : delB (cutG g nb l) i = cutG g nb (l ++ [i]) := by
  funext k
  unfold cutG delB
  by_cases hk : k = i
  · subst hk
    rw [if_pos rfl, if_pos ⟨h, by simp⟩]
  · rw [if_neg hk]
    show (if nb ≤ (k : Int) ∧ k ∈ l then none else g k) = _
    by_cases h1 : nb ≤ (k : Int) ∧ k ∈ l
    · rw [if_pos h1, if_pos ⟨h1.1, List.mem_append_left _ h1.2⟩]
    · rw [if_neg h1, if_neg (fun h2 => h1 ⟨h2.1, by
        rcases List.mem_append.1 h2.2 with h3 | h3
        · exact h3
        · exact absurd (by simpa using h3) hk⟩)]
theorem cutG_all {g : Nat → FBlk} (hg : ∀ i, g i ≠ none → i < 64) (nb : Int) : cutG g nb ((List.range 64).filter fun i => (g i).isSome) = fun k : Nat => if nb ≤ (k : Int) then none else g k := by
  funext k
  unfold cutG
  by_cases h : nb ≤ (k : Int)
  · rw [if_pos h]
    cases hk : g k with
    | none => split <;> rfl
    | some o =>
      rw [if_pos ⟨h, List.mem_filter.2 ⟨List.mem_range.2 (hg k (by rw [hk]; simp)), by simp [hk]⟩⟩]
  · rw [if_neg h, if_neg (fun h2 => h h2.1)]
/-- The block in which the new end lies, cut. -/
def headG (g : Nat → FBlk) (sz size : Int) : Nat → FBlk :=
  if 0 < (size % 256).toNat ∧ size < sz ∧ (g (size / 256).toNat).isSome = true then putB g (size / 256).toNat (((bytesOf (g (size / 256).toNat)).take (size % 256).toNat) ++ List.replicate (256 - ((bytesOf (g (size / 256).toNat)).take (size % 256).toNat).length) 0) else g
theorem cutG_at {g : Nat → FBlk} {nb : Int} {l : List Nat} {i : Nat} (h : i ∉ l) : cutG g nb l i = g i := by
  unfold cutG
  rw [if_neg (fun h2 => h h2.2)]
theorem gOf_del (s : V) (id : Int) (g : Nat → FBlk) (i : Nat) : ({ gOf s id g with g := setG (gOf s id g).g id i none } : V) = gOf s id (delB g i) := by
  unfold gOf setG delB
  simp only [V.mk.injEq, true_and, and_true]
  funext a j
  by_cases h1 : a = id
  · subst h1
    by_cases h2 : j = i
    · simp [h2]
    · simp [h2]
  · simp [h1]
end Go.Proofs.YtjekpbkmhgfhoaaGreatDoor
end

section
/- A volume in memory whose state is for a while no volume's: a node is gone, its blocks are there still. -/
namespace Go.Proofs.YtjekpbkmhgfhoaaGreatDoor
open Go Go.RowKit
set_option maxRecDepth 100000
set_option linter.unusedSimpArgs false
set_option linter.unusedVariables false
variable {E : Nat → Addr} {B : Nat}
def VRt (E : Nat → Addr) (B : Nat) (L : Nat → Prop) (p : VP) (s : V) (w : World) : Prop := ∃ fm lab gd n k fn, VA0 E B L p s w fm lab gd n k fn
/-- The same, with few blocks. -/
def VRb (E : Nat → Addr) (B : Nat) (L : Nat → Prop) (p : VP) (s : V) (w : World) : Prop := ∃ fm lab gd n k fn, VA0 E B L p s w fm lab gd n k fn ∧ n ≤ 32768
section
variable {L L' : Nat → Prop} {p : VP} {s : V} {w w' : World}
theorem VRb.raw (h : VRb E B L p s w) : VRt E B L p s w := by
  obtain ⟨fm, lab, gd, n, k, fn, h, _⟩ := h
  exact ⟨fm, lab, gd, n, k, fn, h⟩
theorem VRt.below (h : VRt E B L p s w) (hb : Below w.heap.size w w') : VRt E B L p s w' := by
  obtain ⟨fm, lab, gd, n, k, fn, h⟩ := h
  exact ⟨fm, lab, gd, n, k, fn, h.below hb⟩
theorem vr_of (h : VRb E B L p s w) (k : Int) :
    Calls Tryz.prog 71 #[.pointer (some ⟨p.bb, 0, none⟩), .int .i64 k] w fun e w' =>
      (∃ v, e = .returned v ∧ SlE w' w.heap.size 3 1 encI1 v ((idxL (s.g k)).map fun i : Nat => (i : Int))) ∧ Below w.heap.size w w' := by
  obtain ⟨fm, lab, gd, n, kk, fn, h, hn⟩ := h
  refine (bof_any h.body (by omega) k).mono ?_
  rintro e w' ⟨⟨v, zs, rfl, h1, h2, h3, _⟩, hb⟩
  rw [idxL_eq h1 h2] at h3
  exact ⟨⟨v, rfl, h3⟩, hb⟩
theorem VRt.back (h : VRt E B L p s w) (hf : VWf s) : VAt E B L p s w := by
  obtain ⟨fm, lab, gd, n, k, fn, h⟩ := h
  exact ⟨fm, lab, gd, n, k, fn, { h with wf := hf }⟩
theorem VRt.cells (h : VRt E B L p s w) : w.cell? ⟨p.v, 0, none⟩ = some (.pointer (some ⟨p.a, 0, none⟩)) ∧ w.cell? ⟨p.v, 1, none⟩ = some (.pointer (some ⟨p.bb, 0, none⟩)) ∧ w.cell? ⟨p.v, 2, none⟩ = some (.pointer (some ⟨p.fb, 0, none⟩)) ∧ p.v < w.heap.size := by
  obtain ⟨fm, lab, gd, n, k, fn, h⟩ := h
  exact ⟨h.c0, h.c1, h.c2, h.lt (.inl rfl)⟩
theorem va_free0 (h : VAt E B L p s w) {k : Int} (hk : -9223372036854775808 ≤ k ∧ k ≤ 9223372036854775807) :
    Calls Tryz.prog 70 #[.pointer (some ⟨p.a, 0, none⟩), .int .i64 k] w fun e w' => e = .returned (.bool (freeT s.st k).1) ∧ VRb E B L p { s with st := (freeT s.st k).2 } w' ∧ KV B L NoB w w' := by
  obtain ⟨fm, lab, gd, n, kk, fn, h⟩ := h
  have hn := h.nkeys
  have hw := h.wf.few
  refine (ts_free h.ts rfl rfl hk).mono ?_
  rintro e w' ⟨h1, h2, h3⟩
  obtain ⟨h4, h5⟩ := h.toVA0.tree (X := NoB) (h2.wb.less fun x hx => .inl hx) h3
  exact ⟨h1, ⟨fm, lab, gd, n, kk, fn, h4, by omega⟩, h5⟩
theorem vr_del (h : VRt E B L p s w) {k : Int} (hk : In64 k) {i : Nat} (hi : i < 64) {o : Option (List Int)} (hg : s.g k i = some o) :
    Calls Tryz.prog 72 #[.pointer (some ⟨p.bb, 0, none⟩), .agg #[.int .i64 k, .int .i64 i]] w fun e w' => e = .returned (.bool true) ∧ VRt E B L p { s with g := setG s.g k i none } w' ∧ KV B L NoB w w' := by
  obtain ⟨fm, lab, gd, n, kk, fn, h⟩ := h
  refine (bdel_ok (c := (k, (i : Int))) h.body hk (in64_of (by omega) (by omega)) (o := o) (by rw [gB_at _ _ hi]; exact hg)).mono ?_
  rintro e w' ⟨h1, h2⟩
  rw [gB_del _ _ hi] at h2
  obtain ⟨⟨n', k', h3⟩, h4⟩ := h.blocks (X := NoB) h2
  exact ⟨h1, ⟨fm, lab, _, n', k', fn, h3⟩, h4⟩
end
end Go.Proofs.YtjekpbkmhgfhoaaGreatDoor
end

section
/- What Settle leaves of a volume, in plain words: what is open is closed in turn, then each node is freed. No program in sight. -/
namespace Go.Proofs.YtjekpbkmhgfhoaaGreatDoor
set_option linter.unusedSimpArgs false
set_option linter.unusedVariables false
theorem closeV_no {s : V} {fd : Nat} (h : s.fs fd = none) : closeV s fd = (121, s) := by unfold closeV; rw [h]
theorem freeV_fs (s : V) (id : Int) : (freeV s id).fs = s.fs := by
  unfold freeV
  simp only
  split
  · rfl
  · split <;> rfl
theorem closeV_fs (s : V) (fd : Nat) : (closeV s fd).2.fs = fun k => if k = fd then none else s.fs k := by
  cases hx : s.fs fd with
  | none =>
    rw [closeV_no hx]
    funext k
    by_cases hk : k = fd
    · rw [if_pos hk, hk]; exact hx
    · rw [if_neg hk]
  | some x =>
    unfold closeV
    rw [hx]
    exact freeV_fs _ _
def closeL (l : List Nat) (s : V) : V := l.foldl (fun v fd => (closeV v fd).2) s
theorem close_skip (l : List Nat) (hn : l.Nodup) (s : V) : closeL l s = closeL (l.filter fun fd => (s.fs fd).isSome) s := by
  unfold closeL
  induction l generalizing s with
  | nil => rfl
  | cons a l ih =>
    obtain ⟨ha, hl⟩ := List.nodup_cons.1 hn
    rw [List.foldl_cons, ih hl]
    have hf : l.filter (fun fd => ((closeV s a).2.fs fd).isSome) = l.filter (fun fd => (s.fs fd).isSome) := by
      refine List.filter_congr fun x hx => ?_
      rw [closeV_fs]
      simp only
      rw [if_neg (fun e : x = a => ha (e ▸ hx))]
    rw [hf]
    cases hs : s.fs a with
    | none => rw [List.filter_cons_of_neg (by simp [hs]), closeV_no hs]
    | some x => rw [List.filter_cons_of_pos (by simp [hs]), List.foldl_cons]
theorem riseI_ext {a b : List Int} (ha : a.Pairwise (· < ·)) (hb : b.Pairwise (· < ·)) (hm : ∀ x, x ∈ a ↔ x ∈ b) : a = b := by
  induction a generalizing b with
  | nil =>
    cases b with
    | nil => rfl
    | cons y b => exact absurd ((hm y).2 (List.mem_cons_self ..)) (by simp)
  | cons x a ih =>
    cases b with
    | nil => exact absurd ((hm x).1 (List.mem_cons_self ..)) (by simp)
    | cons y b =>
      obtain ⟨ha1, ha2⟩ := List.pairwise_cons.1 ha
      obtain ⟨hb1, hb2⟩ := List.pairwise_cons.1 hb
      have hxy : x = y := by
        rcases List.mem_cons.1 ((hm x).1 (List.mem_cons_self ..)) with h | h
        · exact h
        · rcases List.mem_cons.1 ((hm y).2 (List.mem_cons_self ..)) with k | k
          · exact k.symm
          · have := ha1 y k
            have := hb1 x h
            omega
      subst hxy
      congr 1
      refine ih ha2 hb2 fun z => ⟨fun hz => ?_, fun hz => ?_⟩
      · rcases List.mem_cons.1 ((hm z).1 (List.mem_cons_of_mem _ hz)) with h | h
        · have := ha1 z hz
          omega
        · exact h
      · rcases List.mem_cons.1 ((hm z).2 (List.mem_cons_of_mem _ hz)) with h | h
        · have := hb1 z hz
          omega
        · exact h
/-- What is open, in turn. -/
def openL (s : V) : List Nat := (List.range 16).filter fun fd => (s.fs fd).isSome
theorem open_sorted {s : V} (h : VWf s) {ks : List Int} (hk : SortedKeys (gF s.fs) ks) : ks = (openL s).map fun k : Nat => (k : Int) := by
  refine riseI_ext hk.rise (List.pairwise_map.2 ((List.Pairwise.sublist List.filter_sublist List.pairwise_lt_range).imp fun hab => by omega)) fun x => ?_
  rw [hk.mem, List.mem_map]
  unfold gF openL
  constructor
  · intro hx
    by_cases h0 : 0 ≤ x
    · rw [if_pos h0, Option.isSome_map] at hx
      obtain ⟨y, hy⟩ := Option.isSome_iff_exists.1 hx
      exact ⟨x.toNat, List.mem_filter.2 ⟨List.mem_range.2 (h.fs _ y hy).1, hx⟩, by omega⟩
    · rw [if_neg h0] at hx
      cases hx
  · rintro ⟨k, hk, rfl⟩
    rw [if_pos (by omega), Option.isSome_map]
    exact (List.mem_filter.1 hk).2
theorem openL_nodup (s : V) : (openL s).Nodup := List.nodup_range.filter _
theorem openL_lt {s : V} {k : Nat} (h : k ∈ openL s) : k < 16 := List.mem_range.1 (List.mem_filter.1 h).1
theorem openL_len (s : V) : (openL s).length ≤ 16 := by
  have := List.length_filter_le (fun fd => (s.fs fd).isSome) (List.range 16)
  rw [List.length_range] at this
  exact this
def freeL (l : List Int) (s : V) : V := l.foldl freeV s
theorem settleV_eq (s : V) : settleV s = freeL ((closeL (openL s) s).st.ns.map fun r => r.nd.id) (closeL (openL s) s) := by
  have e : closeL (List.range 16) s = closeL (openL s) s := close_skip _ List.nodup_range s
  unfold settleV freeL
  simp only
  rw [← e]
  rfl
theorem closeL_nil (s : V) : closeL [] s = s := rfl
theorem closeL_snoc (l : List Nat) (k : Nat) (s : V) : closeL (l ++ [k]) s = (closeV (closeL l s) k).2 := by
  unfold closeL
  rw [List.foldl_append]
  rfl
theorem freeL_nil (s : V) : freeL [] s = s := rfl
theorem freeL_snoc (l : List Int) (k : Int) (s : V) : freeL (l ++ [k]) s = freeV (freeL l s) k := by
  unfold freeL
  rw [List.foldl_append]
  rfl
theorem take_snoc {α : Type} {l : List α} {j : Nat} {x : α} (h : l[j]? = some x) : l.take (j + 1) = l.take j ++ [x] := by
  rw [List.take_add_one, h]
  rfl
end Go.Proofs.YtjekpbkmhgfhoaaGreatDoor
end

section
/- VolOpen: what its Read and its Settle leave, in plain words. No program in sight. -/
namespace Go.Proofs.YtjekpbkmhgfhoaaGreatDoor
set_option linter.unusedSimpArgs false
set_option linter.unusedVariables false
variable {g : Nat → FBlk} {sz p0 p1 : Int}
theorem op_read {R : Nat} {last : Int} (h : FullS g R) (h1 : 1 ≤ R) (h8 : R ≤ 8) : ∃ l : List Int, l.length = min 300 (256 * R) ∧ readV (opV (opS last ((256 * R : Nat) : Int)) g (fs01 p0 0)) 1 300 = (0, l, opV (opS last ((256 * R : Nat) : Int)) g (fs01 p0 ((min 300 (256 * R) : Nat) : Int))) := by
  obtain ⟨M, hM⟩ : ∃ M, min 300 (256 * R) = M := ⟨_, rfl⟩
  rw [hM]
  have hat : atV (opV (opS last ((256 * R : Nat) : Int)) g (fs01 p0 0)) 1 = some (⟨2, 0⟩, ⟨2, 1, 0, ((256 * R : Nat) : Int), noText, 0⟩) := rfl
  have ha : ∀ l : List (Nat × Nat × Nat), l.any (fun p => lostB ((opV (opS last ((256 * R : Nat) : Int)) g (fs01 p0 0)).g 2 p.1)) = false := by
    intro l
    rw [List.any_eq_false]
    intro p _
    show ¬ lostB (g p.1) = true
    rw [lostB_no (h.lost p.1)]
    simp
  have hk : (min (min (300 : Int) 1024) (((256 * R : Nat) : Int) - 0)).toNat = M := by omega
  refine ⟨readAt g 0 M, by rw [readAt_eq h.wf, List.length_map, List.length_range], ?_⟩
  unfold readV
  rw [hat]
  simp only
  rw [if_neg (by omega), if_neg (by omega), hk, ha, if_neg (by simp)]
  have hs := seekV_ok (v := opV (opS last ((256 * R : Nat) : Int)) g (fs01 p0 0)) (fd := 1) (h := ⟨2, 0⟩) rfl (p := (0 : Int) + (M : Int)) (by omega) (by omega)
  rw [hs]
  have e1 : readAt ((opV (opS last ((256 * R : Nat) : Int)) g (fs01 p0 0)).g 2) (0 : Int).toNat M = readAt g 0 M := rfl
  rw [e1, Int.zero_add]
  simp only [Prod.mk.injEq, true_and]
  unfold opV
  simp only [V.mk.injEq, true_and, and_true]
  funext j
  unfold fs01
  by_cases h0 : j = 0
  · subst h0; simp
  · by_cases hj : j = 1 <;> simp [h0, hj]
theorem op_openL {st : St} : openL (opV st g (fs1 p1)) = [1] := rfl
theorem op_settle (last : Int) : settleV (opV (opS last sz) g (fs1 p1)) = opE last := by
  rw [settleV_eq, op_openL]
  have e1 : closeL [1] (opV (opS last sz) g (fs1 p1)) = opE last := by
    show (closeV (opV (opS last sz) g (fs1 p1)) 1).2 = _
    rw [opv_close1]
  rw [e1]
  show freeV (opE last) 1 = _
  exact opE_free last
end Go.Proofs.YtjekpbkmhgfhoaaGreatDoor
end
