/- Merged texts: TreeReg TreeLast TreeFn TreeFn2 TreeFn3 TreeFn4. -/
import Derived.Test.YtnkcbogikaebfaaGreatDoorBase29
section
/- What a tree owns can be told by its first cell; a relation between worlds for drawn regions that ask a tree and lay the answer into a new block; walk.To, walk.Last. -/
namespace Go.Proofs.YtnkcbogikaebfaaGreatDoor
open Go Go.RowKit
set_option maxRecDepth 100000
set_option linter.unusedSimpArgs false
set_option linter.unusedVariables false
attribute [local go_sem] giv
variable {E : Nat → Addr} {B : Nat}

/-- A block whose first cell is neither a pointer nor a map. -/
def Plain (w : World) (x : Nat) : Prop := ∃ v, w.cell? ⟨x, 0, none⟩ = some v ∧ (∀ p, v ≠ .pointer p) ∧ (∀ m, v ≠ .map m)
theorem map_nocell {w : World} {r : Nat} {es : Array MapEntry} {clk : Nat} (h : w.heap[r]? = some (.map es clk)) (o : Nat) : w.cell? ⟨r, o, none⟩ = none := by
  simp [World.cell?, h]
section
variable {L L' : Nat → Prop} {w w' : World} {b t dm : Nat} {nd : Int → Option Nd} {n : Nat} {last : Int} {de : Int → List En} {Q : Dirs → Prop}
open Classical in
theorem WL.more (h : WL B L w b t dm nd n last de Q) (h' : ∀ x, L' x → x < w.heap.size ∧ (L x ∨ Plain w x)) : WL B L' w b t dm nd n last de Q := by
  obtain ⟨h1, h2, nm, dirs, pn, lab, h3, h4, h5⟩ := h
  have key : ∀ x, (x = b ∨ OwnN t nm x ∨ x = dm ∨ ∃ k p, dirs k = some p ∧ OwnD p.1 p.2 x) → ¬ Plain w x := by
    rintro x hx ⟨v, hv, hp, hm⟩
    rcases hx with rfl | hx | rfl | ⟨k, p, hk, hx⟩
    · rw [h3.c0] at hv
      injection hv with hv
      exact hp _ hv.symm
    · rcases hx with rfl | hx
      · rw [h3.nodes.map] at hv
        injection hv with hv
        exact hm _ hv.symm
      · subst hx
        obtain ⟨_, es, clk, hh, _⟩ := h3.nodes.made
        rw [map_nocell hh] at hv
        cases hv
    · obtain ⟨es, clk, hh, _⟩ := h3.map
      rw [map_nocell hh] at hv
      cases hv
    · have hd := h3.own k p hk
      rcases hx with rfl | hx
      · rw [hd.1] at hv
        injection hv with hv
        exact hm _ hv.symm
      · obtain ⟨p1, p2⟩ := p
        simp only at hx hd
        subst hx
        obtain ⟨_, es, clk, hh, _⟩ := hd.2.2.2
        rw [map_nocell hh] at hv
        cases hv
  refine ⟨h1, fun x hx => (h' x hx).1, nm, dirs, pn, fun x => if (x = b ∨ OwnN t nm x ∨ x = dm ∨ ∃ k p, dirs k = some p ∧ OwnD p.1 p.2 x) then lab x else 0, ?_, ?_, h5⟩
  · refine ⟨h3.c0, h3.c1, h3.nodes, h3.map, h3.own, h3.bare, fun x hx => ?_, fun k p hk => ⟨(h3.labd k p hk).1, fun x hx => ?_⟩, ?_, ?_, fun x hx => ?_⟩
    · exact (if_pos (.inr (.inl hx))).trans (h3.labn x hx)
    · exact (if_pos (.inr (.inr (.inr ⟨k, p, hk, hx⟩)))).trans ((h3.labd k p hk).2 x hx)
    · exact (if_pos (.inl rfl)).trans h3.labb
    · exact (if_pos (.inr (.inr (.inl rfl)))).trans h3.labm
    · by_cases hc : x = b ∨ OwnN t nm x ∨ x = dm ∨ ∃ k p, dirs k = some p ∧ OwnD p.1 p.2 x
      · exact h3.lt x (by rwa [if_pos hc] at hx)
      · rw [if_neg hc] at hx; exact absurd rfl hx
  · intro x hx
    by_cases hc : x = b ∨ OwnN t nm x ∨ x = dm ∨ ∃ k p, dirs k = some p ∧ OwnD p.1 p.2 x
    · have hx2 : lab x ≠ 0 := by
        intro he
        exact hx ((if_pos hc).trans he)
      refine ⟨(h4 x hx2).1, fun hl => ?_⟩
      rcases (h' x hl).2 with h6 | h6
      · exact (h4 x hx2).2 h6
      · exact key x hc h6
    · exact absurd (if_neg hc) hx
end
def PlainV (v : Value) : Prop := (∀ p, v ≠ .pointer p) ∧ (∀ m, v ≠ .map m)
theorem plainI (k : IntKind) (n : Int) : PlainV (.int k n) := ⟨fun _ h => (by cases h), fun _ h => (by cases h)⟩
theorem plainS (s : ByteArray) : PlainV (.string s) := ⟨fun _ h => (by cases h), fun _ h => (by cases h)⟩
theorem plainSl (a : Option Addr) (n c : Nat) : PlainV (.slice a n c) := ⟨fun _ h => (by cases h), fun _ h => (by cases h)⟩
theorem Row.plain {w : World} {c : Nat} {ty : TypeId} {v : Value} {vs : List Value} (r : Row w c ty (v :: vs)) (h : PlainV v) : Plain w c := ⟨v, (r.cell 0).trans rfl, h⟩
/-- .. and what is asked of a tree leaves it as it was. -/
structure ShT (B : Nat) (L : Nat → Prop) (b t dm : Nat) (st : St) (base : Nat) (vals : List Value) (ty : TypeId) (w w' : World) : Prop where
  tree : WB B L w b t dm st → WB B L w' b t dm st
  kept : WB B L w b t dm st → KeptP B L w w'
  blk : ∀ c, TyB vals.length ty w c → Plain w c → TyB vals.length ty w' c ∧ Plain w' c
  hold : ∀ c, Plain w c → Row w c ty vals → Plain w' c ∧ Row w' c ty vals
section
variable {L : Nat → Prop} {b t dm : Nat} {st : St} {base : Nat} {vals : List Value} {ty : TypeId} {a w w' : World}
theorem ShT.refl (B : Nat) (L : Nat → Prop) (b t dm : Nat) (st : St) (base : Nat) (vals : List Value) (ty : TypeId) (w : World) : ShT B L b t dm st base vals ty w w := ⟨id, fun _ => KeptP.refl _ _ _, fun _ h k => ⟨h, k⟩, fun _ h k => ⟨h, k⟩⟩
theorem plain_lt {x : Nat} (h : Plain w x) : x < w.heap.size := by
  obtain ⟨v, hv, _⟩ := h
  rcases Nat.lt_or_ge x w.heap.size with h | h
  · exact h
  · simp [World.cell?, Array.getElem?_eq_none h] at hv
theorem plain_keep {x : Nat} (h : Plain w x) (hb : w'.heap[x]? = w.heap[x]?) : Plain w' x := by
  obtain ⟨v, hv, hp⟩ := h
  exact ⟨v, (World.cell?_of_block (w := w) hb).trans hv, hp⟩
theorem ShT.of_keep (ht : WB B L w b t dm st → WB B L w' b t dm st) (hk : WB B L w b t dm st → KeptP B L w w') (hp : ∀ x, Plain w x → w'.heap[x]? = w.heap[x]?) : ShT B L b t dm st base vals ty w w' :=
  ⟨ht, hk, fun x ⟨cs, h1, h2⟩ h3 => ⟨⟨cs, h1, (hp x h3).trans h2⟩, plain_keep h3 (hp x h3)⟩, fun x h3 h4 => ⟨plain_keep h3 (hp x h3), h4.keep (hp x h3)⟩⟩
theorem ShT.of_below (hb : Below w.heap.size w w') : ShT B L b t dm st base vals ty w w' :=
  ShT.of_keep (fun h => h.below hb) (fun h => h.kept hb) (fun x hx => hb.block x (plain_lt hx))
/-- A call that asks the tree. -/
theorem ShT.call (hw : WB B (fun x => L x ∨ (x < w.heap.size ∧ Plain w x)) w' b t dm st) (hk : KeptP B (fun x => L x ∨ (x < w.heap.size ∧ Plain w x)) w w') : ShT B L b t dm st base vals ty w w' :=
  ShT.of_keep (fun _ => hw.less (fun x hx => .inl hx)) (fun _ => hk.mono (fun x hx => .inl hx)) (fun x hx => hk.loc x (.inr ⟨plain_lt hx, hx⟩))
/-- What such a call may be asked at. -/
theorem WL.wide (h : WB B L w b t dm st) : WB B (fun x => L x ∨ (x < w.heap.size ∧ Plain w x)) w b t dm st :=
  h.more (fun x hx => by
    rcases hx with hx | hx
    · exact ⟨h.2.1 x hx, .inl hx⟩
    · exact ⟨hx.1, .inr hx.2⟩)
theorem setAll_wb {c : Nat} (hc : L c) : ∀ (l : List Value) (w : World) (i : Nat), WB B L w b t dm st → WB B L (setAll w c i l) b t dm st
  | [], _, _, h => h
  | v :: l, w, i, h => setAll_wb hc l _ _ (h.set (p := ⟨c, i, none⟩) hc v)
theorem setAll_kept {c : Nat} (hB : B ≤ c) (hc : ¬ L c) (l : List Value) (w : World) (i : Nat) : KeptP B L w (setAll w c i l) :=
  ⟨setAll_below hB l w i, fun x hx => setAll_other (fun e => hc (by rw [← e]; exact hx)) l w i⟩
theorem ShT.setAll {c : Nat} (hv : ∃ v vs, vals = v :: vs ∧ PlainV v) (h : TyB vals.length ty w c) (hp : Plain w c) (hB : B ≤ c) (hL : ¬ L c) : ShT B L b t dm st base vals ty w (setAll w c 0 vals) := by
  have hrow := setAll_row h
  have hpl : Plain (Go.Proofs.YtnkcbogikaebfaaGreatDoor.setAll w c 0 vals) c := by
    obtain ⟨v, vs, rfl, hv⟩ := hv
    exact hrow.plain hv
  refine ⟨fun hw => ?_, fun _ => setAll_kept hB hL _ _ _, fun x hx hx2 => ?_, fun x hx hx2 => ?_⟩
  · refine (setAll_wb (L := fun x => x = c ∨ L x) (.inl rfl) vals w 0 (hw.more (fun x hx => ?_))).less (fun x hx => .inr hx)
    rcases hx with rfl | hx
    · exact ⟨plain_lt hp, .inr hp⟩
    · exact ⟨hw.2.1 x hx, .inl hx⟩
  · by_cases he : x = c
    · subst he
      exact ⟨⟨vals.toArray, by simp, hrow⟩, hpl⟩
    · obtain ⟨cs, h1, h2⟩ := hx
      exact ⟨⟨cs, h1, (setAll_other he _ _ _).trans h2⟩, plain_keep hx2 (setAll_other he _ _ _)⟩
  · by_cases he : x = c
    · subst he; exact ⟨hpl, hrow⟩
    · exact ⟨plain_keep hx (setAll_other he _ _ _), hx2.keep (setAll_other he _ _ _)⟩
/-- A pointer to a block of k cells from base on. -/
def PtTyT (base k : Nat) (ty : TypeId) (v : Value) (w : World) : Prop := ∃ c, v = .pointer (some ⟨c, 0, none⟩) ∧ base ≤ c ∧ TyB k ty w c ∧ Plain w c
theorem ptTyT_keep (v : Value) (w w' : World) (h : PtTyT base vals.length ty v w) (hs : ShT B L b t dm st base vals ty w w') : PtTyT base vals.length ty v w' := by
  obtain ⟨c, h1, h2, h3, h4⟩ := h
  exact ⟨c, h1, h2, hs.blk c h3 h4⟩
def PtRowT (base : Nat) (vals : List Value) (ty : TypeId) (p : Value) (w : World) : Prop := ∃ c, p = .pointer (some ⟨c, 0, none⟩) ∧ base ≤ c ∧ Plain w c ∧ Row w c ty vals
theorem ptRowT_keep (p : Value) (w w' : World) (h : PtRowT base vals ty p w) (hs : ShT B L b t dm st base vals ty w w') : PtRowT base vals ty p w' := by
  obtain ⟨c, h1, h2, h3, h4⟩ := h
  exact ⟨c, h1, h2, hs.hold c h3 h4⟩
theorem ptRowT_mk {c : Nat} (hv : ∃ v vs, vals = v :: vs ∧ PlainV v) (h : TyB vals.length ty w c) (hc : base ≤ c) : PtRowT base vals ty (.pointer (some ⟨c, 0, none⟩)) (Go.Proofs.YtnkcbogikaebfaaGreatDoor.setAll w c 0 vals) := by
  have hrow := setAll_row h
  obtain ⟨v, vs, rfl, hv⟩ := hv
  exact ⟨c, rfl, hc, hrow.plain hv, hrow⟩
end
/-- A call's own cells beside a tree: block c is written, what stays stays. -/
structure Gd (B : Nat) (L L1 : Nat → Prop) (w : World) (b t dm : Nat) (st : St) (S : Nat → Prop) (w9 : World) : Prop where
  tree : WB B L1 w9 b t dm st
  kept : KeptP B L w w9
  sub : ∀ x, L x → L1 x
  own : ∀ c, S c → L1 c ∧ B ≤ c ∧ ¬ L c
section
variable {L L1 : Nat → Prop} {b t dm : Nat} {st : St} {w w9 : World} {S : Nat → Prop}
theorem Gd.below (h : Gd B L L1 w b t dm st S w9) {w' : World} (hb : Below w9.heap.size w9 w') : Gd B L L1 w b t dm st S w' :=
  ⟨h.tree.below hb, h.kept.then hb h.tree.1 (fun x hx => h.tree.2.1 x (h.sub x hx)), h.sub, h.own⟩
theorem Gd.alloc (h : Gd B L L1 w b t dm st S w9) (o : Obj) : Gd B L L1 w b t dm st S (w9.alloc o) := h.below (bl_alloc (Below.refl _ _) o)
theorem Gd.drew (h : Gd B L L1 w b t dm st S w9) : Gd B L L1 w b t dm st S w9.drew := h.below (Below.refl _ _).drew
theorem Gd.set (h : Gd B L L1 w b t dm st S w9) {c i : Nat} (hc : S c) (u : Value) : Gd B L L1 w b t dm st S (w9.setCell ⟨c, i, none⟩ u) := by
  obtain ⟨h1, h2, h3⟩ := h.own c hc
  exact ⟨h.tree.set h1 u, h.kept.set h2 h3 u, h.sub, h.own⟩
theorem Gd.out (h : Gd B L L1 w b t dm st S w9) : WB B L w9 b t dm st ∧ KeptP B L w w9 := ⟨h.tree.less h.sub, h.kept⟩
/-- A call that keeps the call's own cells. -/
theorem Gd.then (h : Gd B L L1 w b t dm st S w9) {w' : World} {st' : St} (hw : WB B L1 w' b t dm st') (hk : KeptP B L1 w9 w') : Gd B L L1 w b t dm st' S w' :=
  ⟨hw, h.kept.trans (hk.mono h.sub), h.sub, h.own⟩
theorem Gd.less {S' : Nat → Prop} (h : Gd B L L1 w b t dm st S w9) (hs : ∀ c, S' c → S c) : Gd B L L1 w b t dm st S' w9 := ⟨h.tree, h.kept, h.sub, fun c hc => h.own c (hs c hc)⟩
/-- New blocks of the call's own. -/
theorem Gd.first (h : WB B L w b t dm st) {w9 : World} (hb : Below w.heap.size w w9) {S : Nat → Prop} (hS : ∀ x, S x → w.heap.size ≤ x ∧ x < w9.heap.size) : Gd B L (fun x => S x ∨ L x) w b t dm st S w9 := by
  refine ⟨h.loc' hb (fun x hx => ?_), h.kept hb, fun x hx => .inr hx, fun c hc => ⟨.inl hc, Nat.le_trans h.1 (hS c hc).1, fun hl => ?_⟩⟩
  · rcases hx with hx | hx
    · exact .inr (hS x hx)
    · exact .inl hx
  · have := h.2.1 c hl
    have := (hS c hc).1
    omega
end

section
variable {L : Nat → Prop} {w : World} {b t dm : Nat} {st : St}
def ToR (E : Nat → Addr) (B : Nat) (L : Nat → Prop) (b t dm : Nat) (st : St) (R : Int × Int) (w : World) (e : Ending) (w' : World) : Prop :=
  e = .returned (.tuple #[.int .i64 R.2, errOf E R.1]) ∧ WB B L w' b t dm st ∧ KeptP B L w w'
theorem wto_any (h : WB B L w b t dm st) (f : Full st) {sp : Option Addr} {np cap : Nat} {ps : List ByteArray} (rp : RdS w (.slice sp np cap) ps) (hlen : ps.length ≤ 1000) (hsm : ∀ x ∈ ps, x.size ≤ 1000000) (follow slash : Bool) (hE : EnvM E B w) :
    Calls Tryz.prog 59 #[.pointer (some ⟨b, 0, none⟩), .agg #[.slice sp np cap, .bool slash], .bool follow] w (ToR E B L b t dm st (toP st ⟨ps, slash⟩ follow) w) := by
  have H := Lib.hid h
  have HF := Lib.hid f
  have HR := Lib.hid rp
  have HL := Lib.hid hlen
  have HS := Lib.hid hsm
  have HE := Lib.hid hE
  generalize hP : ToR E B L b t dm st (toP st ⟨ps, slash⟩ follow) w = Post
  have HP := Lib.hid hP
  clear h f rp hlen hsm hE hP
  go_enter Tryz.func59, Tryz.ntmps59
  go_wp2_with fail
  refine (goes_any (H.out.below (bl_alloc (Below.refl _ _) _)) HF.out (HR.out.below (bl_alloc (Below.refl _ _) _)) HL.out HS.out follow slash (HE.out.below (bl_alloc (Below.refl _ _) _))).mono ?_
  rintro e w1 ⟨⟨hops, rfl⟩, h1, k1⟩
  have H1 := Lib.hid h1
  have K1 := Lib.hid ((H.out.kept (bl_alloc (Below.refl _ _) _)).trans k1)
  clear h1 k1
  go_wp2
  rw [← HP.out]
  exact ⟨rfl, H1.out, K1.out⟩
/-- What Last answers. -/
def LastR (E : Nat → Addr) (B : Nat) (L : Nat → Prop) (b t dm : Nat) (st : St) (R : Int × Fnd) (w : World) (e : Ending) (w' : World) : Prop :=
  e = .returned (.tuple #[.agg #[.int .i64 R.2.dir, .int .i64 R.2.node, .string R.2.name], errOf E R.1]) ∧ WB B L w' b t dm st ∧ KeptP B L w w'
end
end Go.Proofs.YtnkcbogikaebfaaGreatDoor
end

section
/- The walk of package walk's Last. -/
namespace Go.Proofs.YtnkcbogikaebfaaGreatDoor
open Go Go.RowKit
set_option maxRecDepth 100000
set_option linter.unusedSimpArgs false
set_option linter.unusedVariables false
attribute [local go_sem] giv
variable {E : Nat → Addr} {B : Nat}

theorem errOf_some {c : Int} (h : 101 ≤ c ∧ c ≤ 124) : ∃ a, errOf E c = .iface 246 (.pointer (some a)) := by
  unfold errOf
  rw [if_neg (by omega)]
  exact ⟨_, rfl⟩
def CodeOk (c : Int) : Prop := c = 0 ∨ (101 ≤ c ∧ c ≤ 124)
theorem goParts_code {s : St} {follow slash : Bool} {next : ByteArray → Int → List ByteArray → Int × Int} (hn : ∀ t at' ps, CodeOk (next t at' ps).1) : ∀ (ps : List ByteArray) (at' : Int), CodeOk (goParts s follow slash next ps at').1 := by
  intro ps
  induction ps with
  | nil =>
    intro at'
    unfold goParts
    split
    · exact .inr (by decide)
    · exact .inl rfl
  | cons p ps ih =>
    intro at'
    unfold goParts
    split
    · exact .inr (by decide)
    · split
      · exact .inr (by decide)
      · split
        · exact ih _
        · split
          · exact .inr (by decide)
          · split
            · exact .inr (by decide)
            · split
              · exact ih _
              · exact hn _ _ _
theorem goH_code {s : St} {follow slash : Bool} : ∀ (h : Nat) (ps : List ByteArray) (at' : Int), CodeOk (goH s follow slash h ps at').1 := by
  intro h
  induction h with
  | zero =>
    unfold goH
    exact goParts_code fun t at' ps => .inr (by decide)
  | succ h ih =>
    unfold goH
    refine goParts_code fun t at' ps => ?_
    simp only
    split
    · rcases tgt_code t at' with h | h | h | h <;> rw [h] <;> first | exact .inl rfl | exact .inr (by decide)
    · exact ih _ _
theorem toP_code (s : St) (p : Pth) (follow : Bool) : CodeOk (toP s p follow).1 := goH_code _ _ _
section
variable {L : Nat → Prop} {w : World} {b t dm : Nat} {st : St}
theorem splitP_parts (p : Pth) : (splitP p).2.1.length ≤ p.parts.length ∧ (∀ x ∈ (splitP p).2.1, x ∈ p.parts) ∧ ((splitP p).1 = 0 → (splitP p).2.2 ∈ p.parts) := by
  unfold splitP
  split
  · simp
  · rename_i x hx
    split
    · simp
    · refine ⟨by simp, fun y hy => List.mem_of_mem_take (by rw [List.dropLast_eq_take] at hy; exact hy), fun _ => ?_⟩
      exact List.mem_of_getLast? hx
set_option maxHeartbeats 2000000 in
theorem wlast_any (h : WB B L w b t dm st) (f : Full st) {sp : Option Addr} {np cap : Nat} {ps : List ByteArray} (rp : RdS w (.slice sp np cap) ps) (hlen : ps.length ≤ 1000) (hsm : ∀ x ∈ ps, x.size ≤ 1000000) (slash : Bool) (hE : EnvM E B w) :
    Calls Tryz.prog 62 #[.pointer (some ⟨b, 0, none⟩), .agg #[.slice sp np cap, .bool slash]] w (LastR E B L b t dm st (lastP st ⟨ps, slash⟩) w) := by
  have H := Lib.hid h
  have HF := Lib.hid f
  have HR := Lib.hid rp
  have HL := Lib.hid hlen
  have HS := Lib.hid hsm
  have HE := Lib.hid hE
  generalize hP : LastR E B L b t dm st (lastP st ⟨ps, slash⟩) w = Post
  have HP := Lib.hid hP
  clear h f rp hlen hsm hE hP
  go_enter Tryz.func62, Tryz.ntmps62
  go_wp2_with fail
  obtain ⟨w1, hw1⟩ : ∃ w1, w1 = (w.alloc (.cells #[.slice sp np cap, .bool slash] 127)).alloc (.cells #[.int .i64 0, .int .i64 0, .string ⟨#[]⟩] 133) := ⟨_, rfl⟩
  have b1 : Below w.heap.size w w1 := by rw [hw1]; exact bl_alloc (bl_alloc (Below.refl _ _) _) _
  have z1 : w1.heap.size = w.heap.size + 2 := by rw [hw1]; simp
  have G1 := Lib.hid (Gd.first (B := B) H.out b1 (S := fun x => x = w.heap.size ∨ x = w.heap.size + 1) (fun x hx => by rcases hx with rfl | rfl <;> omega))
  have rp1 : Row w1 w.heap.size 127 [.slice sp np cap, .bool slash] := by rw [hw1]; exact (Row.new w _ [.slice sp np cap, .bool slash]).alloc _
  have rf1 : Row w1 (w.heap.size + 1) 133 [.int .i64 0, .int .i64 0, .string ⟨#[]⟩] := by
    have := Row.new (w.alloc (.cells #[.slice sp np cap, .bool slash] 127)) 133 [.int .i64 0, .int .i64 0, .string ⟨#[]⟩]
    rw [hw1]
    simpa using this
  -- BODY
  rw [← hw1]
  have HE1 := Lib.hid (HE.out.below b1)
  have HR1 := Lib.hid (HR.out.below b1)
  have RP1 := Lib.hid rp1
  have RF1 := Lib.hid rf1
  clear hw1 rp1 rf1 b1
  refine (psplit_any HR1.out (Nat.le_trans HL.out (by decide)) slash HE1.out.toEnv).mono ?_
  rintro e w2 ⟨v, rfl, hs2, hb2⟩
  obtain ⟨sp2, cap2, rfl⟩ := slShape hs2
  obtain ⟨q, hq⟩ : ∃ q, splitP ⟨ps, slash⟩ = q := ⟨_, rfl⟩
  have hqc := splitP_code ⟨ps, slash⟩
  have hqp := splitP_parts ⟨ps, slash⟩
  rw [hq] at hs2 hqc hqp
  rw [hq]
  have HQ := Lib.hid hq
  clear hq
  obtain ⟨qc, qp, qn⟩ := q
  simp only at hs2 hqc hqp
  have HQP := Lib.hid hqp
  have HS2 := Lib.hid hs2
  have G2 := Lib.hid (G1.out.below hb2)
  have HE2 := Lib.hid (HE1.out.below hb2)
  have RP2 := Lib.hid (RP1.out.below hb2)
  have RF2 := Lib.hid (RF1.out.below hb2)
  clear hqp hs2 hb2 z1 G1 HE1 HR1 RP1 RF1
  generalize hCC : w.heap.size + 1 = CC at *
  have gn1 : ¬ CC = 2 := by have h1 := HE.out.glt 2 (by decide); have h2 := HE.out.size; omega
  have gn2 : ¬ 2 = CC := fun h => gn1 h.symm
  have HCC := Lib.hid hCC
  clear hCC
  have x0 : w2.cell? ⟨CC, 0, none⟩ = some (.int .i64 0) := (RF2.out.cell 0).trans rfl
  have x1 : w2.cell? ⟨CC, 1, none⟩ = some (.int .i64 0) := (RF2.out.cell 1).trans rfl
  have x2 : w2.cell? ⟨CC, 2, none⟩ = some (.string ⟨#[]⟩) := (RF2.out.cell 2).trans rfl
  have xf : ∀ i, w2.frozen? ⟨CC, i, none⟩ = false := fun i => RF2.out.froz i
  have xl : CC < w2.heap.size := RF2.out.lt
  rcases hqc with rfl | rfl
  · rw [show errOf E 0 = .nilIface from rfl]
    -- TO
    clear x0 x1 x2 xf xl
    go_wp2_with fail
    have G3 := Lib.hid (G2.out.alloc (.cells #[.slice sp2 qp.length cap2, .bool false] 127))
    refine (wto_any G3.out.tree HF.out ((HS2.out.rd (fun _ => rfl)).below (bl_alloc (Below.refl _ _) _)) (by have h2 := HL.out; have h3 : qp.length ≤ ps.length := HQP.out.1; omega) (fun x hx => HS.out x (HQP.out.2.1 x hx)) true false (HE2.out.below (bl_alloc (Below.refl _ _) _))).mono ?_
    rintro e w4 ⟨rfl, h4, k4⟩
    obtain ⟨R, hR⟩ : ∃ R, toP st ⟨qp, false⟩ true = R := ⟨_, rfl⟩
    have htc := toP_code st ⟨qp, false⟩ true
    have hts : (toP st ⟨qp, false⟩ true).1 = 0 → ∃ y, st.get (toP st ⟨qp, false⟩ true).2 = some y := fun h => toP_some HF.out (show toP st ⟨qp, false⟩ true = (0, _) by rw [← h])
    rw [hR] at htc hts ⊢
    obtain ⟨tc, id⟩ := R
    simp only at htc ⊢
    have HTO := Lib.hid hR
    have HTS := Lib.hid hts
    have G4 := Lib.hid (G3.out.then h4 k4)
    have HE4 := Lib.hid (HE2.out.keep ((bl_alloc (Below.refl w2.heap.size w2) (.cells #[.slice sp2 qp.length cap2, .bool false] 127)).mono G2.out.tree.1 |>.trans k4.below))
    have RP4 := Lib.hid ((RP2.out.alloc (.cells #[.slice sp2 qp.length cap2, .bool false] 127)).keep (k4.loc _ (.inl (.inl rfl))))
    have RF4 := Lib.hid ((RF2.out.alloc (.cells #[.slice sp2 qp.length cap2, .bool false] 127)).keep (k4.loc _ (.inl (.inr rfl))))
    clear hR hts h4 k4 G3 G2 HE2 RP2 RF2 HS2
    rcases htc with rfl | htc
    · rw [show errOf E 0 = .nilIface from rfl]
      obtain ⟨y, hy⟩ := HTS.out rfl
      have hid : 1 ≤ id ∧ id ≤ 16777215 := by have := dir_ids HF.out.toGood hy; omega
      obtain ⟨isd, hisd⟩ : ∃ isd, st.isDir id = isd := ⟨_, rfl⟩
      have HISD := Lib.hid hisd
      clear hisd hy HTS
      go_wp2_with fail
      refine (wdir_any G4.out.tree (by omega)).mono ?_
      rintro e w5 ⟨rfl, hb5⟩
      rw [HISD.out]
      generalize (st.nd id).getD noNd = d at *
      obtain ⟨d1, d2, d3, d4, d5, d6⟩ := d
      simp only [encN]
      have G5 := Lib.hid (G4.out.below hb5)
      have HE5 := Lib.hid (HE4.out.below hb5)
      have RP5 := Lib.hid (RP4.out.below hb5)
      have RF5 := Lib.hid (RF4.out.below hb5)
      clear hb5 G4 HE4 RP4 RF4
      cases isd with
      | false =>
        have HLP : Hid (lastP st ⟨ps, slash⟩ = (111, noFnd)) := Lib.hid (by
          unfold lastP
          rw [HQ.out]
          simp only
          rw [HTO.out]
          simp only
          rw [dirOf_not HISD.out]
          rfl)
        have c1 : errOf E 111 = errV E 2 := errOf_code (g := 2) (by decide)
        have C1 := Lib.hid c1
        clear c1
        have x0 : w5.cell? ⟨CC, 0, none⟩ = some (.int .i64 0) := (RF5.out.cell 0).trans rfl
        have x1 : w5.cell? ⟨CC, 1, none⟩ = some (.int .i64 0) := (RF5.out.cell 1).trans rfl
        have x2 : w5.cell? ⟨CC, 2, none⟩ = some (.string ⟨#[]⟩) := (RF5.out.cell 2).trans rfl
        have xf : ∀ i, w5.frozen? ⟨CC, i, none⟩ = false := fun i => RF5.out.froz i
        have xl : CC < w5.heap.size := RF5.out.lt
        have e1 := HE5.out.cell 2 (by decide)
        have l1 : 2 < w5.heap.size := Nat.lt_of_lt_of_le (HE5.out.glt _ (by decide)) HE5.out.size
        go_wp2_with fail
        go_region
        go_wp2
        rw [← HP.out]
        refine bodyPost_ret (v := .tuple #[.agg #[.int .i64 0, .int .i64 0, .string ⟨#[]⟩], errV E 2]) (by simp [results, Tryz.results62, go_sem, x0, x1, x2, xl]) rfl ?_
        refine ⟨?_, (by repeat (first | exact G5.out | refine Gd.set ?_ (.inr rfl) _ | refine Gd.alloc ?_ _ | refine Gd.drew ?_) : Gd B L (fun x => (x = w.heap.size ∨ x = CC) ∨ L x) w b t dm st (fun x => x = w.heap.size ∨ x = CC) _).out⟩
        rw [HLP.out, ← C1.out]
        rfl
      | true =>
        -- ENT
        go_wp2_with fail
        have G5' := Lib.hid (G5.out.alloc (.cells #[.int .i64 d1, .int .i64 d2, .int .i64 d3, .int .i64 d4, .string d5, .int .i64 d6] 39))
        refine (wentry_any G5'.out.tree (by omega) (fun _ => hid.1) (Nat.le_trans (HS.out qn (HQP.out.2.2 trivial)) (by decide))).mono ?_
        rintro e w6 ⟨rfl, h6, k6⟩
        rw [entry_dir HISD.out]
        obtain ⟨oe, hoe⟩ : ∃ oe, entOf (st.ents id) qn = oe := ⟨_, rfl⟩
        rw [hoe]
        have G6 := Lib.hid (G5'.out.then h6 k6)
        have HE6 := Lib.hid (HE5.out.keep ((bl_alloc (Below.refl w5.heap.size w5) (.cells #[.int .i64 d1, .int .i64 d2, .int .i64 d3, .int .i64 d4, .string d5, .int .i64 d6] 39)).mono G5.out.tree.1 |>.trans k6.below))
        have RP6 := Lib.hid ((RP5.out.alloc (.cells #[.int .i64 d1, .int .i64 d2, .int .i64 d3, .int .i64 d4, .string d5, .int .i64 d6] 39)).keep (k6.loc _ (.inl (.inl rfl))))
        have RF6 := Lib.hid ((RF5.out.alloc (.cells #[.int .i64 d1, .int .i64 d2, .int .i64 d3, .int .i64 d4, .string d5, .int .i64 d6] 39)).keep (k6.loc _ (.inl (.inr rfl))))
        clear h6 k6 G5 G5' HE5 RP5 RF5
        have hen : 0 ≤ (oe.getD noEn).node ∧ (oe.getD noEn).node ≤ 16777215 := by
          cases oe with
          | none => simp [noEn]
          | some e =>
            obtain ⟨r0, hr0, hr1⟩ := dirOf_some (dirOf_isDir HISD.out)
            rw [← hr1.2] at hoe
            obtain ⟨y, h1, h2, h3, h4⟩ := entry_node HF.out.toGood hr0 hoe
            exact ⟨by simp only [Option.getD_some]; omega, h4⟩
        have HLP : Hid (lastP st ⟨ps, slash⟩ = if slash && oe.isSome && !st.isDir (oe.getD noEn).node then (111, noFnd) else (0, ⟨id, (oe.getD noEn).node, qn⟩)) := Lib.hid (by
          unfold lastP
          rw [HQ.out]
          simp only
          rw [HTO.out]
          simp only
          rw [dirOf_isDir HISD.out]
          simp only
          rw [hoe]
          cases oe with
          | none => simp [noEn]
          | some e => simp)
        clear hoe HQ HTO HQP
        obtain ⟨th, hth⟩ : ∃ th, oe.isSome = th := ⟨_, rfl⟩
        rw [hth] at HLP ⊢
        generalize oe.getD noEn = q at *
        clear hth
        obtain ⟨q1, q2, q3⟩ := q
        simp only [encE] at hen ⊢
        obtain ⟨isd, hisd⟩ : ∃ isd, st.isDir q2 = isd := ⟨_, rfl⟩
        simp only [hisd] at HLP
        have HISD2 := Lib.hid hisd
        clear hisd
        go_wp2_with fail
        have G6' := Lib.hid (G6.out.alloc (.cells #[.string q1, .int .i64 q2, .int .i64 q3] 48))
        have re : Row (w6.alloc (.cells #[.string q1, .int .i64 q2, .int .i64 q3] 48)) w6.heap.size 48 [.string q1, .int .i64 q2, .int .i64 q3] := Row.new w6 _ [.string q1, .int .i64 q2, .int .i64 q3]
        refine (wdir_any G6'.out.tree (by omega)).mono ?_
        rintro e w7 ⟨rfl, hb7⟩
        rw [HISD2.out]
        generalize (st.nd q2).getD noNd = d at *
        obtain ⟨d1, d2, d3, d4, d5, d6⟩ := d
        simp only [encN]
        have G7 := Lib.hid (G6'.out.below hb7)
        have hb67 := bl_trans (bl_alloc (Below.refl w6.heap.size w6) _) hb7
        have HE7 := Lib.hid (HE6.out.below hb67)
        have RP7 := Lib.hid (RP6.out.below hb67)
        have RF7 := Lib.hid (RF6.out.below hb67)
        have y1 : w7.cell? ⟨w6.heap.size, 1, none⟩ = some (.int .i64 q2) := ((re.below hb7).cell 1).trans rfl
        have yl : w6.heap.size < w7.heap.size := (re.below hb7).lt
        have xp : w7.cell? ⟨w.heap.size, 1, none⟩ = some (.bool slash) := (RP7.out.cell 1).trans rfl
        have xpl : w.heap.size < w7.heap.size := RP7.out.lt
        clear hb67 hb7 re G6 G6' HE6 RP6 RF6
        have x0 : w7.cell? ⟨CC, 0, none⟩ = some (.int .i64 0) := (RF7.out.cell 0).trans rfl
        have x1 : w7.cell? ⟨CC, 1, none⟩ = some (.int .i64 0) := (RF7.out.cell 1).trans rfl
        have x2 : w7.cell? ⟨CC, 2, none⟩ = some (.string ⟨#[]⟩) := (RF7.out.cell 2).trans rfl
        have xf : ∀ i, w7.frozen? ⟨CC, i, none⟩ = false := fun i => RF7.out.froz i
        have xl : CC < w7.heap.size := RF7.out.lt
        have e1 := HE7.out.cell 2 (by decide)
        have l1 : 2 < w7.heap.size := Nat.lt_of_lt_of_le (HE7.out.glt _ (by decide)) HE7.out.size
        have c1 : errOf E 111 = errV E 2 := errOf_code (g := 2) (by decide)
        have C1 := Lib.hid c1
        clear c1
        have hx : (slash = true ∧ th = true ∧ isd = false) ∨ ((slash && th && !isd) = false) := by cases slash <;> cases th <;> cases isd <;> simp
        rcases hx with ⟨rfl, rfl, rfl⟩ | hx
        · go_wp2_with fail
          go_region
          go_wp2
          rw [← HP.out]
          refine bodyPost_ret (v := .tuple #[.agg #[.int .i64 0, .int .i64 0, .string ⟨#[]⟩], errV E 2]) (by simp [results, Tryz.results62, go_sem, x0, x1, x2, xl]) rfl ?_
          refine ⟨?_, (by repeat (first | exact G7.out | refine Gd.set ?_ (.inr rfl) _ | refine Gd.alloc ?_ _ | refine Gd.drew ?_) : Gd B L (fun x => (x = w.heap.size ∨ x = CC) ∨ L x) w b t dm st (fun x => x = w.heap.size ∨ x = CC) _).out⟩
          rw [HLP.out, ← C1.out]
          rfl
        · have HX := Lib.hid hx
          clear hx
          cases slash <;> cases th <;> cases isd
          all_goals try exact absurd HX.out (by decide)
          all_goals
            go_wp2
            rw [← HP.out]
            refine bodyPost_ret (v := .tuple #[.agg #[.int .i64 id, .int .i64 q2, .string qn], .nilIface]) (by simp [results, Tryz.results62, go_sem, x0, x1, x2, xl]) rfl ?_
            refine ⟨?_, (by repeat (first | exact G7.out | refine Gd.set ?_ (.inr rfl) _ | refine Gd.alloc ?_ _ | refine Gd.drew ?_) : Gd B L (fun x => (x = w.heap.size ∨ x = CC) ∨ L x) w b t dm st (fun x => x = w.heap.size ∨ x = CC) _).out⟩
            rw [HLP.out]
            rfl
    · obtain ⟨ad, had⟩ := errOf_some (E := E) htc
      have hne : tc ≠ 0 := by omega
      have HLP : Hid (lastP st ⟨ps, slash⟩ = (tc, noFnd)) := Lib.hid (by
        unfold lastP
        rw [HQ.out]
        simp only
        rw [HTO.out]
        simp only
        rw [if_pos hne]
        rfl)
      rw [had]
      have C1 := Lib.hid had
      clear had hne htc
      have x0 : w4.cell? ⟨CC, 0, none⟩ = some (.int .i64 0) := (RF4.out.cell 0).trans rfl
      have x1 : w4.cell? ⟨CC, 1, none⟩ = some (.int .i64 0) := (RF4.out.cell 1).trans rfl
      have x2 : w4.cell? ⟨CC, 2, none⟩ = some (.string ⟨#[]⟩) := (RF4.out.cell 2).trans rfl
      have xf : ∀ i, w4.frozen? ⟨CC, i, none⟩ = false := fun i => RF4.out.froz i
      have xl : CC < w4.heap.size := RF4.out.lt
      go_wp2
      rw [← HP.out]
      refine bodyPost_ret (v := .tuple #[.agg #[.int .i64 0, .int .i64 0, .string ⟨#[]⟩], .iface 246 (.pointer (some ad))]) (by simp [results, Tryz.results62, go_sem, x0, x1, x2, xl]) rfl ?_
      refine ⟨?_, (by repeat (first | exact G4.out | refine Gd.set ?_ (.inr rfl) _ | refine Gd.alloc ?_ _ | refine Gd.drew ?_) : Gd B L (fun x => (x = w.heap.size ∨ x = CC) ∨ L x) w b t dm st (fun x => x = w.heap.size ∨ x = CC) _).out⟩
      rw [HLP.out, ← C1.out]
      rfl
  · have c1 : errOf E 114 = errV E 1 := errOf_code (g := 1) (by decide)
    have HLP : Hid (lastP st ⟨ps, slash⟩ = (114, noFnd)) := Lib.hid (by unfold lastP; rw [HQ.out]; rfl)
    rw [c1]
    have C1 := Lib.hid c1
    clear c1
    go_wp2
    rw [← HP.out]
    refine bodyPost_ret (v := .tuple #[.agg #[.int .i64 0, .int .i64 0, .string ⟨#[]⟩], errV E 1]) (by simp [results, Tryz.results62, go_sem, x0, x1, x2, xl]) rfl ?_
    refine ⟨?_, (by repeat (first | exact G2.out | refine Gd.set ?_ (.inr rfl) _ | refine Gd.alloc ?_ _ | refine Gd.drew ?_) : Gd B L (fun x => (x = w.heap.size ∨ x = CC) ∨ L x) w b t dm st (fun x => x = w.heap.size ∨ x = CC) _).out⟩
    rw [HLP.out, ← C1.out]
    rfl
end
end Go.Proofs.YtnkcbogikaebfaaGreatDoor
end

section
/- The walks of package tree, the small ones: put, add, drop, target, less, gone, full. -/
namespace Go.Proofs.YtnkcbogikaebfaaGreatDoor
open Go Go.RowKit
set_option maxRecDepth 100000
set_option linter.unusedSimpArgs false
set_option linter.unusedVariables false
attribute [local go_sem] giv
variable {E : Nat → Addr} {B : Nat}

/-- Block a is a tree: it leads to the world's block. -/
def TA (w : World) (a b : Nat) : Prop := w.cell? ⟨a, 0, none⟩ = some (.pointer (some ⟨b, 0, none⟩)) ∧ a < w.heap.size
theorem TA.below {w w' : World} {a b : Nat} (h : TA w a b) (hb : Below w.heap.size w w') : TA w' a b := ⟨(hb.cell (p := ⟨a, 0, none⟩) h.2).trans h.1, Nat.lt_of_lt_of_le h.2 hb.size⟩
theorem TA.kept {L : Nat → Prop} {w w' : World} {a b : Nat} (h : TA w a b) (hl : L a) (hk : KeptP B L w w') : TA w' a b := ⟨(hk.cell hl 0).trans h.1, Nat.lt_of_lt_of_le h.2 hk.below.size⟩
section
variable {L : Nat → Prop} {w : World} {a b t dm : Nat} {st : St}
theorem tput_ok (ha : TA w a b) (hl : L a) (h : WB B L w b t dm st) (hr : RiseN st.ns) (n : Nd) (hv : validB n = true) (hn : st.get n.id = none → st.ns.length < 512) (hE : Env E B w) :
    Calls Tryz.prog 67 #[.pointer (some ⟨a, 0, none⟩), encN n] w fun e w' => e = .returned (.bool true) ∧ WB B L w' b t dm (st.put n) ∧ KeptP B L w w' := by
  have H := Lib.hid h
  have HR := Lib.hid hr
  have HV := Lib.hid hv
  have HN := Lib.hid hn
  have HE := Lib.hid hE
  have HA := Lib.hid ha
  have HL := Lib.hid hl
  generalize hP : (fun (e : Ending) (w' : World) => e = .returned (.bool true) ∧ WB B L w' b t dm (st.put n) ∧ KeptP B L w w') = Post
  have HP := Lib.hid hP
  clear h hr hv hn hE ha hl hP
  obtain ⟨n1, n2, n3, n4, n5, n6⟩ := n
  simp only [encN]
  go_enter Tryz.func67, Tryz.ntmps67
  go_wp2_with fail
  obtain ⟨w1, hw1⟩ : ∃ w1, w1 = w.alloc (.cells #[.int .i64 n1, .int .i64 n2, .int .i64 n3, .int .i64 n4, .string n5, .int .i64 n6] 39) := ⟨_, rfl⟩
  have b1 : Below w.heap.size w w1 := by rw [hw1]; exact bl_alloc (Below.refl _ _) _
  have r1 : Row w1 w.heap.size 39 [.int .i64 n1, .int .i64 n2, .int .i64 n3, .int .i64 n4, .string n5, .int .i64 n6] := by rw [hw1]; exact Row.new w _ [.int .i64 n1, .int .i64 n2, .int .i64 n3, .int .i64 n4, .string n5, .int .i64 n6]
  rw [← hw1]
  have HA1 := Lib.hid (HA.out.below b1)
  have R1 := Lib.hid r1
  have H1 := Lib.hid (H.out.below b1)
  have B1 := Lib.hid b1
  clear hw1 b1 r1
  have S : ∀ w', Below w1.heap.size w1 w' → w'.cell? ⟨a, 0, none⟩ = some (.pointer (some ⟨b, 0, none⟩)) ∧ w'.cell? ⟨w.heap.size, 0, none⟩ = some (.int .i64 n1) ∧ w'.cell? ⟨w.heap.size, 1, none⟩ = some (.int .i64 n2) ∧ w'.cell? ⟨w.heap.size, 2, none⟩ = some (.int .i64 n3) ∧
      w'.cell? ⟨w.heap.size, 3, none⟩ = some (.int .i64 n4) ∧ w'.cell? ⟨w.heap.size, 4, none⟩ = some (.string n5) ∧ w'.cell? ⟨w.heap.size, 5, none⟩ = some (.int .i64 n6) := by
    intro w' hb
    have r := R1.out.below hb
    exact ⟨(HA1.out.below hb).1, (r.cell 0).trans rfl, (r.cell 1).trans rfl, (r.cell 2).trans rfl, (r.cell 3).trans rfl, (r.cell 4).trans rfl, (r.cell 5).trans rfl⟩
  apply wp_region_tail 5 _ (by kernel_rfl) (by kernel_rfl) (by kernel_rfl) (by decide) (fun w' => Below w1.heap.size w1 w') (fun w' w'' => Below w'.heap.size w' w'') (fun w' w'' h1 h2 => bl_trans h1 h2) (Below.refl _ _).drew
  simp only [List.take_succ_cons, List.take_zero, List.drop_succ_cons, List.drop_zero]
  repeat (first
    | (apply wpRel_skip (by rfl)
       simp only [Act.put, List.setIfInBounds_toArray, List.set_cons_zero, List.set_cons_succ])
    | (apply wpRel_fix (by rfl)
       · intro w' hC hf R hR
         have hS := S w' hC
         go_simp
         exact hR _ (Below.refl _ _)
       simp only [Act.put, List.setIfInBounds_toArray, List.set_cons_zero, List.set_cons_succ]))
  refine wpRel_nil (fun w2 hC hf => ?_)
  clear S hf
  have hb2 := B1.out.trans (hC.mono B1.out.size)
  go_wp2_with fail
  refine (wput_ok (H.out.below hb2) HR.out ⟨n1, n2, n3, n4, n5, n6⟩ HV.out HN.out (HE.out.below hb2)).mono ?_
  rintro e w3 ⟨rfl, h3, k3⟩
  have H3 := Lib.hid h3
  have K3 := Lib.hid ((H.out.kept hb2).trans k3)
  clear h3 k3 hC hb2
  go_wp2
  rw [← HP.out]
  exact ⟨rfl, H3.out, K3.out⟩
theorem tless_ok (ha : TA w a b) (hl : L a) (h : WB B L w b t dm st) (hr : RiseN st.ns) (n : Nd) (hv : validB n = true) (hn : ∃ x, st.get n.id = some x) (hE : Env E B w) :
    Calls Tryz.prog 66 #[.pointer (some ⟨a, 0, none⟩), encN n] w fun e w' => e = .returned (.tuple #[]) ∧ WB B L w' b t dm (st.put (setLinks n (max (n.links - 1) 0))) ∧ KeptP B L w w' := by
  have hlk := valid_lk hv
  have hv2 : validB (setLinks n (max (n.links - 1) 0)) = true := valid_links hv (by omega) (by omega)
  have H := Lib.hid h
  have HR := Lib.hid hr
  have HV := Lib.hid hv2
  have HN := Lib.hid hn
  have HE := Lib.hid hE
  have HA := Lib.hid ha
  have HL := Lib.hid hl
  generalize hP : (fun (e : Ending) (w' : World) => e = .returned (.tuple #[]) ∧ WB B L w' b t dm (st.put (setLinks n (max (n.links - 1) 0))) ∧ KeptP B L w w') = Post
  have HP := Lib.hid hP
  clear h hr hv hv2 hn hE ha hl hP
  obtain ⟨n1, n2, n3, n4, n5, n6⟩ := n
  simp only at hlk
  simp only [encN]
  go_enter Tryz.func66, Tryz.ntmps66
  go_wp2_with fail
  refine (tput_ok (HA.out.below (bl_alloc (Below.refl _ _) _)) HL.out (H.out.below (bl_alloc (Below.refl _ _) _)) HR.out ⟨n1, n2, max (n3 - 1) 0, n4, n5, n6⟩ HV.out (fun h0 => by
    obtain ⟨x, hx⟩ := HN.out
    have h1 : st.get n1 = none := h0
    rw [show st.get n1 = some x from hx] at h1
    cases h1) (HE.out.below (bl_alloc (Below.refl _ _) _))).mono ?_
  rintro e w1 ⟨rfl, h1, k1⟩
  have H1 := Lib.hid h1
  have K1 := Lib.hid ((H.out.kept (bl_alloc (Below.refl _ _) _)).trans k1)
  clear h1 k1
  go_wp2
  go_end0
  rw [← HP.out]
  exact ⟨rfl, H1.out, K1.out⟩
theorem tadd_ok (ha : TA w a b) (hl : L a) (h : WB B L w b t dm st) {k : Int} (hk : 1 ≤ k ∧ k ≤ 9223372036854775807) (hd : st.isDir k = true) (e : En) (hyes : addCode (entOf (st.ents k)) e = 0) (hE : Env E B w) :
    Calls Tryz.prog 68 #[.pointer (some ⟨a, 0, none⟩), .int .i64 k, encE e] w fun v w' => v = .returned .nilIface ∧ WB B L w' b t dm (st.addE k e) ∧ KeptP B L w w' := by
  have H := Lib.hid h
  have HD := Lib.hid hd
  have HY := Lib.hid hyes
  have HE := Lib.hid hE
  have HA := Lib.hid ha
  have HL := Lib.hid hl
  generalize hP : (fun (v : Ending) (w' : World) => v = .returned .nilIface ∧ WB B L w' b t dm (st.addE k e) ∧ KeptP B L w w') = Post
  have HP := Lib.hid hP
  clear h hd hyes hE hl hP ha
  obtain ⟨e1, e2, e3⟩ := e
  simp only [encE]
  have a0 := (HA.out.below (bl_alloc (Below.refl w.heap.size w) (.cells #[.string e1, .int .i64 e2, .int .i64 e3] 48))).1
  have al := HA.out.2
  have aw := HA.out.1
  go_enter Tryz.func68, Tryz.ntmps68
  go_wp2_with fail
  refine (wDir_yes (H.out.loc _) hk HD.out).mono ?_
  rintro v w1 ⟨x, rfl, h1, k1⟩
  have r1 := (Row.new w 48 [.string e1, .int .i64 e2, .int .i64 e3]).keep (k1.loc _ (.inl rfl))
  have x0 : w1.cell? ⟨w.heap.size, 0, none⟩ = some (.string e1) := (r1.cell 0).trans rfl
  have x1 : w1.cell? ⟨w.heap.size, 1, none⟩ = some (.int .i64 e2) := (r1.cell 1).trans rfl
  have x2 : w1.cell? ⟨w.heap.size, 2, none⟩ = some (.int .i64 e3) := (r1.cell 2).trans rfl
  have H1 := Lib.hid (WL.less (L' := L) h1 (fun x hx => .inr hx))
  have K1 := Lib.hid (KeptP.less (bl_alloc (Below.refl w.heap.size w) _) k1 H.out.1 H.out.2.1 (fun x hx => .inr hx))
  clear h1 k1 r1 a0 al aw
  go_wp2_with fail
  refine (wb_dadd H1.out ⟨e1, e2, e3⟩ HY.out (HE.out.keep K1.out.below)).mono ?_
  rintro v w2 ⟨rfl, h2, k2⟩
  have H2 := Lib.hid h2
  have K2 := Lib.hid (K1.out.trans k2)
  clear h2 k2
  go_wp2
  rw [← HP.out]
  exact ⟨rfl, H2.out, K2.out⟩
theorem tdrop_ok (ha : TA w a b) (h : WB B L w b t dm st) {k : Int} (hk : 1 ≤ k ∧ k ≤ 9223372036854775807) (hd : st.isDir k = true) {s : ByteArray} (hs : s.size ≤ maxLen) (hr : RiseE (st.ents k)) :
    Calls Tryz.prog 64 #[.pointer (some ⟨a, 0, none⟩), .int .i64 k, .string s] w fun v w' => v = .returned (.tuple #[]) ∧ WB B L w' b t dm (st.delE k s) ∧ KeptP B L w w' := by
  have H := Lib.hid h
  have HD := Lib.hid hd
  have HS := Lib.hid hs
  have HR := Lib.hid hr
  generalize hP : (fun (v : Ending) (w' : World) => v = .returned (.tuple #[]) ∧ WB B L w' b t dm (st.delE k s) ∧ KeptP B L w w') = Post
  have HP := Lib.hid hP
  clear h hd hs hr hP
  obtain ⟨a0, al⟩ := ha
  go_enter Tryz.func64, Tryz.ntmps64
  go_wp2_with fail
  refine (wDir_yes H.out hk HD.out).mono ?_
  rintro v w1 ⟨x, rfl, h1, k1⟩
  have H1 := Lib.hid h1
  have K1 := Lib.hid k1
  clear h1 k1 a0 al
  go_wp2_with fail
  refine (wb_ddel H1.out HS.out HR.out).mono ?_
  rintro v w2 ⟨rfl, h2, k2⟩
  have H2 := Lib.hid h2
  have K2 := Lib.hid (K1.out.trans k2)
  clear h2 k2
  generalize (entOf (st.ents k) s).getD noEn = q at *
  obtain ⟨q1, q2, q3⟩ := q
  simp only [encE]
  go_wp2
  go_end0
  rw [← HP.out]
  exact ⟨rfl, H2.out, K2.out⟩
theorem tgone_any (ha : TA w a b) (h : WB B L w b t dm st) (hr : RiseN st.ns) {k : Int} (hk : -9223372036854775808 ≤ k ∧ k ≤ 9223372036854775807) :
    Calls Tryz.prog 65 #[.pointer (some ⟨a, 0, none⟩), .int .i64 k] w fun v w' => v = .returned (.tuple #[]) ∧ WB B L w' b t dm (st.drop k) ∧ KeptP B L w w' := by
  have H := Lib.hid h
  have HR := Lib.hid hr
  generalize hP : (fun (v : Ending) (w' : World) => v = .returned (.tuple #[]) ∧ WB B L w' b t dm (st.drop k) ∧ KeptP B L w w') = Post
  have HP := Lib.hid hP
  clear h hr hP
  obtain ⟨a0, al⟩ := ha
  go_enter Tryz.func65, Tryz.ntmps65
  go_wp2_with fail
  refine (wdrop_any H.out HR.out hk).mono ?_
  rintro v w1 ⟨rfl, h1, k1⟩
  have H1 := Lib.hid h1
  have K1 := Lib.hid k1
  clear h1 k1 a0 al
  go_wp2
  go_end0
  rw [← HP.out]
  exact ⟨rfl, H1.out, K1.out⟩
theorem full_dir {k : Int} (hd : st.isDir k = true) : st.full k = decide (0 < (st.ents k).length) := by
  unfold St.full
  rw [dirOf_isDir hd]
  cases st.ents k <;> simp
theorem full_not {k : Int} (hd : st.isDir k = false) : st.full k = false := by
  unfold St.full
  rw [dirOf_not hd]
theorem tfull_any (ha : TA w a b) (h : WB B L w b t dm st) (g : Good st) {k : Int} (hk : -9223372036854775808 ≤ k ∧ k ≤ 9223372036854775807) :
    Calls Tryz.prog 90 #[.pointer (some ⟨a, 0, none⟩), .int .i64 k] w fun v w' => v = .returned (.bool (st.full k)) ∧ WB B L w' b t dm st ∧ KeptP B L w w' := by
  have H := Lib.hid h
  generalize hP : (fun (v : Ending) (w' : World) => v = .returned (.bool (st.full k)) ∧ WB B L w' b t dm st ∧ KeptP B L w w') = Post
  have HP := Lib.hid hP
  clear h hP
  obtain ⟨a0, al⟩ := ha
  cases hd : st.isDir k with
  | false =>
    have HD := Lib.hid hd
    clear hd g
    go_enter Tryz.func90, Tryz.ntmps90
    go_wp2_with fail
    refine (wDir_no H.out hk HD.out).mono ?_
    rintro v w1 ⟨rfl, hb⟩
    have H1 := Lib.hid (H.out.below hb)
    have K1 := Lib.hid (H.out.kept hb)
    clear hb a0 al
    go_wp2
    rw [← HP.out]
    exact ⟨by rw [full_not HD.out]; rfl, H1.out, K1.out⟩
  | true =>
    have hk1 : 1 ≤ k := by
      obtain ⟨x, hx, _⟩ := dirOf_some (dirOf_isDir hd)
      exact (dir_ids g hx).1
    have HD := Lib.hid hd
    have hlen : ((st.ents k).length : Int) ≥ 0 := by omega
    clear hd g
    go_enter Tryz.func90, Tryz.ntmps90
    go_wp2_with fail
    refine (wDir_yes H.out (by omega) HD.out).mono ?_
    rintro v w1 ⟨x, rfl, h1, k1⟩
    have H1 := Lib.hid h1
    have K1 := Lib.hid k1
    clear h1 k1 a0 al
    go_wp2_with fail
    refine (wl_dlen H1.out (fun d hd => hd.2)).mono ?_
    rintro v w2 ⟨rfl, rfl⟩
    go_wp2
    rw [← HP.out]
    refine ⟨?_, H1.out.wb, K1.out⟩
    rw [full_dir HD.out]
    simp
end
end Go.Proofs.YtnkcbogikaebfaaGreatDoor
end

section
/- The walks of package tree: target, fresh. -/
namespace Go.Proofs.YtnkcbogikaebfaaGreatDoor
open Go Go.RowKit
set_option maxRecDepth 100000
set_option linter.unusedSimpArgs false
set_option linter.unusedVariables false
attribute [local go_sem] giv
variable {E : Nat → Addr} {B : Nat}

def nulC (z : Bool) : Int := if z then 114 else 0
theorem ttarget_any (s : ByteArray) (w : World) (hE : Env E B w) : Calls Tryz.prog 70 #[.string s] w fun e w' => e = .returned (errOf E (tgtCode s)) ∧ Below w.heap.size w w' := by
  have e1 := hE.cell 0 (by decide)
  have l1 : 0 < w.heap.size := Nat.lt_of_lt_of_le (hE.glt _ (by decide)) hE.size
  have e2 := hE.cell 6 (by decide)
  have l2 : 6 < w.heap.size := Nat.lt_of_lt_of_le (hE.glt _ (by decide)) hE.size
  have e3 := hE.cell 1 (by decide)
  have l3 : 1 < w.heap.size := Nat.lt_of_lt_of_le (hE.glt _ (by decide)) hE.size
  have l3_z : 0 < w.heap.size := Nat.lt_of_le_of_lt (Nat.zero_le _) l3
  have C1 := Lib.hid (show errOf E 109 = errV E 0 from errOf_code (g := 0) (by decide))
  have C2 := Lib.hid (show errOf E 115 = errV E 6 from errOf_code (g := 6) (by decide))
  have C3 := Lib.hid (show errOf E 114 = errV E 1 from errOf_code (g := 1) (by decide))
  clear hE
  generalize hP : (fun (e : Ending) (w' : World) => e = .returned (errOf E (tgtCode s)) ∧ Below w.heap.size w w') = Post
  have HP := Lib.hid hP
  clear hP
  by_cases h0 : s.data.toList = []
  · have HT : Hid (tgtCode s = 109) := Lib.hid (by unfold tgtCode; rw [if_pos h0])
    have hs : s.toList = [] := by rw [ByteArray.toList_eq]; exact h0
    clear h0
    go_enter Tryz.func70, Tryz.ntmps70
    go_wp2
    rw [← HP.out]
    exact ⟨by rw [HT.out, C1.out]; rfl, Below.refl _ _⟩
  · have h0' : ¬ s.toList = [] := by rw [ByteArray.toList_eq]; exact h0
    have h0'' := ne_list h0
    by_cases h8 : 88 < s.size
    · have HT : Hid (tgtCode s = 115) := Lib.hid (by unfold tgtCode; rw [if_neg h0, if_pos h8])
      have h9 : (s.size : Int) > 88 := by omega
      clear h0 h8
      go_enter Tryz.func70, Tryz.ntmps70
      go_wp2
      rw [← HP.out]
      exact ⟨by rw [HT.out, C2.out]; rfl, Below.refl _ _⟩
    · have h9 : ¬ (s.size : Int) > 88 := by omega
      obtain ⟨z, hz⟩ : ∃ z, s.data.toList.contains 0 = z := ⟨_, rfl⟩
      have HT : Hid (tgtCode s = nulC z) := Lib.hid (by unfold tgtCode nulC; rw [if_neg h0, if_neg h8, hz])
      have HZ := Lib.hid hz
      clear h0 h8 hz
      go_enter Tryz.func70, Tryz.ntmps70
      go_wp2_with fail
      refine (contains_one _ _ _).mono ?_
      rintro e w1 ⟨rfl, rfl⟩
      rw [HZ.out]
      cases z with
      | true =>
        go_wp2
        rw [← HP.out]
        exact ⟨by rw [HT.out, show nulC true = 114 from rfl, C3.out]; rfl, Below.refl _ _⟩
      | false =>
        go_wp2
        rw [← HP.out]
        exact ⟨by rw [HT.out, show nulC false = 0 from rfl]; rfl, Below.refl _ _⟩
theorem lastP_code (s : St) (p : Pth) : CodeOk (lastP s p).1 := by
  unfold lastP
  simp only
  rcases splitP_code p with h | h
  · rw [if_neg (by rw [h]; decide)]
    split
    · exact toP_code _ _ _
    · split
      · exact .inr (by decide)
      · split
        · exact .inl rfl
        · split
          · exact .inr (by decide)
          · exact .inl rfl
  · rw [if_pos (by rw [h]; decide)]
    exact .inr (by rw [h]; decide)
section
variable {L : Nat → Prop} {w : World} {a b t dm : Nat} {st : St}
set_option maxHeartbeats 2000000 in
theorem tfresh_any (ha : TA w a b) (hl : L a) (h : WB B L w b t dm st) (f : Full st) {sp : Option Addr} {np cap : Nat} {ps : List ByteArray} (rp : RdS w (.slice sp np cap) ps) (hlp : ∀ x, (Value.slice sp np cap).ownBlock = some x → L x) (hlen : ps.length ≤ 1000) (hsm : ∀ x ∈ ps, x.size ≤ 1000000) (pslash slash : Bool) (hE : EnvM E B w) :
    Calls Tryz.prog 71 #[.pointer (some ⟨a, 0, none⟩), .agg #[.slice sp np cap, .bool pslash], .bool slash] w (LastR E B L b t dm st (freshP st ⟨ps, pslash⟩ slash) w) := by
  have H := Lib.hid h
  have HF := Lib.hid f
  have HR := Lib.hid rp
  have HLP := Lib.hid hlp
  have HL := Lib.hid hlen
  have HS := Lib.hid hsm
  have HE := Lib.hid hE
  have HA := Lib.hid ha
  have HLA := Lib.hid hl
  generalize hP : LastR E B L b t dm st (freshP st ⟨ps, pslash⟩ slash) w = Post
  have HP := Lib.hid hP
  clear h f rp hlen hsm hE hP ha hl hlp
  go_enter Tryz.func71, Tryz.ntmps71
  go_wp2_with fail
  obtain ⟨w1, hw1⟩ : ∃ w1, w1 = (w.alloc (.cells #[.slice sp np cap, .bool pslash] 127)).alloc (.cells #[.int .i64 0, .int .i64 0, .string ⟨#[]⟩] 133) := ⟨_, rfl⟩
  have b1 : Below w.heap.size w w1 := by rw [hw1]; exact bl_alloc (bl_alloc (Below.refl _ _) _) _
  have z1 : w1.heap.size = w.heap.size + 2 := by rw [hw1]; simp
  have G1 := Lib.hid (Gd.first (B := B) H.out b1 (S := fun x => x = w.heap.size ∨ x = w.heap.size + 1) (fun x hx => by rcases hx with rfl | rfl <;> omega))
  have rp1 : Row w1 w.heap.size 127 [.slice sp np cap, .bool pslash] := by rw [hw1]; exact (Row.new w _ [.slice sp np cap, .bool pslash]).alloc _
  have rf1 : Row w1 (w.heap.size + 1) 133 [.int .i64 0, .int .i64 0, .string ⟨#[]⟩] := by
    have := Row.new (w.alloc (.cells #[.slice sp np cap, .bool pslash] 127)) 133 [.int .i64 0, .int .i64 0, .string ⟨#[]⟩]
    rw [hw1]
    simpa using this
  rw [← hw1]
  have HE1 := Lib.hid (HE.out.below b1)
  have HR1 := Lib.hid (HR.out.below b1)
  have HA1 := Lib.hid (HA.out.below b1)
  have RP1 := Lib.hid rp1
  have RF1 := Lib.hid rf1
  clear hw1 rp1 rf1 b1 z1
  generalize hCC : w.heap.size + 1 = CC at *
  have gn1 : ¬ CC = 7 := by have h1 := HE.out.glt 7 (by decide); have h2 := HE.out.size; omega
  have gn2 : ¬ 7 = CC := fun h => gn1 h.symm
  have gn3 : ¬ CC = 0 := by have h1 := HE.out.glt 0 (by decide); have h2 := HE.out.size; omega
  have gn4 : ¬ 0 = CC := fun h => gn3 h.symm
  have HCC := Lib.hid hCC
  clear hCC
  obtain ⟨L1, hL1⟩ : ∃ L1 : Nat → Prop, L1 = fun x => (x = w.heap.size ∨ x = CC) ∨ L x := ⟨_, rfl⟩
  obtain ⟨R, hR⟩ : ∃ R, lastP st ⟨ps, pslash⟩ = R := ⟨_, rfl⟩
  obtain ⟨lc, ld, ln, lname⟩ := R
  have HLAST := Lib.hid hR
  have hlc := lastP_code st ⟨ps, pslash⟩
  rw [hR] at hlc
  simp only at hlc
  have HLC := Lib.hid hlc
  have HW0 : Hid (WB B L1 w1 b t dm st) := Lib.hid (hL1 ▸ G1.out.tree)
  have S : ∀ w', WB B L1 w' b t dm st ∧ KeptP B L1 w1 w' → w'.cell? ⟨a, 0, none⟩ = some (.pointer (some ⟨b, 0, none⟩)) ∧ w'.cell? ⟨w.heap.size, 0, none⟩ = some (.slice sp np cap) ∧ w'.cell? ⟨w.heap.size, 1, none⟩ = some (.bool pslash) := by
    intro w' hc
    have k1 : L1 w.heap.size := by rw [hL1]; exact .inl (.inl rfl)
    have k2 : L1 a := by rw [hL1]; exact .inr HLA.out
    exact ⟨(HA1.out.kept k2 hc.2).1, (hc.2.cell k1 0).trans ((RP1.out.cell 0).trans rfl), (hc.2.cell k1 1).trans ((RP1.out.cell 1).trans rfl)⟩
  have HT : Hid (∀ w', WB B L1 w' b t dm st ∧ KeptP B L1 w1 w' → Calls Tryz.prog 62 #[.pointer (some ⟨b, 0, none⟩), .agg #[.slice sp np cap, .bool pslash]] w' fun e w'' =>
      e = .returned (.tuple #[.agg #[.int .i64 ld, .int .i64 ln, .string lname], errOf E lc]) ∧ WB B (fun x => L1 x ∨ (x < w'.heap.size ∧ Plain w' x)) w'' b t dm st ∧ KeptP B (fun x => L1 x ∨ (x < w'.heap.size ∧ Plain w' x)) w' w'') := Lib.hid (by
    intro w' hc
    have := wlast_any (WL.wide hc.1) HF.out (RdE.kept HR1.out hc.2 (fun x hx => by rw [hL1]; exact .inr (HLP.out x hx))) HL.out HS.out pslash (HE1.out.keep hc.2.below)
    unfold LastR at this
    rw [HLAST.out] at this
    exact this)
  clear hlc hR
  apply wp_region_rel _ (by kernel_rfl) (by kernel_rfl) (fun w' => WB B L1 w' b t dm st ∧ KeptP B L1 w1 w') (fun w' w'' => ShT B L1 b t dm st w1.heap.size [.int .i64 ld, .int .i64 ln, .string lname] 133 w' w'') (fun w' w'' h1 h2 => ⟨h2.tree h1.1, h1.2.trans (h2.kept h1.1)⟩) ⟨HW0.out.below (Below.refl _ _).drew, HW0.out.kept (Below.refl _ _).drew⟩
  repeat (first
    | (apply wpRel_fix (by rfl)
       · intro w' hC hf R hR
         have hS := S w' hC
         go_simp
         exact hR _ (ShT.refl _ _ _ _ _ _ _ _ _ _)
       simp only [Act.put, List.setIfInBounds_toArray, List.set_cons_zero, List.set_cons_succ])
    | (apply wpRel_fix (by rfl)
       · intro w' hC hf R hR
         have hS := S w' hC
         go_simp
         refine (HT.out w' hC).mono ?_
         rintro e w'' ⟨rfl, hw9, hk9⟩
         exact ⟨_, rfl, hR _ (ShT.call hw9 hk9)⟩
       simp only [Act.put, List.setIfInBounds_toArray, List.set_cons_zero, List.set_cons_succ]))
  apply wpRel_rel (PtTyT w1.heap.size ([.int .i64 ld, .int .i64 ln, .string lname] : List Value).length 133) (by rfl) ptTyT_keep
  · intro w' hC hf R hR
    go_simp
    exact hR _ _ ⟨_, rfl, hC.2.below.size, TyB.new _ _ _ rfl, ⟨_, (Row.new w' _ _).cell 0, by first | exact plainI _ _ | exact plainS _ | exact plainSl _ _ _⟩⟩ (ShT.of_below (bl_alloc (Below.refl _ _) _))
  intro vptr
  simp only [Act.put, List.setIfInBounds_toArray, List.set_cons_zero, List.set_cons_succ]
  apply wpRel_dep 8 (PtRowT w1.heap.size [.int .i64 ld, .int .i64 ln, .string lname] 133) (by rfl) (by rfl) ptRowT_keep
  · intro w' hC hf R hR
    obtain ⟨c, rfl, hc, hk, hpl⟩ := hf _ (List.mem_cons_self ..) (by kernel_rfl)
    obtain ⟨u0, e0⟩ := hk.cell (i := 0) (Nat.lt_of_lt_of_eq (by decide : 0 < 3) rfl)
    have f0 := hk.froz 0
    obtain ⟨u1, e1⟩ := hk.cell (i := 1) (Nat.lt_of_lt_of_eq (by decide : 1 < 3) rfl)
    have f1 := hk.froz 1
    obtain ⟨u2, e2⟩ := hk.cell (i := 2) (Nat.lt_of_lt_of_eq (by decide : 2 < 3) rfl)
    have f2 := hk.froz 2
    have hN := Lib.hid hk
    have hM := Lib.hid hpl
    clear hk hpl
    go_simp
    exact hR _ _ (ptRowT_mk ⟨_, _, rfl, (by first | exact plainI _ _ | exact plainS _ | exact plainSl _ _ _)⟩ hN.out hc) (ShT.setAll ⟨_, _, rfl, (by first | exact plainI _ _ | exact plainS _ | exact plainSl _ _ _)⟩ hN.out hM.out (Nat.le_trans HW0.out.1 hc) (fun hl => absurd (HW0.out.2.1 _ hl) (by omega)))
  intro vst
  simp only [Act.put, List.setIfInBounds_toArray, List.set_cons_zero, List.set_cons_succ]
  repeat (first
    | (apply wpRel_fix (by rfl)
       · intro w' hC hf R hR
         have hS := S w' hC
         go_simp
         exact hR _ (ShT.refl _ _ _ _ _ _ _ _ _ _)
       simp only [Act.put, List.setIfInBounds_toArray, List.set_cons_zero, List.set_cons_succ]))
  refine wpRel_nil (fun w2 hC hf => ?_)
  obtain ⟨c, rfl, hc0, hcp, rw2⟩ : PtRowT w1.heap.size [.int .i64 ld, .int .i64 ln, .string lname] 133 vptr w2 := hf _ (List.mem_cons_self ..)
  have G2 : Hid (Gd B L L1 w b t dm st (fun x => x = w.heap.size ∨ x = CC) w2) := Lib.hid (by
    have g := G1.out
    rw [← hL1] at g
    exact g.then hC.1 hC.2)
  have k1 : L1 w.heap.size := by rw [hL1]; exact .inl (.inl rfl)
  have k2 : L1 CC := by rw [hL1]; exact .inl (.inr rfl)
  have RF2 := Lib.hid (RF1.out.keep (hC.2.loc _ k2))
  have xp : w2.cell? ⟨w.heap.size, 1, none⟩ = some (.bool pslash) := (hC.2.cell k1 1).trans ((RP1.out.cell 1).trans rfl)
  have xpl : w.heap.size < w2.heap.size := hC.1.2.1 _ k1
  have x0 : w2.cell? ⟨CC, 0, none⟩ = some (.int .i64 0) := (RF2.out.cell 0).trans rfl
  have x1 : w2.cell? ⟨CC, 1, none⟩ = some (.int .i64 0) := (RF2.out.cell 1).trans rfl
  have x2 : w2.cell? ⟨CC, 2, none⟩ = some (.string ⟨#[]⟩) := (RF2.out.cell 2).trans rfl
  have xf : ∀ i, w2.frozen? ⟨CC, i, none⟩ = false := fun i => RF2.out.froz i
  have xl : CC < w2.heap.size := RF2.out.lt
  have y0 : w2.cell? ⟨c, 0, none⟩ = some (.int .i64 ld) := (rw2.cell 0).trans rfl
  have y1 : w2.cell? ⟨c, 1, none⟩ = some (.int .i64 ln) := (rw2.cell 1).trans rfl
  have y2 : w2.cell? ⟨c, 2, none⟩ = some (.string lname) := (rw2.cell 2).trans rfl
  have yl : c < w2.heap.size := rw2.lt
  have HE2 := Lib.hid (HE1.out.keep hC.2.below)
  clear S hf hC HT rw2 hcp k1 k2
  rcases HLC.out with hz | hz
  · have HQ0 : Hid (freshP st ⟨ps, pslash⟩ slash = if 0 < ln then (110, noFnd) else if pslash && !slash then (109, noFnd) else (0, ⟨ld, ln, lname⟩)) := Lib.hid (by
      unfold freshP
      rw [HLAST.out, hz]
      rfl)
    subst hz
    rw [show errOf E 0 = .nilIface from rfl]
    by_cases hn : 0 < ln
    · have hn' : ln > 0 := hn
      have HQ : Hid (freshP st ⟨ps, pslash⟩ slash = (110, noFnd)) := Lib.hid (by rw [HQ0.out, if_pos hn])
      have c1 : errOf E 110 = errV E 7 := errOf_code (g := 7) (by decide)
      have C1 := Lib.hid c1
      have e1 := HE2.out.cell 7 (by decide)
      have l1 : 7 < w2.heap.size := Nat.lt_of_lt_of_le (HE2.out.glt _ (by decide)) HE2.out.size
      clear c1
      go_wp2_with fail
      go_region
      go_wp2
      rw [← HP.out]
      refine bodyPost_ret (v := .tuple #[.agg #[.int .i64 0, .int .i64 0, .string ⟨#[]⟩], errV E 7]) (by simp [results, Tryz.results71, go_sem, x0, x1, x2, y0, y1, y2, yl, xl]) rfl ?_
      refine ⟨?_, (by repeat (first | exact G2.out | refine Gd.set ?_ (.inr rfl) _ | refine Gd.alloc ?_ _ | refine Gd.drew ?_) : Gd B L L1 w b t dm st (fun x => x = w.heap.size ∨ x = CC) _).out⟩
      rw [HQ.out, ← C1.out]
      rfl
    · have hn' : ¬ ln > 0 := hn
      by_cases hs : (pslash && !slash) = true
      · have HQ : Hid (freshP st ⟨ps, pslash⟩ slash = (109, noFnd)) := Lib.hid (by rw [HQ0.out, if_neg hn, if_pos hs])
        have hs1 : pslash = true ∧ slash = false := by simpa using hs
        clear hs
        obtain ⟨rfl, rfl⟩ := hs1
        have c1 : errOf E 109 = errV E 0 := errOf_code (g := 0) (by decide)
        have C1 := Lib.hid c1
        have e1 := HE2.out.cell 0 (by decide)
        have l1 : 0 < w2.heap.size := Nat.lt_of_lt_of_le (HE2.out.glt _ (by decide)) HE2.out.size
        clear c1
        go_wp2_with fail
        go_region
        go_wp2
        rw [← HP.out]
        refine bodyPost_ret (v := .tuple #[.agg #[.int .i64 0, .int .i64 0, .string ⟨#[]⟩], errV E 0]) (by simp [results, Tryz.results71, go_sem, x0, x1, x2, y0, y1, y2, yl, xl]) rfl ?_
        refine ⟨?_, (by repeat (first | exact G2.out | refine Gd.set ?_ (.inr rfl) _ | refine Gd.alloc ?_ _ | refine Gd.drew ?_) : Gd B L L1 w b t dm st (fun x => x = w.heap.size ∨ x = CC) _).out⟩
        rw [HQ.out, ← C1.out]
        rfl
      · have HQ : Hid (freshP st ⟨ps, pslash⟩ slash = (0, ⟨ld, ln, lname⟩)) := Lib.hid (by rw [HQ0.out, if_neg hn, if_neg hs])
        have hs1 : pslash = false ∨ slash = true := by cases pslash <;> cases slash <;> simp_all
        clear hs
        cases pslash <;> cases slash
        all_goals try (exact absurd hs1 (by decide))
        all_goals
          go_wp2
          rw [← HP.out]
          refine bodyPost_ret (v := .tuple #[.agg #[.int .i64 ld, .int .i64 ln, .string lname], .nilIface]) (by simp [results, Tryz.results71, go_sem, x0, x1, x2, y0, y1, y2, yl, xl]) rfl ?_
          refine ⟨?_, (by repeat (first | exact G2.out | refine Gd.set ?_ (.inr rfl) _ | refine Gd.alloc ?_ _ | refine Gd.drew ?_) : Gd B L L1 w b t dm st (fun x => x = w.heap.size ∨ x = CC) _).out⟩
          rw [HQ.out]
          rfl
  · obtain ⟨ad, had⟩ := errOf_some (E := E) hz
    have HQ : Hid (freshP st ⟨ps, pslash⟩ slash = (lc, noFnd)) := Lib.hid (by unfold freshP; rw [HLAST.out]; simp only; rw [if_pos (show lc ≠ 0 by omega)])
    rw [had]
    have C1 := Lib.hid had
    clear had hz
    go_wp2
    rw [← HP.out]
    refine bodyPost_ret (v := .tuple #[.agg #[.int .i64 0, .int .i64 0, .string ⟨#[]⟩], .iface 246 (.pointer (some ad))]) (by simp [results, Tryz.results71, go_sem, x0, x1, x2, y0, y1, y2, yl, xl]) rfl ?_
    refine ⟨?_, (by repeat (first | exact G2.out | refine Gd.set ?_ (.inr rfl) _ | refine Gd.alloc ?_ _ | refine Gd.drew ?_) : Gd B L L1 w b t dm st (fun x => x = w.heap.size ∨ x = CC) _).out⟩
    rw [HQ.out, ← C1.out]
    rfl
end
end Go.Proofs.YtnkcbogikaebfaaGreatDoor
end

section
/- The walks of package tree: there. -/
namespace Go.Proofs.YtnkcbogikaebfaaGreatDoor
open Go Go.RowKit
set_option maxRecDepth 100000
set_option linter.unusedSimpArgs false
set_option linter.unusedVariables false
attribute [local go_sem] giv
variable {E : Nat → Addr} {B : Nat}

theorem lastP_node {st : St} (f : Full st) (p : Pth) : 0 ≤ (lastP st p).2.node ∧ (lastP st p).2.node ≤ 16777215 := by
  rcases lastP_code st p with h | h
  · obtain ⟨x, h1, h2, h3⟩ := (lastP_ok (show lastP st p = (0, (lastP st p).2) by rw [← h])).at'
    rcases h3 with ⟨h3, _⟩ | ⟨e, h4, h5, _⟩
    · omega
    · obtain ⟨y, _, _, h6, h7⟩ := entry_node f.toGood h1 h4
      omega
  · have : (lastP st p).2 = noFnd := by
      unfold lastP at h ⊢
      simp only at h ⊢
      split
      · rfl
      · rename_i h1
        rw [if_neg h1] at h
        split
        · rfl
        · rename_i h2
          rw [if_neg h2] at h
          split
          · rfl
          · rename_i l hl
            rw [hl] at h
            simp only at h
            split
            · rename_i h3
              rw [h3] at h
              simp only at h
              omega
            · rename_i e h3
              rw [h3] at h
              simp only at h
              split
              · rfl
              · rename_i h4
                rw [if_neg h4] at h
                simp only at h
                omega
    rw [this]
    exact ⟨by decide, by decide⟩
section
variable {L : Nat → Prop} {w : World} {a b t dm : Nat} {st : St}
/-- What there answers. -/
def ThereR (E : Nat → Addr) (B : Nat) (L : Nat → Prop) (b t dm : Nat) (st : St) (R : Int × Fnd × Nd) (w : World) (e : Ending) (w' : World) : Prop :=
  e = .returned (.tuple #[.agg #[.int .i64 R.2.1.dir, .int .i64 R.2.1.node, .string R.2.1.name], encN R.2.2, errOf E R.1]) ∧ WB B L w' b t dm st ∧ KeptP B L w w'
set_option maxHeartbeats 1000000 in
theorem tthere_any (ha : TA w a b) (hl : L a) (h : WB B L w b t dm st) (f : Full st) {sp : Option Addr} {np cap : Nat} {ps : List ByteArray} (rp : RdS w (.slice sp np cap) ps) (hlp : ∀ x, (Value.slice sp np cap).ownBlock = some x → L x) (hlen : ps.length ≤ 1000) (hsm : ∀ x ∈ ps, x.size ≤ 1000000) (pslash : Bool) (hE : EnvM E B w) :
    Calls Tryz.prog 61 #[.pointer (some ⟨a, 0, none⟩), .agg #[.slice sp np cap, .bool pslash]] w (ThereR E B L b t dm st (thereP st ⟨ps, pslash⟩) w) := by
  have H := Lib.hid h
  have HF := Lib.hid f
  have HR := Lib.hid rp
  have HLP := Lib.hid hlp
  have HL := Lib.hid hlen
  have HS := Lib.hid hsm
  have HE := Lib.hid hE
  have HA := Lib.hid ha
  have HLA := Lib.hid hl
  generalize hP : ThereR E B L b t dm st (thereP st ⟨ps, pslash⟩) w = Post
  have HP := Lib.hid hP
  clear h f rp hlen hsm hE hP ha hl hlp
  go_enter Tryz.func61, Tryz.ntmps61
  go_wp2_with fail
  obtain ⟨w1, hw1⟩ : ∃ w1, w1 = ((w.alloc (.cells #[.slice sp np cap, .bool pslash] 127)).alloc (.cells #[.int .i64 0, .int .i64 0, .string ⟨#[]⟩] 133)).alloc (.cells #[.int .i64 0, .int .i64 0, .int .i64 0, .int .i64 0, .string ⟨#[]⟩, .int .i64 0] 39) := ⟨_, rfl⟩
  have b1 : Below w.heap.size w w1 := by rw [hw1]; exact bl_alloc (bl_alloc (bl_alloc (Below.refl _ _) _) _) _
  have z1 : w1.heap.size = w.heap.size + 3 := by rw [hw1]; simp
  have G1 := Lib.hid (Gd.first (B := B) H.out b1 (S := fun x => x = w.heap.size ∨ x = w.heap.size + 1 ∨ x = w.heap.size + 1 + 1) (fun x hx => by rcases hx with rfl | rfl | rfl <;> omega))
  have rp1 : Row w1 w.heap.size 127 [.slice sp np cap, .bool pslash] := by rw [hw1]; exact ((Row.new w _ [.slice sp np cap, .bool pslash]).alloc _).alloc _
  have rf1 : Row w1 (w.heap.size + 1) 133 [.int .i64 0, .int .i64 0, .string ⟨#[]⟩] := by
    have := (Row.new (w.alloc (.cells #[.slice sp np cap, .bool pslash] 127)) 133 [.int .i64 0, .int .i64 0, .string ⟨#[]⟩]).alloc (.cells #[.int .i64 0, .int .i64 0, .int .i64 0, .int .i64 0, .string ⟨#[]⟩, .int .i64 0] 39)
    rw [hw1]
    simpa using this
  have rn1 : Row w1 (w.heap.size + 1 + 1) 39 [.int .i64 0, .int .i64 0, .int .i64 0, .int .i64 0, .string ⟨#[]⟩, .int .i64 0] := by
    have := Row.new ((w.alloc (.cells #[.slice sp np cap, .bool pslash] 127)).alloc (.cells #[.int .i64 0, .int .i64 0, .string ⟨#[]⟩] 133)) 39 [.int .i64 0, .int .i64 0, .int .i64 0, .int .i64 0, .string ⟨#[]⟩, .int .i64 0]
    rw [hw1]
    simpa using this
  rw [← hw1]
  have HE1 := Lib.hid (HE.out.below b1)
  have HR1 := Lib.hid (HR.out.below b1)
  have HA1 := Lib.hid (HA.out.below b1)
  have RP1 := Lib.hid rp1
  have RF1 := Lib.hid rf1
  have RN1 := Lib.hid rn1
  clear hw1 rp1 rf1 rn1 b1 z1
  generalize hC2 : w.heap.size + 1 + 1 = C2 at *
  generalize hC1 : w.heap.size + 1 = C1 at *
  have hcc : ¬ C1 = C2 := by omega
  have hcd : ¬ C2 = C1 := by omega
  have ga1 : ¬ C1 = 0 := by have h1 := HE.out.glt 0 (by decide); have h2 := HE.out.size; omega
  have ga2 : ¬ 0 = C1 := fun h => ga1 h.symm
  have ga3 : ¬ C2 = 0 := by have h1 := HE.out.glt 0 (by decide); have h2 := HE.out.size; omega
  have ga4 : ¬ 0 = C2 := fun h => ga3 h.symm
  have HC1 := Lib.hid hC1
  have HC2 := Lib.hid hC2
  clear hC1 hC2
  obtain ⟨L1, hL1⟩ : ∃ L1 : Nat → Prop, L1 = fun x => (x = w.heap.size ∨ x = C1 ∨ x = C2) ∨ L x := ⟨_, rfl⟩
  obtain ⟨R, hR⟩ : ∃ R, lastP st ⟨ps, pslash⟩ = R := ⟨_, rfl⟩
  have hlc := lastP_code st ⟨ps, pslash⟩
  have hln := lastP_node HF.out ⟨ps, pslash⟩
  rw [hR] at hlc hln
  obtain ⟨lc, ld, ln, lname⟩ := R
  have HLAST := Lib.hid hR
  simp only at hlc hln
  have HLC := Lib.hid hlc
  have HW0 : Hid (WB B L1 w1 b t dm st) := Lib.hid (hL1 ▸ G1.out.tree)
  have S : ∀ w', WB B L1 w' b t dm st ∧ KeptP B L1 w1 w' → w'.cell? ⟨a, 0, none⟩ = some (.pointer (some ⟨b, 0, none⟩)) ∧ w'.cell? ⟨w.heap.size, 0, none⟩ = some (.slice sp np cap) ∧ w'.cell? ⟨w.heap.size, 1, none⟩ = some (.bool pslash) := by
    intro w' hc
    have k1 : L1 w.heap.size := by rw [hL1]; exact .inl (.inl rfl)
    have k2 : L1 a := by rw [hL1]; exact .inr HLA.out
    exact ⟨(HA1.out.kept k2 hc.2).1, (hc.2.cell k1 0).trans ((RP1.out.cell 0).trans rfl), (hc.2.cell k1 1).trans ((RP1.out.cell 1).trans rfl)⟩
  have HT : Hid (∀ w', WB B L1 w' b t dm st ∧ KeptP B L1 w1 w' → Calls Tryz.prog 62 #[.pointer (some ⟨b, 0, none⟩), .agg #[.slice sp np cap, .bool pslash]] w' fun e w'' =>
      e = .returned (.tuple #[.agg #[.int .i64 ld, .int .i64 ln, .string lname], errOf E lc]) ∧ WB B (fun x => L1 x ∨ (x < w'.heap.size ∧ Plain w' x)) w'' b t dm st ∧ KeptP B (fun x => L1 x ∨ (x < w'.heap.size ∧ Plain w' x)) w' w'') := Lib.hid (by
    intro w' hc
    have := wlast_any (WL.wide hc.1) HF.out (RdE.kept HR1.out hc.2 (fun x hx => by rw [hL1]; exact .inr (HLP.out x hx))) HL.out HS.out pslash (HE1.out.keep hc.2.below)
    unfold LastR at this
    rw [HLAST.out] at this
    exact this)
  clear hlc hR
  apply wp_region_rel _ (by kernel_rfl) (by kernel_rfl) (fun w' => WB B L1 w' b t dm st ∧ KeptP B L1 w1 w') (fun w' w'' => ShT B L1 b t dm st w1.heap.size [.int .i64 ld, .int .i64 ln, .string lname] 133 w' w'') (fun w' w'' h1 h2 => ⟨h2.tree h1.1, h1.2.trans (h2.kept h1.1)⟩) ⟨HW0.out.below (Below.refl _ _).drew, HW0.out.kept (Below.refl _ _).drew⟩
  repeat (first
    | (apply wpRel_fix (by rfl)
       · intro w' hC hf R hR
         have hS := S w' hC
         go_simp
         exact hR _ (ShT.refl _ _ _ _ _ _ _ _ _ _)
       simp only [Act.put, List.setIfInBounds_toArray, List.set_cons_zero, List.set_cons_succ])
    | (apply wpRel_fix (by rfl)
       · intro w' hC hf R hR
         have hS := S w' hC
         go_simp
         refine (HT.out w' hC).mono ?_
         rintro e w'' ⟨rfl, hw9, hk9⟩
         exact ⟨_, rfl, hR _ (ShT.call hw9 hk9)⟩
       simp only [Act.put, List.setIfInBounds_toArray, List.set_cons_zero, List.set_cons_succ]))
  apply wpRel_rel (PtTyT w1.heap.size ([.int .i64 ld, .int .i64 ln, .string lname] : List Value).length 133) (by rfl) ptTyT_keep
  · intro w' hC hf R hR
    go_simp
    exact hR _ _ ⟨_, rfl, hC.2.below.size, TyB.new _ _ _ rfl, ⟨_, (Row.new w' _ _).cell 0, by first | exact plainI _ _ | exact plainS _ | exact plainSl _ _ _⟩⟩ (ShT.of_below (bl_alloc (Below.refl _ _) _))
  intro vptr
  simp only [Act.put, List.setIfInBounds_toArray, List.set_cons_zero, List.set_cons_succ]
  apply wpRel_dep 7 (PtRowT w1.heap.size [.int .i64 ld, .int .i64 ln, .string lname] 133) (by rfl) (by rfl) ptRowT_keep
  · intro w' hC hf R hR
    obtain ⟨c, rfl, hc, hk, hpl⟩ := hf _ (List.mem_cons_self ..) (by kernel_rfl)
    obtain ⟨u0, e0⟩ := hk.cell (i := 0) (Nat.lt_of_lt_of_eq (by decide : 0 < 3) rfl)
    have f0 := hk.froz 0
    obtain ⟨u1, e1⟩ := hk.cell (i := 1) (Nat.lt_of_lt_of_eq (by decide : 1 < 3) rfl)
    have f1 := hk.froz 1
    obtain ⟨u2, e2⟩ := hk.cell (i := 2) (Nat.lt_of_lt_of_eq (by decide : 2 < 3) rfl)
    have f2 := hk.froz 2
    have hN := Lib.hid hk
    have hM := Lib.hid hpl
    clear hk hpl
    go_simp
    exact hR _ _ (ptRowT_mk ⟨_, _, rfl, (by first | exact plainI _ _ | exact plainS _ | exact plainSl _ _ _)⟩ hN.out hc) (ShT.setAll ⟨_, _, rfl, (by first | exact plainI _ _ | exact plainS _ | exact plainSl _ _ _)⟩ hN.out hM.out (Nat.le_trans HW0.out.1 hc) (fun hl => absurd (HW0.out.2.1 _ hl) (by omega)))
  intro vst
  simp only [Act.put, List.setIfInBounds_toArray, List.set_cons_zero, List.set_cons_succ]
  repeat (first
    | (apply wpRel_fix (by rfl)
       · intro w' hC hf R hR
         have hS := S w' hC
         go_simp
         exact hR _ (ShT.refl _ _ _ _ _ _ _ _ _ _)
       simp only [Act.put, List.setIfInBounds_toArray, List.set_cons_zero, List.set_cons_succ]))
  refine wpRel_nil (fun w2 hC hf => ?_)
  obtain ⟨c, rfl, hc0, hcp, rw2⟩ : PtRowT w1.heap.size [.int .i64 ld, .int .i64 ln, .string lname] 133 vptr w2 := hf _ (List.mem_cons_self ..)
  have G2 : Hid (Gd B L L1 w b t dm st (fun x => x = w.heap.size ∨ x = C1 ∨ x = C2) w2) := Lib.hid (by
    have g := G1.out
    rw [← hL1] at g
    exact g.then hC.1 hC.2)
  have k2 : L1 C1 := by rw [hL1]; exact .inl (.inr (.inl rfl))
  have k3 : L1 C2 := by rw [hL1]; exact .inl (.inr (.inr rfl))
  have k4 : L1 a := by rw [hL1]; exact .inr HLA.out
  have RF2 := Lib.hid (RF1.out.keep (hC.2.loc _ k2))
  have RN2 := Lib.hid (RN1.out.keep (hC.2.loc _ k3))
  have RC2 := Lib.hid rw2
  have hx1 : ¬ c = C1 := by have := RF1.out.lt; omega
  have hx2 : ¬ c = C2 := by have := RN1.out.lt; omega
  have hx3 : ¬ C1 = c := fun h => hx1 h.symm
  have hx4 : ¬ C2 = c := fun h => hx2 h.symm
  have HA2 := Lib.hid (HA1.out.kept k4 hC.2)
  have HE2 := Lib.hid (HE1.out.keep hC.2.below)
  clear S hf hC HT rw2 hcp k2 k3 k4 HW0 G1 RF1 RN1 RP1 HE1 HR1 HA1
  rcases HLC.out with hz | hz
  · have HQ0 : Hid (thereP st ⟨ps, pslash⟩ = match st.get ln with | none => (109, noFnd, noNd) | some n => (0, ⟨ld, ln, lname⟩, n.nd)) := Lib.hid (by
      unfold thereP
      rw [HLAST.out, hz]
      rfl)
    subst hz
    rw [show errOf E 0 = .nilIface from rfl]
    go_wp2_with fail
    obtain ⟨q, hq⟩ : ∃ q, (st.nd ln).getD noNd = q := ⟨_, rfl⟩
    obtain ⟨is, his⟩ : ∃ is, (st.nd ln).isSome = is := ⟨_, rfl⟩
    have HNQ := Lib.hid hq
    have HNI := Lib.hid his
    clear hq his
    obtain ⟨q1, q2, q3, q4, q5, q6⟩ := q
    have hbw := G2.out.tree.c0
    have hbl := G2.out.tree.lt.1
    have S : ∀ w', ShH w2.heap.size (ndC ⟨q1, q2, q3, q4, q5, q6⟩) 39 w2 w' → w'.cell? ⟨a, 0, none⟩ = some (.pointer (some ⟨b, 0, none⟩)) ∧ w'.cell? ⟨b, 0, none⟩ = some (.pointer (some ⟨t, 0, none⟩)) ∧ w'.cell? ⟨c, 1, none⟩ = some (.int .i64 ln) :=
      fun w' hs => ⟨(hs.bel.cell (p := ⟨a, 0, none⟩) HA2.out.2).trans HA2.out.1, (hs.bel.cell (p := ⟨b, 0, none⟩) hbl).trans hbw, (hs.bel.cell (p := ⟨c, 1, none⟩) RC2.out.lt).trans ((RC2.out.cell 1).trans rfl)⟩
    have HG : Hid (∀ w', ShH w2.heap.size (ndC ⟨q1, q2, q3, q4, q5, q6⟩) 39 w2 w' → Calls Tryz.prog 11 #[.pointer (some ⟨t, 0, none⟩), .int .i64 ln] w' fun e w'' => e = .returned (.tuple #[.agg #[.int .i64 q1, .int .i64 q2, .int .i64 q3, .int .i64 q4, .string q5, .int .i64 q6], .bool is]) ∧ Below w'.heap.size w' w'') := Lib.hid fun w' hs => by
      have := wl_get (G2.out.tree.below hs.bel) (k := ln) (by omega)
      rw [HNQ.out, HNI.out] at this
      exact this
    clear hbw hbl
    apply wp_region_rel _ (by kernel_rfl) (by kernel_rfl) (fun w' => ShH w2.heap.size (ndC ⟨q1, q2, q3, q4, q5, q6⟩) 39 w2 w') (fun w' w'' => ShH w2.heap.size (ndC ⟨q1, q2, q3, q4, q5, q6⟩) 39 w' w'') (fun w' w'' h1 h2 => h1.trans h2) (ShH.refl _ _ _ _).drew
    repeat (first
      | (apply wpRel_fix (by rfl)
         · intro w' hC hf R hR
           have hS := S w' hC
           go_simp
           exact hR _ (ShH.refl _ _ _ _)
         simp only [Act.put, List.setIfInBounds_toArray, List.set_cons_zero, List.set_cons_succ])
      | (apply wpRel_fix (by rfl)
         · intro w' hC hf R hR
           have hS := S w' hC
           go_simp
           refine (HG.out w' hC).mono ?_
           rintro e w'' ⟨rfl, hb⟩
           exact ⟨_, rfl, hR _ (ShH.of_below hb (Nat.le_trans hC.bel.size (Nat.le_refl _)))⟩
         simp only [Act.put, List.setIfInBounds_toArray, List.set_cons_zero, List.set_cons_succ]))
    apply wpRel_rel (PtTy w2.heap.size ((ndC ⟨q1, q2, q3, q4, q5, q6⟩) : List Value).length 39) (by rfl) ptTy_keep
    · intro w' hC hf R hR
      go_simp
      exact hR _ _ ⟨_, rfl, hC.bel.size, TyB.new _ _ _ rfl⟩ (ShH.of_below (bl_alloc (Below.refl _ _) _) hC.bel.size)
    intro vptr
    simp only [Act.put, List.setIfInBounds_toArray, List.set_cons_zero, List.set_cons_succ]
    apply wpRel_dep 9 (PtRow w2.heap.size (ndC ⟨q1, q2, q3, q4, q5, q6⟩) 39) (by rfl) (by rfl) ptRow_keep
    · intro w' hC hf R hR
      obtain ⟨c, rfl, hc, hk⟩ := hf _ (List.mem_cons_self ..) (by kernel_rfl)
      obtain ⟨u0, e0⟩ := hk.cell (i := 0) (Nat.lt_of_lt_of_eq (by decide : 0 < 6) rfl)
      have f0 := hk.froz 0
      obtain ⟨u1, e1⟩ := hk.cell (i := 1) (Nat.lt_of_lt_of_eq (by decide : 1 < 6) rfl)
      have f1 := hk.froz 1
      obtain ⟨u2, e2⟩ := hk.cell (i := 2) (Nat.lt_of_lt_of_eq (by decide : 2 < 6) rfl)
      have f2 := hk.froz 2
      obtain ⟨u3, e3⟩ := hk.cell (i := 3) (Nat.lt_of_lt_of_eq (by decide : 3 < 6) rfl)
      have f3 := hk.froz 3
      obtain ⟨u4, e4⟩ := hk.cell (i := 4) (Nat.lt_of_lt_of_eq (by decide : 4 < 6) rfl)
      have f4 := hk.froz 4
      obtain ⟨u5, e5⟩ := hk.cell (i := 5) (Nat.lt_of_lt_of_eq (by decide : 5 < 6) rfl)
      have f5 := hk.froz 5
      have hN := Lib.hid hk
      clear hk
      go_simp
      exact hR _ _ (ptRow_mk hN.out hc) (ShH.setAll hN.out hc)
    intro vst
    simp only [Act.put, List.setIfInBounds_toArray, List.set_cons_zero, List.set_cons_succ]
    repeat (first
      | (apply wpRel_fix (by rfl)
         · intro w' hC hf R hR
           have hS := S w' hC
           go_simp
           exact hR _ (ShH.refl _ _ _ _)
         simp only [Act.put, List.setIfInBounds_toArray, List.set_cons_zero, List.set_cons_succ]))
    refine wpRel_nil (fun w3 hC hf => ?_)
    obtain ⟨cn, rfl, hcn, rw3⟩ : PtRow w2.heap.size (ndC ⟨q1, q2, q3, q4, q5, q6⟩) 39 vptr w3 := hf _ (List.mem_cons_self ..)
    have hx5 : ¬ cn = C1 := by have := RF2.out.lt; omega
    have hx6 : ¬ cn = C2 := by have := RN2.out.lt; omega
    have hx7 : ¬ C1 = cn := fun h => hx5 h.symm
    have hx8 : ¬ C2 = cn := fun h => hx6 h.symm
    have G3 := Lib.hid (G2.out.below hC.bel)
    have RF3 := Lib.hid (RF2.out.below hC.bel)
    have RN3 := Lib.hid (RN2.out.below hC.bel)
    have RC3 := Lib.hid (RC2.out.below hC.bel)
    have HE3 := Lib.hid (HE2.out.below hC.bel)
    have RQ3 := Lib.hid rw3
    clear S hf hC HG rw3 G2 RF2 RN2 RC2 HE2 HA2
    have x0 : w3.cell? ⟨C1, 0, none⟩ = some (.int .i64 0) := (RF3.out.cell 0).trans rfl
    have x1 : w3.cell? ⟨C1, 1, none⟩ = some (.int .i64 0) := (RF3.out.cell 1).trans rfl
    have x2 : w3.cell? ⟨C1, 2, none⟩ = some (.string ⟨#[]⟩) := (RF3.out.cell 2).trans rfl
    have xf : ∀ i, w3.frozen? ⟨C1, i, none⟩ = false := fun i => RF3.out.froz i
    have xl : C1 < w3.heap.size := RF3.out.lt
    have v0 : w3.cell? ⟨C2, 0, none⟩ = some (.int .i64 0) := (RN3.out.cell 0).trans rfl
    have v1 : w3.cell? ⟨C2, 1, none⟩ = some (.int .i64 0) := (RN3.out.cell 1).trans rfl
    have v2 : w3.cell? ⟨C2, 2, none⟩ = some (.int .i64 0) := (RN3.out.cell 2).trans rfl
    have v3 : w3.cell? ⟨C2, 3, none⟩ = some (.int .i64 0) := (RN3.out.cell 3).trans rfl
    have v4 : w3.cell? ⟨C2, 4, none⟩ = some (.string ⟨#[]⟩) := (RN3.out.cell 4).trans rfl
    have v5 : w3.cell? ⟨C2, 5, none⟩ = some (.int .i64 0) := (RN3.out.cell 5).trans rfl
    have vf : ∀ i, w3.frozen? ⟨C2, i, none⟩ = false := fun i => RN3.out.froz i
    have vl : C2 < w3.heap.size := RN3.out.lt
    have y0 : w3.cell? ⟨c, 0, none⟩ = some (.int .i64 ld) := (RC3.out.cell 0).trans rfl
    have y1 : w3.cell? ⟨c, 1, none⟩ = some (.int .i64 ln) := (RC3.out.cell 1).trans rfl
    have y2 : w3.cell? ⟨c, 2, none⟩ = some (.string lname) := (RC3.out.cell 2).trans rfl
    have yl : c < w3.heap.size := RC3.out.lt
    have z0 : w3.cell? ⟨cn, 0, none⟩ = some (.int .i64 q1) := (RQ3.out.cell 0).trans rfl
    have z1 : w3.cell? ⟨cn, 1, none⟩ = some (.int .i64 q2) := (RQ3.out.cell 1).trans rfl
    have z2 : w3.cell? ⟨cn, 2, none⟩ = some (.int .i64 q3) := (RQ3.out.cell 2).trans rfl
    have z3 : w3.cell? ⟨cn, 3, none⟩ = some (.int .i64 q4) := (RQ3.out.cell 3).trans rfl
    have z4 : w3.cell? ⟨cn, 4, none⟩ = some (.string q5) := (RQ3.out.cell 4).trans rfl
    have z5 : w3.cell? ⟨cn, 5, none⟩ = some (.int .i64 q6) := (RQ3.out.cell 5).trans rfl
    have zl : cn < w3.heap.size := RQ3.out.lt
    cases is with
    | false =>
      have HQ : Hid (thereP st ⟨ps, pslash⟩ = (109, noFnd, noNd)) := Lib.hid (by
        rw [HQ0.out, nd_none (by have := HNI.out; simpa using this)])
      have c1 : errOf E 109 = errV E 0 := errOf_code (g := 0) (by decide)
      have CE := Lib.hid c1
      have e1 := HE3.out.cell 0 (by decide)
      have l1 : 0 < w3.heap.size := Nat.lt_of_lt_of_le (HE3.out.glt _ (by decide)) HE3.out.size
      clear c1
      go_wp2_with fail
      go_region
      go_wp2
      rw [← HP.out]
      refine bodyPost_ret (v := .tuple #[.agg #[.int .i64 0, .int .i64 0, .string ⟨#[]⟩], .agg #[.int .i64 0, .int .i64 0, .int .i64 0, .int .i64 0, .string ⟨#[]⟩, .int .i64 0], errV E 0]) (by simp [results, Tryz.results61, go_sem, x0, x1, x2, xl, v0, v1, v2, v3, v4, v5, vl, y0, y1, y2, yl, hcc, hcd, hx1, hx2, hx3, hx4]) rfl ?_
      refine ⟨?_, (by repeat (first | with_reducible exact G3.out | with_reducible refine Gd.set ?_ (.inr (.inl rfl)) _ | with_reducible refine Gd.set ?_ (.inr (.inr rfl)) _ | with_reducible refine Gd.alloc ?_ _ | with_reducible refine Gd.drew ?_) : Gd B L L1 w b t dm st (fun x => x = w.heap.size ∨ x = C1 ∨ x = C2) _).out⟩
      rw [HQ.out, ← CE.out]
      rfl
    | true =>
      have HQ : Hid (thereP st ⟨ps, pslash⟩ = (0, ⟨ld, ln, lname⟩, ⟨q1, q2, q3, q4, q5, q6⟩)) := Lib.hid (by
        rw [HQ0.out]
        have h1 := HNI.out
        have h2 := HNQ.out
        unfold St.nd at h1 h2
        cases hg : st.get ln with
        | none => rw [hg] at h1; cases h1
        | some r => rw [hg] at h2; simp only; rw [show r.nd = _ from h2])
      go_wp2_with fail
      go_region
      go_wp2
      rw [← HP.out]
      refine bodyPost_ret (v := .tuple #[.agg #[.int .i64 ld, .int .i64 ln, .string lname], .agg #[.int .i64 q1, .int .i64 q2, .int .i64 q3, .int .i64 q4, .string q5, .int .i64 q6], .nilIface]) (by simp [results, Tryz.results61, go_sem, x0, x1, x2, xl, v0, v1, v2, v3, v4, v5, vl, y0, y1, y2, yl, z0, z1, z2, z3, z4, z5, zl, hcc, hcd, hx1, hx2, hx3, hx4, hx5, hx6, hx7, hx8]) rfl ?_
      refine ⟨?_, (by repeat (first | with_reducible exact G3.out | with_reducible refine Gd.set ?_ (.inr (.inl rfl)) _ | with_reducible refine Gd.set ?_ (.inr (.inr rfl)) _ | with_reducible refine Gd.alloc ?_ _ | with_reducible refine Gd.drew ?_) : Gd B L L1 w b t dm st (fun x => x = w.heap.size ∨ x = C1 ∨ x = C2) _).out⟩
      rw [HQ.out]
      rfl
  · obtain ⟨ad, had⟩ := errOf_some (E := E) hz
    have HQ : Hid (thereP st ⟨ps, pslash⟩ = (lc, noFnd, noNd)) := Lib.hid (by unfold thereP; rw [HLAST.out]; simp only; rw [if_pos (show lc ≠ 0 by omega)])
    rw [had]
    have CE := Lib.hid had
    clear had hz
    have x0 : w2.cell? ⟨C1, 0, none⟩ = some (.int .i64 0) := (RF2.out.cell 0).trans rfl
    have x1 : w2.cell? ⟨C1, 1, none⟩ = some (.int .i64 0) := (RF2.out.cell 1).trans rfl
    have x2 : w2.cell? ⟨C1, 2, none⟩ = some (.string ⟨#[]⟩) := (RF2.out.cell 2).trans rfl
    have xf : ∀ i, w2.frozen? ⟨C1, i, none⟩ = false := fun i => RF2.out.froz i
    have xl : C1 < w2.heap.size := RF2.out.lt
    have v0 : w2.cell? ⟨C2, 0, none⟩ = some (.int .i64 0) := (RN2.out.cell 0).trans rfl
    have v1 : w2.cell? ⟨C2, 1, none⟩ = some (.int .i64 0) := (RN2.out.cell 1).trans rfl
    have v2 : w2.cell? ⟨C2, 2, none⟩ = some (.int .i64 0) := (RN2.out.cell 2).trans rfl
    have v3 : w2.cell? ⟨C2, 3, none⟩ = some (.int .i64 0) := (RN2.out.cell 3).trans rfl
    have v4 : w2.cell? ⟨C2, 4, none⟩ = some (.string ⟨#[]⟩) := (RN2.out.cell 4).trans rfl
    have v5 : w2.cell? ⟨C2, 5, none⟩ = some (.int .i64 0) := (RN2.out.cell 5).trans rfl
    have vf : ∀ i, w2.frozen? ⟨C2, i, none⟩ = false := fun i => RN2.out.froz i
    have vl : C2 < w2.heap.size := RN2.out.lt
    have y0 : w2.cell? ⟨c, 0, none⟩ = some (.int .i64 ld) := (RC2.out.cell 0).trans rfl
    have y1 : w2.cell? ⟨c, 1, none⟩ = some (.int .i64 ln) := (RC2.out.cell 1).trans rfl
    have y2 : w2.cell? ⟨c, 2, none⟩ = some (.string lname) := (RC2.out.cell 2).trans rfl
    have yl : c < w2.heap.size := RC2.out.lt
    go_wp2
    rw [← HP.out]
    refine bodyPost_ret (v := .tuple #[.agg #[.int .i64 0, .int .i64 0, .string ⟨#[]⟩], .agg #[.int .i64 0, .int .i64 0, .int .i64 0, .int .i64 0, .string ⟨#[]⟩, .int .i64 0], .iface 246 (.pointer (some ad))]) (by simp [results, Tryz.results61, go_sem, x0, x1, x2, xl, v0, v1, v2, v3, v4, v5, vl, y0, y1, y2, yl, hcc, hcd, hx1, hx2, hx3, hx4]) rfl ?_
    refine ⟨?_, (by repeat (first | with_reducible exact G2.out | with_reducible refine Gd.set ?_ (.inr (.inl rfl)) _ | with_reducible refine Gd.set ?_ (.inr (.inr rfl)) _ | with_reducible refine Gd.alloc ?_ _ | with_reducible refine Gd.drew ?_) : Gd B L L1 w b t dm st (fun x => x = w.heap.size ∨ x = C1 ∨ x = C2) _).out⟩
    rw [HQ.out, ← CE.out]
    rfl
end
end Go.Proofs.YtnkcbogikaebfaaGreatDoor
end

section
/- The walks of package tree: two, onto. -/
namespace Go.Proofs.YtnkcbogikaebfaaGreatDoor
open Go Go.RowKit
set_option maxRecDepth 100000
set_option linter.unusedSimpArgs false
set_option linter.unusedVariables false
attribute [local go_sem] giv
variable {E : Nat → Addr} {B : Nat}

section
variable {L : Nat → Prop} {w : World} {a b t dm : Nat} {st : St}
theorem tonto_any (ha : TA w a b) (hl : L a) (h : WB B L w b t dm st) (g : Good st) (n m : Nd) (hm : -9223372036854775808 ≤ m.id ∧ m.id ≤ 9223372036854775807) (hE : Env E B w) :
    Calls Tryz.prog 63 #[.pointer (some ⟨a, 0, none⟩), encN n, encN m] w fun e w' => e = .returned (errOf E (ontoC st n m)) ∧ WB B L w' b t dm st ∧ KeptP B L w w' := by
  have H := Lib.hid h
  have HE := Lib.hid hE
  have HA := Lib.hid ha
  have HG := Lib.hid g
  have C1 := Lib.hid (show errOf E 111 = errV E 2 from errOf_code (g := 2) (by decide))
  have C2 := Lib.hid (show errOf E 112 = errV E 3 from errOf_code (g := 3) (by decide))
  have C3 := Lib.hid (show errOf E 113 = errV E 5 from errOf_code (g := 5) (by decide))
  have e1 := hE.cell 2 (by decide)
  have l1 : 2 < w.heap.size := Nat.lt_of_lt_of_le (hE.glt _ (by decide)) hE.size
  have e2 := hE.cell 3 (by decide)
  have l2 : 3 < w.heap.size := Nat.lt_of_lt_of_le (hE.glt _ (by decide)) hE.size
  have l0 : 0 < w.heap.size := by omega
  have l1b : 2 ≤ w.heap.size := by omega
  have l2b : 3 ≤ w.heap.size := by omega
  obtain ⟨oc, hoc⟩ : ∃ oc, ontoC st n m = oc := ⟨_, rfl⟩
  rw [hoc]
  have HOC := Lib.hid hoc
  generalize hP : (fun (e : Ending) (w' : World) => e = .returned (errOf E oc) ∧ WB B L w' b t dm st ∧ KeptP B L w w') = Post
  have HP := Lib.hid hP
  clear hP h hE ha hl g hoc
  unfold ontoC at HOC
  obtain ⟨n1, n2, n3, n4, n5, n6⟩ := n
  obtain ⟨m1, m2, m3, m4, m5, m6⟩ := m
  simp only at HOC hm
  simp only [encN]
  have hbl : Below w.heap.size w ((w.alloc (.cells #[.int .i64 n1, .int .i64 n2, .int .i64 n3, .int .i64 n4, .string n5, .int .i64 n6] 39)).alloc (.cells #[.int .i64 m1, .int .i64 m2, .int .i64 m3, .int .i64 m4, .string m5, .int .i64 m6] 39)) := bl_alloc (bl_alloc (Below.refl _ _) _) _
  have HB := Lib.hid hbl
  have HW := Lib.hid (H.out.below hbl)
  have HK := Lib.hid (H.out.kept hbl)
  clear hbl
  by_cases hn : n2 = 2
  · subst hn
    by_cases hm2 : m2 = 2
    · subst hm2
      go_enter Tryz.func63, Tryz.ntmps63
      go_wp2_with fail
      refine (tfull_any (HA.out.below HB.out) HW.out HG.out hm).mono ?_
      rintro e w1 ⟨rfl, h1, k1⟩
      have H1 := Lib.hid h1
      have K1 := Lib.hid (HK.out.trans k1)
      have HE1 := Lib.hid (HE.out.keep K1.out.below)
      have e3 := HE1.out.cell 5 (by decide)
      have l3 : 5 < w1.heap.size := Nat.lt_of_lt_of_le (HE1.out.glt _ (by decide)) HE1.out.size
      clear h1 k1
      obtain ⟨fu, hfu⟩ : ∃ fu, st.full m1 = fu := ⟨_, rfl⟩
      have HFU := Lib.hid hfu
      rw [hfu]
      clear hfu
      cases fu with
      | true =>
        go_wp2
        rw [← HP.out]
        refine ⟨?_, H1.out, K1.out⟩
        rw [show oc = 113 by rw [← HOC.out, HFU.out]; decide, C3.out]
        rfl
      | false =>
        go_wp2
        rw [← HP.out]
        refine ⟨?_, H1.out, K1.out⟩
        rw [show oc = 0 by rw [← HOC.out, HFU.out]; decide]
        rfl
    · have hb1 : (m2 == 2) = false := by rw [beq_eq_false_iff_ne]; exact hm2
      have hb2 : (m2 != 2) = true := by simp [bne, hb1]
      have HQ : Hid (oc = 111) := Lib.hid (by rw [← HOC.out, if_pos ⟨rfl, hm2⟩])
      clear hm2
      go_enter Tryz.func63, Tryz.ntmps63
      go_wp2
      rw [← HP.out]
      refine ⟨?_, HW.out, HK.out⟩
      first | (rw [HQ.out, C1.out]; done) | (rw [HQ.out, C1.out]; rfl)
  · have hb3 : (n2 == 2) = false := by rw [beq_eq_false_iff_ne]; exact hn
    have hb4 : (n2 != 2) = true := by simp [bne, hb3]
    by_cases hm2 : m2 = 2
    · subst hm2
      have HQ : Hid (oc = 112) := Lib.hid (by rw [← HOC.out, if_neg (fun h => hn h.1), if_pos ⟨hn, rfl⟩])
      clear hn
      go_enter Tryz.func63, Tryz.ntmps63
      go_wp2
      rw [← HP.out]
      refine ⟨?_, HW.out, HK.out⟩
      first | (rw [HQ.out, C2.out]; done) | (rw [HQ.out, C2.out]; rfl)
    · have hb1 : (m2 == 2) = false := by rw [beq_eq_false_iff_ne]; exact hm2
      have hb2 : (m2 != 2) = true := by simp [bne, hb1]
      have HQ : Hid (oc = 0) := Lib.hid (by rw [← HOC.out, if_neg (fun h => hn h.1), if_neg (fun h => hm2 h.2), if_neg (fun h => hm2 h.1)])
      clear hn hm2
      go_enter Tryz.func63, Tryz.ntmps63
      go_wp2
      rw [← HP.out]
      refine ⟨?_, HW.out, HK.out⟩
      rw [HQ.out]
      rfl
/-- What two answers. -/
def TwoR (E : Nat → Addr) (x y : ByteArray) (w : World) (e : Ending) (w' : World) : Prop :=
  (∃ sp1 n1 c1 s1 sp2 n2 c2 s2 c, e = .returned (.tuple #[.agg #[.slice sp1 n1 c1, .bool s1], .agg #[.slice sp2 n2 c2, .bool s2], errOf E c]) ∧
    (((parseP x).1 ≠ 0 ∧ c = (parseP x).1) ∨ ((parseP x).1 = 0 ∧ c = (parseP y).1 ∧ s1 = (parseP x).2.slash ∧ s2 = (parseP y).2.slash ∧ SlS w' w.heap.size (.slice sp1 n1 c1) (parseP x).2.parts ∧ SlS w' w.heap.size (.slice sp2 n2 c2) (parseP y).2.parts))) ∧ Below w.heap.size w w'
set_option maxHeartbeats 2000000 in
theorem ttwo_any (x y : ByteArray) (w : World) (hE : EnvM E B w) : Calls Tryz.prog 60 #[.string x, .string y] w (TwoR E x y w) := by
  have HE := Lib.hid hE
  generalize hP : TwoR E x y w = Post
  have HP := Lib.hid hP
  clear hE hP
  go_enter Tryz.func60, Tryz.ntmps60
  go_wp2_with fail
  obtain ⟨w1, hw1⟩ : ∃ w1, w1 = (w.alloc (.cells #[.slice none 0 0, .bool false] 127)).alloc (.cells #[.slice none 0 0, .bool false] 127) := ⟨_, rfl⟩
  have b1 : Below w.heap.size w w1 := by rw [hw1]; exact bl_alloc (bl_alloc (Below.refl _ _) _) _
  have z1 : w1.heap.size = w.heap.size + 2 := by rw [hw1]; simp
  have ra1 : Row w1 w.heap.size 127 [.slice none 0 0, .bool false] := by rw [hw1]; exact (Row.new w _ [.slice none 0 0, .bool false]).alloc _
  have rb1 : Row w1 (w.heap.size + 1) 127 [.slice none 0 0, .bool false] := by
    have := Row.new (w.alloc (.cells #[.slice none 0 0, .bool false] 127)) 127 [.slice none 0 0, .bool false]
    rw [hw1]
    simpa using this
  rw [← hw1]
  have HE1 := Lib.hid (HE.out.below b1)
  have B1 := Lib.hid b1
  have RA1 := Lib.hid ra1
  have RB1 := Lib.hid rb1
  clear hw1 ra1 rb1 b1
  refine (parse_any x w1 HE1.out).mono ?_
  rintro e w2 ⟨⟨v, rfl, hs2⟩, hb2⟩
  obtain ⟨sp2, cap2, rfl⟩ := slShape hs2
  have HS2 := Lib.hid hs2
  have HE2 := Lib.hid (HE1.out.below hb2)
  have B2 := Lib.hid (B1.out.trans (hb2.mono B1.out.size))
  have RA2 := Lib.hid (RA1.out.below hb2)
  have RB2 := Lib.hid (RB1.out.below hb2)
  have Z1 := Lib.hid z1
  clear hs2 hb2 RA1 RB1 B1 HE1 z1
  generalize hCC : w.heap.size + 1 = CC at *
  have hac : ¬ w.heap.size = CC := by omega
  have hca : ¬ CC = w.heap.size := by omega
  have HCC := Lib.hid hCC
  clear hCC
  rcases path_code x with hz | hz
  · rw [hz, show errOf E 0 = .nilIface from rfl]
    have HZ := Lib.hid hz
    clear hz
    go_wp2_with fail
    have b23 := bl_alloc (Below.refl w2.heap.size w2) (.cells #[.slice sp2 (parseP x).2.parts.length cap2, .bool (parseP x).2.slash] 127)
    refine (parse_any y _ (HE2.out.below b23)).mono ?_
    rintro e w3 ⟨⟨v, rfl, hs3⟩, hb3⟩
    obtain ⟨sp3, cap3, rfl⟩ := slShape hs3
    have rp3 := (Row.new w2 127 [.slice sp2 (parseP x).2.parts.length cap2, .bool (parseP x).2.slash]).below hb3
    have hb23 := bl_trans b23 hb3
    have HS3 := Lib.hid hs3
    have HS2' := Lib.hid (HS2.out.below hb23)
    have B3 := Lib.hid (B2.out.trans (hb23.mono B2.out.size))
    have RA3 := Lib.hid (RA2.out.below hb23)
    have RB3 := Lib.hid (RB2.out.below hb23)
    have RP3 := Lib.hid rp3
    have p2l := rp3.lt
    clear hs3 hb3 hb23 b23 rp3
    go_wp2_with fail
    obtain ⟨w4, hw4⟩ : ∃ w4, w4 = w3.alloc (.cells #[.slice sp3 (parseP y).2.parts.length cap3, .bool (parseP y).2.slash] 127) := ⟨_, rfl⟩
    have b34 : Below w3.heap.size w3 w4 := by rw [hw4]; exact bl_alloc (Below.refl _ _) _
    have rq4 : Row w4 w3.heap.size 127 [.slice sp3 (parseP y).2.parts.length cap3, .bool (parseP y).2.slash] := by rw [hw4]; exact Row.new w3 _ [.slice sp3 (parseP y).2.parts.length cap3, .bool (parseP y).2.slash]
    rw [← hw4]
    clear hw4
    have RA4 := RA3.out.below b34
    have RB4 := RB3.out.below b34
    have RP4 := RP3.out.below b34
    have a0 : w4.cell? ⟨w.heap.size, 0, none⟩ = some (.slice none 0 0) := (RA4.cell 0).trans rfl
    have a1 : w4.cell? ⟨w.heap.size, 1, none⟩ = some (.bool false) := (RA4.cell 1).trans rfl
    have af : ∀ i, w4.frozen? ⟨w.heap.size, i, none⟩ = false := fun i => RA4.froz i
    have al : w.heap.size < w4.heap.size := RA4.lt
    have c0 : w4.cell? ⟨CC, 0, none⟩ = some (.slice none 0 0) := (RB4.cell 0).trans rfl
    have c1 : w4.cell? ⟨CC, 1, none⟩ = some (.bool false) := (RB4.cell 1).trans rfl
    have cf : ∀ i, w4.frozen? ⟨CC, i, none⟩ = false := fun i => RB4.froz i
    have cl : CC < w4.heap.size := RB4.lt
    have p0 : w4.cell? ⟨w2.heap.size, 0, none⟩ = some (.slice sp2 (parseP x).2.parts.length cap2) := (RP4.cell 0).trans rfl
    have p1 : w4.cell? ⟨w2.heap.size, 1, none⟩ = some (.bool (parseP x).2.slash) := (RP4.cell 1).trans rfl
    have pl : w2.heap.size < w4.heap.size := RP4.lt
    have q0 : w4.cell? ⟨w3.heap.size, 0, none⟩ = some (.slice sp3 (parseP y).2.parts.length cap3) := (rq4.cell 0).trans rfl
    have q1 : w4.cell? ⟨w3.heap.size, 1, none⟩ = some (.bool (parseP y).2.slash) := (rq4.cell 1).trans rfl
    have ql : w3.heap.size < w4.heap.size := rq4.lt
    have ha2 := RA2.out.lt
    have hc2 := RB2.out.lt
    have n1 : ¬ w.heap.size = w2.heap.size := by omega
    have n2 : ¬ w2.heap.size = w.heap.size := by omega
    have n3 : ¬ CC = w2.heap.size := by omega
    have n4 : ¬ w2.heap.size = CC := by omega
    have n5 : ¬ w.heap.size = w3.heap.size := by omega
    have n6 : ¬ w3.heap.size = w.heap.size := by omega
    have n7 : ¬ CC = w3.heap.size := by omega
    have n8 : ¬ w3.heap.size = CC := by omega
    have hsz := B3.out.size
    have HS4 := Lib.hid (HS3.out.below b34)
    have HS5 := Lib.hid (HS2'.out.below b34)
    have B4 := Lib.hid (B3.out.trans (b34.mono B3.out.size))
    have HN := Lib.hid (And.intro ha2 hc2)
    clear RA4 RB4 RP4 rq4 b34 ha2 hc2 hsz RA3 RB3 RP3 RA2 RB2 HS2 HS3 HS2' B3 B2 HE2 p2l
    go_region
    go_wp2
    rw [← HP.out]
    refine bodyPost_ret (v := .tuple #[.agg #[.slice sp2 (parseP x).2.parts.length cap2, .bool (parseP x).2.slash], .agg #[.slice sp3 (parseP y).2.parts.length cap3, .bool (parseP y).2.slash], errOf E (parseP y).1]) (by simp [results, Tryz.results60, go_sem, a0, a1, al, c0, c1, cl, hac, hca, p0, p1, pl, q0, q1, ql, n1, n2, n3, n4, n5, n6, n7, n8]) rfl ?_
    have hle : w.heap.size ≤ CC := by have := HCC.out; omega
    have hla : w.heap.size ≤ w.heap.size := Nat.le_refl _
    have ht : ∀ u0 u1 u2 u3, Touch (fun x => x = w.heap.size ∨ x = CC) w4 ((((w4.setCell ⟨w.heap.size, 0, none⟩ u0).setCell ⟨w.heap.size, 1, none⟩ u1).setCell ⟨CC, 0, none⟩ u2).setCell ⟨CC, 1, none⟩ u3).drew := fun u0 u1 u2 u3 =>
      Touch.drew (Touch.setCell (S := fun x => x = w.heap.size ∨ x = CC) (Touch.setCell (S := fun x => x = w.heap.size ∨ x = CC) (Touch.setCell (S := fun x => x = w.heap.size ∨ x = CC) (Touch.setCell (S := fun x => x = w.heap.size ∨ x = CC) (Touch.refl _ _) (.inl (.inl rfl)) _) (.inl (.inl rfl)) _) (.inl (.inr rfl)) _) (.inl (.inr rfl)) _)
    refine ⟨⟨sp2, _, cap2, _, sp3, _, cap3, _, _, rfl, .inr ⟨HZ.out, rfl, rfl, rfl, ?_, ?_⟩⟩, ?_⟩
    · refine SlE.touch (HS5.out.mono (by have := Z1.out; omega)) (ht _ _ _ _) (fun x hx he => ?_)
      have h1 := (HS5.out.lt x hx).1
      have h2 := Z1.out
      have h3 := HCC.out
      rcases he with rfl | rfl <;> omega
    · refine SlE.touch (HS4.out.mono (by have := HN.out.1; simp; omega)) (ht _ _ _ _) (fun x hx he => ?_)
      have h1 := (HS4.out.lt x hx).1
      have h2 := HN.out
      simp at h1
      rcases he with rfl | rfl <;> omega
    · repeat (first | with_reducible exact B4.out | with_reducible refine Below.setCell ?_ hla _ | with_reducible refine Below.setCell ?_ hle _ | with_reducible refine Below.drew ?_ | with_reducible refine bl_alloc ?_ _)
  · obtain ⟨ad, had⟩ := errOf_some (E := E) hz
    have HZ := Lib.hid hz
    rw [had]
    have CE := Lib.hid had
    have a0 : w2.cell? ⟨w.heap.size, 0, none⟩ = some (.slice none 0 0) := (RA2.out.cell 0).trans rfl
    have a1 : w2.cell? ⟨w.heap.size, 1, none⟩ = some (.bool false) := (RA2.out.cell 1).trans rfl
    have af : ∀ i, w2.frozen? ⟨w.heap.size, i, none⟩ = false := fun i => RA2.out.froz i
    have al : w.heap.size < w2.heap.size := RA2.out.lt
    have c0 : w2.cell? ⟨CC, 0, none⟩ = some (.slice none 0 0) := (RB2.out.cell 0).trans rfl
    have c1 : w2.cell? ⟨CC, 1, none⟩ = some (.bool false) := (RB2.out.cell 1).trans rfl
    have cf : ∀ i, w2.frozen? ⟨CC, i, none⟩ = false := fun i => RB2.out.froz i
    have cl : CC < w2.heap.size := RB2.out.lt
    have hle : w.heap.size ≤ CC := by have := HCC.out; omega
    have hla : w.heap.size ≤ w.heap.size := Nat.le_refl _
    clear had hz HS2
    go_wp2
    rw [← HP.out]
    refine bodyPost_ret (v := .tuple #[.agg #[.slice none 0 0, .bool false], .agg #[.slice none 0 0, .bool false], .iface 246 (.pointer (some ad))]) (by simp [results, Tryz.results60, go_sem, a0, a1, al, c0, c1, cl, hac, hca]) rfl ?_
    refine ⟨⟨none, 0, 0, false, none, 0, 0, false, (parseP x).1, by rw [CE.out], .inl ⟨by have := HZ.out; omega, rfl⟩⟩, ?_⟩
    repeat (first | with_reducible exact B2.out | with_reducible refine Below.setCell ?_ hla _ | with_reducible refine Below.setCell ?_ hle _ | with_reducible refine Below.drew ?_ | with_reducible refine bl_alloc ?_ _)
end
end Go.Proofs.YtnkcbogikaebfaaGreatDoor
end
