/- Merged texts: BodyX BodyGrid BodyPlay BodySame BodyRow. -/
import Derived.Test.YtnkcbogikaebfaaDoorBase13
import Derived.Test.YtnkcbogikaebfaaDoorBase21
section
/- A body among other blocks of a law's own. -/
namespace Go.Proofs.YtnkcbogikaebfaaDoor
open Go Go.RowKit
set_option maxRecDepth 100000
set_option linter.unusedSimpArgs false
variable {E : Nat → Addr} {B : Nat}

theorem MapAt.keys {P : Program} {kt : TypeId} {K V : Type} {eK : K → Value} {eV : V → Value} {w : World} {r n : Nat} {g : K → Option V} {t et : TypeId} (h : MapAt P kt eK eV w r g n) (ht : P.underlying t = some (.map kt et)) (hinj : ∀ a b, eK a = eK b → a = b) :
    ∃ ks : List K, KeysOf g ks n := by
  obtain ⟨w', ks, _, h1, h2, h3, _⟩ := h.range ht hinj
  obtain ⟨es, clock, since, seen, c0, _, _, _, _, _, _, _, _, h9, _⟩ := h1
  exact ⟨ks, h9, h2, h3⟩
theorem nodup_len {K : Type} [DecidableEq K] : ∀ {ks L : List K}, ks.Nodup → (∀ k ∈ ks, k ∈ L) → ks.length ≤ L.length
  | [], _, _, _ => Nat.zero_le _
  | k :: ks, L, hn, hs => by
    obtain ⟨h1, h2⟩ := List.nodup_cons.1 hn
    have hk := hs k (List.mem_cons_self ..)
    have h3 := nodup_len (L := L.erase k) h2 fun x hx => (List.mem_erase_of_ne (fun e : x = k => h1 (by rw [← e]; exact hx))).2 (hs x (List.mem_cons_of_mem _ hx))
    rw [List.length_erase_of_mem hk] at h3
    have := List.length_pos_of_mem hk
    simp
    omega
theorem KeysOf.le {K V : Type} [DecidableEq K] {g : K → Option V} {ks : List K} {n : Nat} (h : KeysOf g ks n) {L : List K} (hL : ∀ k, (g k).isSome = true → k ∈ L) : n ≤ L.length := by
  rw [← h.len]
  exact nodup_len h.nodup fun k hk => hL k ((h.mem k).1 hk)
theorem KeysOf.len_eq {K V : Type} {g : K → Option V} {ks : List K} {n : Nat} (h : KeysOf g ks n) {L : List K} (hd : L.Nodup) (hL : ∀ k, k ∈ L ↔ (g k).isSome = true) : ks.length = L.length :=
  ((List.perm_ext_iff_of_nodup h.nodup hd).2 fun k => (h.mem k).trans (hL k).symm).length_eq

theorem SlE.shape {α : Type} {w : World} {base : Nat} {e : TypeId} {k : Nat} {enc : α → List Value} {v : Value} {xs : List α} (h : SlE w base e k enc v xs) : ∃ sp cap, v = .slice sp xs.length cap := by
  rcases h.cases with ⟨rfl, rfl⟩ | ⟨g, cap, rfl, _⟩
  · exact ⟨_, _, rfl⟩
  · exact ⟨_, _, rfl⟩
theorem nodup_len_eq {K : Type} [DecidableEq K] {a b : List K} (ha : a.Nodup) (hb : b.Nodup) (h : ∀ k, k ∈ a ↔ k ∈ b) : a.length = b.length :=
  Nat.le_antisymm (nodup_len ha fun k hk => (h k).1 hk) (nodup_len hb fun k hk => (h k).2 hk)
/-- b is a body (its maps m, d) that has g, with gd dirty; its blocks lie from B on; they, and its blocks' bytes, are none of L. -/
structure BX (B : Nat) (L : List Nat) (w : World) (b m d : Nat) (g : Cl → Option (Option (List Int))) (gd : Cl → Option Int) : Prop where
  hB : B ≤ w.heap.size
  hL : ∀ x ∈ L, x < w.heap.size
  at' : ∃ n k, BodyAt w (fun x => x = b ∨ x = m ∨ x = d ∨ x ∈ L) b m d g gd n k
  own : ∀ x, x = b ∨ x = m ∨ x = d → B ≤ x ∧ x < w.heap.size ∧ x ∉ L

section
variable {L : List Nat} {w w' : World} {b m d : Nat} {g : Cl → Option (Option (List Int))} {gd : Cl → Option Int}
theorem BX.below (h : BX B L w b m d g gd) (hb : Below w.heap.size w w') : BX B L w' b m d g gd := by
  obtain ⟨h1, h2, ⟨n, k, h3⟩, h4⟩ := h
  exact ⟨Nat.le_trans h1 hb.size, fun x hx => Nat.lt_of_lt_of_le (h2 x hx) hb.size, ⟨n, k, h3.below hb⟩, fun x hx => ⟨(h4 x hx).1, Nat.lt_of_lt_of_le (h4 x hx).2.1 hb.size, (h4 x hx).2.2⟩⟩
/-- Where others of L turn. -/
theorem BX.touch {S : Nat → Prop} (h : BX B L w b m d g gd) (ht : Touch S w w') (hS : ∀ x, S x → x ∈ L) : BX B L w' b m d g gd := by
  obtain ⟨h1, h2, ⟨n, k, h3⟩, h4⟩ := h
  refine ⟨Nat.le_trans h1 ht.size, fun x hx => Nat.lt_of_lt_of_le (h2 x hx) ht.size, ⟨n, k, h3.touch ht fun x hx => ⟨.inr (.inr (.inr (hS x hx))), ?_, ?_, ?_⟩⟩, fun x hx => ⟨(h4 x hx).1, Nat.lt_of_lt_of_le (h4 x hx).2.1 ht.size, (h4 x hx).2.2⟩⟩
  · rintro rfl; exact (h4 x (.inl rfl)).2.2 (hS x hx)
  · rintro rfl; exact (h4 x (.inr (.inl rfl))).2.2 (hS x hx)
  · rintro rfl; exact (h4 x (.inr (.inr rfl))).2.2 (hS x hx)
/-- New blocks of the law's own. -/
theorem BX.add (h : BX B L w b m d g gd) (hb : Below w.heap.size w w') (L2 : List Nat) (h2 : ∀ x ∈ L2, w.heap.size ≤ x ∧ x < w'.heap.size) : BX B (L2 ++ L) w' b m d g gd := by
  obtain ⟨a1, a2, ⟨n, k, a3⟩, a4⟩ := h
  refine ⟨Nat.le_trans a1 hb.size, fun x hx => ?_, ⟨n, k, (a3.more (fun x hx => ?_) (fun x hx => ?_)).below hb⟩, fun x hx => ⟨(a4 x hx).1, Nat.lt_of_lt_of_le (a4 x hx).2.1 hb.size, fun hl => ?_⟩⟩
  · rcases List.mem_append.1 hx with hx | hx
    · exact (h2 x hx).2
    · exact Nat.lt_of_lt_of_le (a2 x hx) hb.size
  · rcases hx with hx | hx | hx | hx
    · exact .inl (.inl hx)
    · exact .inl (.inr (.inl hx))
    · exact .inl (.inr (.inr (.inl hx)))
    · rcases List.mem_append.1 hx with hx | hx
      · exact .inr (h2 x hx).1
      · exact .inl (.inr (.inr (.inr hx)))
  · rcases hx with hx | hx | hx | hx
    · exact .inl hx
    · exact .inr (.inl hx)
    · exact .inr (.inr (.inl hx))
    · exact .inr (.inr (.inr (List.mem_append_right _ hx)))
  · rcases List.mem_append.1 hl with hl | hl
    · have := (h2 x hl).1
      have := (a4 x hx).2.1
      omega
    · exact (a4 x hx).2.2 hl
theorem BX.less {L' : List Nat} (h : BX B L w b m d g gd) (hs : ∀ x ∈ L', x ∈ L) : BX B L' w b m d g gd := by
  obtain ⟨a1, a2, ⟨n, k, a3⟩, a4⟩ := h
  refine ⟨a1, fun x hx => a2 x (hs x hx), ⟨n, k, a3.less (fun x hx => ?_) (.inl rfl) (.inr (.inl rfl)) (.inr (.inr (.inl rfl)))⟩, fun x hx => ⟨(a4 x hx).1, (a4 x hx).2.1, fun hl => (a4 x hx).2.2 (hs x hl)⟩⟩
  rcases hx with hx | hx | hx | hx
  · exact .inl hx
  · exact .inr (.inl hx)
  · exact .inr (.inr (.inl hx))
  · exact .inr (.inr (.inr (hs x hx)))
theorem BX.mono {B' : Nat} (h : BX B L w b m d g gd) (hB : B' ≤ B) : BX B' L w b m d g gd := ⟨Nat.le_trans hB h.hB, h.hL, h.at', fun x hx => ⟨Nat.le_trans hB (h.own x hx).1, (h.own x hx).2⟩⟩

/-- What a turn of the body leaves. -/
def BXOut (B : Nat) (L : List Nat) (b m d : Nat) (g : Cl → Option (Option (List Int))) (gd : Cl → Option Int) (w w' : World) : Prop :=
  BX B L w' b m d g gd ∧ Touch (fun x => x = b ∨ x = m ∨ x = d) w w'
theorem BX.out {g' : Cl → Option (Option (List Int))} {gd' : Cl → Option Int} (h : BX B L w b m d g gd) (ho : BodyOut (fun x => x = b ∨ x = m ∨ x = d ∨ x ∈ L) b m d g' gd' w w') : BXOut B L b m d g' gd' w w' := by
  obtain ⟨h1, h2⟩ := ho
  have ht : Touch (fun x => x = b ∨ x = m ∨ x = d) w w' := h2.mono fun x hx _ => .inr hx
  exact ⟨⟨Nat.le_trans h.hB ht.size, fun x hx => Nat.lt_of_lt_of_le (h.hL x hx) ht.size, h1, fun x hx => ⟨(h.own x hx).1, Nat.lt_of_lt_of_le (h.own x hx).2.1 ht.size, (h.own x hx).2.2⟩⟩, ht⟩
theorem BXOut.kept (h : BX B L w b m d g gd) {g' : Cl → Option (Option (List Int))} {gd' : Cl → Option Int} (ho : BXOut B L b m d g' gd' w w') : Kept B L w w' :=
  Kept.of_touch ho.2 h.hB h.hL fun x hx => ⟨(h.own x hx).1, (h.own x hx).2.2⟩
theorem BX.kept (h : BX B L w b m d g gd) (hb : Below w.heap.size w w') : Kept B L w w' := Kept.of_below hb h.hB h.hL
theorem BX.olt (h : BX B L w b m d g gd) : ∀ x, (x = b ∨ x = m ∨ x = d ∨ x ∈ L) → x < w.heap.size := by
  rintro x (hx | hx | hx | hx)
  · exact (h.own x (.inl hx)).2.1
  · exact (h.own x (.inr (.inl hx))).2.1
  · exact (h.own x (.inr (.inr hx))).2.1
  · exact h.hL x hx

theorem bx_new (w : World) (L : List Nat) (hL : ∀ x ∈ L, x < w.heap.size) (hB : B ≤ w.heap.size) : Calls Tryd.prog 5 #[] w fun e w' =>
    (∃ b m d, e = .returned (.pointer (some ⟨b, 0, none⟩)) ∧ BX B L w' b m d (fun _ => none) (fun _ => none) ∧ w.heap.size ≤ b ∧ w.heap.size ≤ m ∧ w.heap.size ≤ d) ∧ Below w.heap.size w w' := by
  refine (bnew_any w (fun x => w.heap.size ≤ x ∨ x ∈ L) (fun _ h => .inl h)).mono ?_
  rintro e w' ⟨rfl, hb, hbel⟩
  refine ⟨⟨_, _, _, rfl, ⟨Nat.le_trans hB hbel.size, fun x hx => Nat.lt_of_lt_of_le (hL x hx) hbel.size, ⟨0, 0, hb.less (fun x hx => ?_) (.inl rfl) (.inr (.inl rfl)) (.inr (.inr (.inl rfl)))⟩, fun x hx => ⟨by omega, ?_, fun hl => by have := hL x hl; omega⟩⟩, by omega, by omega, by omega⟩, hbel⟩
  · rcases hx with hx | hx | hx | hx
    · exact .inl (by omega)
    · exact .inl (by omega)
    · exact .inl (by omega)
    · exact .inr hx
  · have := hb.lt; have := hb.ltm; have := hb.ltd; omega

variable {c : Cl}
theorem bx_has (h : BX B L w b m d g gd) (h1 : In64 c.1) (h2 : In64 c.2) : Calls Tryd.prog 19 #[.pointer (some ⟨b, 0, none⟩), .agg #[.int .i64 c.1, .int .i64 c.2]] w fun e w' => e = .returned (.bool (g c).isSome) ∧ Below w.heap.size w w' := by
  obtain ⟨n, k, h3⟩ := h.at'
  exact bhas_any h3 h1 h2
theorem bx_set (h : BX B L w b m d g gd) (hok : cellOk c) {sp : Option Addr} {cap : Nat} {l : List Int} (hl : l.length ≤ 256) (hin : SlIn w sp l) :
    Calls Tryd.prog 9 #[.pointer (some ⟨b, 0, none⟩), .agg #[.int .i64 c.1, .int .i64 c.2], .slice sp l.length cap] w fun e w' =>
      e = .returned .nilIface ∧ BXOut B L b m d (upd g c (some (pad l))) (upd gd c 1) w w' := by
  obtain ⟨n, k, h3⟩ := h.at'
  exact (bset_ok h3 hok hl hin h.olt).mono fun e w' ⟨he, ho⟩ => ⟨he, h.out ho⟩
theorem bx_lose_no (h : BX B L w b m d g gd) (h1 : In64 c.1) (h2 : In64 c.2) (hg : g c = none) :
    Calls Tryd.prog 11 #[.pointer (some ⟨b, 0, none⟩), .agg #[.int .i64 c.1, .int .i64 c.2]] w fun e w' => e = .returned (.bool false) ∧ Below w.heap.size w w' := by
  obtain ⟨n, k, h3⟩ := h.at'
  exact blose_no h3 h1 h2 hg
theorem bx_lose (h : BX B L w b m d g gd) (h1 : In64 c.1) (h2 : In64 c.2) {o : Option (List Int)} (hg : g c = some o) :
    Calls Tryd.prog 11 #[.pointer (some ⟨b, 0, none⟩), .agg #[.int .i64 c.1, .int .i64 c.2]] w fun e w' => e = .returned (.bool true) ∧ BXOut B L b m d (upd g c none) (del gd c) w w' := by
  obtain ⟨n, k, h3⟩ := h.at'
  exact (blose_ok h3 h1 h2 hg).mono fun e w' ⟨he, ho⟩ => ⟨he, h.out ho⟩
theorem bx_del_no (h : BX B L w b m d g gd) (h1 : In64 c.1) (h2 : In64 c.2) (hg : g c = none) :
    Calls Tryd.prog 12 #[.pointer (some ⟨b, 0, none⟩), .agg #[.int .i64 c.1, .int .i64 c.2]] w fun e w' => e = .returned (.bool false) ∧ Below w.heap.size w w' := by
  obtain ⟨n, k, h3⟩ := h.at'
  exact bdel_no h3 h1 h2 hg
theorem bx_del (h : BX B L w b m d g gd) (h1 : In64 c.1) (h2 : In64 c.2) {o : Option (List Int)} (hg : g c = some o) :
    Calls Tryd.prog 12 #[.pointer (some ⟨b, 0, none⟩), .agg #[.int .i64 c.1, .int .i64 c.2]] w fun e w' => e = .returned (.bool true) ∧ BXOut B L b m d (del g c) (upd gd c 1) w w' := by
  obtain ⟨n, k, h3⟩ := h.at'
  exact (bdel_ok h3 h1 h2 hg).mono fun e w' ⟨he, ho⟩ => ⟨he, h.out ho⟩
theorem bx_get_none (h : BX B L w b m d g gd) (h1 : In64 c.1) (h2 : In64 c.2) (hg : g c = none) :
    Calls Tryd.prog 18 #[.pointer (some ⟨b, 0, none⟩), .agg #[.int .i64 c.1, .int .i64 c.2]] w fun e w' =>
      (∃ v, e = .returned (.tuple #[v, .nilIface]) ∧ RdB w' v (pad [])) ∧ Below w.heap.size w w' := by
  obtain ⟨n, k, h3⟩ := h.at'
  refine (bget_none h3 h1 h2 hg).mono ?_
  rintro e w' ⟨⟨h', cap, rfl, _, hb⟩, hbel⟩
  exact ⟨⟨_, rfl, by rw [pad_nil]; exact RdB.of_buf' hb (by rw [List.length_replicate])⟩, hbel⟩
theorem bx_get_some (h : BX B L w b m d g gd) (h1 : In64 c.1) (h2 : In64 c.2) {l : List Int} (hg : g c = some (some l)) (hl : l.length = 256) :
    Calls Tryd.prog 18 #[.pointer (some ⟨b, 0, none⟩), .agg #[.int .i64 c.1, .int .i64 c.2]] w fun e w' =>
      (∃ v, e = .returned (.tuple #[v, .nilIface]) ∧ RdB w' v l) ∧ Below w.heap.size w w' := by
  obtain ⟨n, k, h3⟩ := h.at'
  refine (bget_some h3 h1 h2 hg).mono ?_
  rintro e w' ⟨⟨h', cap, rfl, _, hb⟩, hbel⟩
  exact ⟨⟨_, rfl, RdB.of_buf' hb hl⟩, hbel⟩
theorem bx_get_lost (h : BX B L w b m d g gd) (h1 : In64 c.1) (h2 : In64 c.2) (hg : g c = some none) (hE : Env E B w) :
    Calls Tryd.prog 18 #[.pointer (some ⟨b, 0, none⟩), .agg #[.int .i64 c.1, .int .i64 c.2]] w fun e w' => e = .returned (.tuple #[.slice none 0 0, errV E 1]) ∧ Below w.heap.size w w' := by
  obtain ⟨n, k, h3⟩ := h.at'
  exact bget_lost h3 h1 h2 hg hE
theorem bx_clean (h : BX B L w b m d g gd) :
    Calls Tryd.prog 13 #[.pointer (some ⟨b, 0, none⟩)] w fun e w' => e = .returned (.tuple #[]) ∧ ∃ d', BX B L w' b m d' g (fun _ => none) ∧ w.heap.size ≤ d' ∧ Touch (fun x => x = b) w w' := by
  obtain ⟨n, k, h3⟩ := h.at'
  refine (bclean_any h3 h.olt).mono ?_
  rintro e w' ⟨rfl, hb, ht⟩
  refine ⟨rfl, w.heap.size, ⟨Nat.le_trans h.hB ht.size, fun x hx => Nat.lt_of_lt_of_le (h.hL x hx) ht.size, ⟨n, 0, hb.less (fun x hx => ?_) (.inl rfl) (.inr (.inl rfl)) (.inr (.inr (.inl rfl)))⟩, fun x hx => ?_⟩, Nat.le_refl _, ht⟩
  · rcases hx with hx | hx | hx | hx
    · exact .inl (.inl hx)
    · exact .inl (.inr (.inl hx))
    · exact .inr hx
    · exact .inl (.inr (.inr (.inr hx)))
  · have h1 := hb.lt; have h2 := hb.ltm; have h3 := hb.ltd
    rcases hx with rfl | rfl | rfl
    · exact ⟨(h.own x (.inl rfl)).1, h1, (h.own x (.inl rfl)).2.2⟩
    · exact ⟨(h.own x (.inr (.inl rfl))).1, h2, (h.own x (.inr (.inl rfl))).2.2⟩
    · exact ⟨h.hB, h3, fun hl => absurd (h.hL _ hl) (Nat.lt_irrefl _)⟩
theorem bx_clone (h : BX B L w b m d g gd) :
    Calls Tryd.prog 6 #[.pointer (some ⟨b, 0, none⟩)] w fun e w' =>
      (∃ b' m' d', e = .returned (.pointer (some ⟨b', 0, none⟩)) ∧ BX B (b :: m :: d :: L) w' b' m' d' g gd ∧ w.heap.size ≤ b' ∧ w.heap.size ≤ m' ∧ w.heap.size ≤ d') ∧ Below w.heap.size w w' := by
  obtain ⟨n, k, h3⟩ := h.at'
  refine (bclone_any h3).mono ?_
  rintro e w' ⟨⟨b', m', d', rfl, e1, e2, e3, hb⟩, hbel⟩
  refine ⟨⟨b', m', d', rfl, ⟨Nat.le_trans h.hB hbel.size, fun x hx => ?_, ⟨n, k, hb.less (fun x hx => ?_) (.inl rfl) (.inr (.inl rfl)) (.inr (.inr (.inl rfl)))⟩, fun x hx => ?_⟩, e1, e2, e3⟩, hbel⟩
  · refine Nat.lt_of_lt_of_le (h.olt x ?_) hbel.size
    simpa [List.mem_cons] using hx
  · rcases hx with hx | hx | hx | hx
    · exact .inr (by omega)
    · exact .inr (by omega)
    · exact .inr (by omega)
    · exact .inl (by simpa [List.mem_cons] using hx)
  · have h4 : w.heap.size ≤ x := by omega
    refine ⟨Nat.le_trans h.hB h4, ?_, fun hl => ?_⟩
    · have := hb.lt; have := hb.ltm; have := hb.ltd; omega
    · have := h.olt x (by simpa [List.mem_cons] using hl); omega
theorem bx_dirty (h : BX B L w b m d g gd) {S : List Cl} (hS : ∀ c, (gd c).isSome = true → c ∈ S) (hl : S.length ≤ 1000000) :
    Calls Tryd.prog 7 #[.pointer (some ⟨b, 0, none⟩)] w fun e w' =>
      (∃ v zs, e = .returned v ∧ zs.Nodup ∧ (∀ c, c ∈ zs ↔ (gd c).isSome = true) ∧ zs.Pairwise cLt ∧ SlE w' w.heap.size 24 2 encK v zs ∧ zs.length ≤ S.length) ∧ Below w.heap.size w w' := by
  obtain ⟨n, k, h3⟩ := h.at'
  obtain ⟨ks, hk⟩ := h3.dirty.keys Tryd.underlying52 encC_inj
  have hk2 := hk.le hS
  refine (bdirty_any h3 (by omega)).mono ?_
  rintro e w' ⟨⟨v, zs, rfl, h4, h5, h6⟩, hb⟩
  exact ⟨⟨v, zs, rfl, h4.nodup, h4.mem, h5, h6, by rw [h4.len]; exact hk2⟩, hb⟩
theorem BX.hasN (h : BX B L w b m d g gd) {S : List Cl} (hS : ∀ c, (g c).isSome = true → c ∈ S) : ∃ n k, BodyAt w (fun x => x = b ∨ x = m ∨ x = d ∨ x ∈ L) b m d g gd n k ∧ n ≤ S.length := by
  obtain ⟨n, k, h3⟩ := h.at'
  obtain ⟨gv, h4, h5⟩ := h3.has
  obtain ⟨ks, hk⟩ := h4.keys Tryd.underlying51 encC_inj
  refine ⟨n, k, h3, hk.le fun c hc => hS c ?_⟩
  rcases h5 c with ⟨e1, _⟩ | ⟨v, o, e1, e2, _⟩
  · rw [e1] at hc; cases hc
  · rw [e2]; rfl
theorem bx_lost (h : BX B L w b m d g gd) {S : List Cl} (hS : ∀ c, (g c).isSome = true → c ∈ S) (hl : S.length ≤ 1000000) :
    Calls Tryd.prog 15 #[.pointer (some ⟨b, 0, none⟩)] w fun e w' =>
      (∃ v zs, e = .returned v ∧ zs.Nodup ∧ (∀ c, c ∈ zs ↔ isLost g c = true) ∧ zs.Pairwise cLt ∧ SlE w' w.heap.size 24 2 encK v zs ∧ zs.length ≤ S.length) ∧ Below w.heap.size w w' := by
  obtain ⟨n, k, h3, h4⟩ := h.hasN hS
  refine (blost_any h3 (by omega)).mono ?_
  rintro e w' ⟨⟨v, zs, rfl, h5, h6, h7, h8, h9⟩, hb⟩
  exact ⟨⟨v, zs, rfl, h5, h6, h7, h8, Nat.le_trans h9 h4⟩, hb⟩
theorem bx_of (h : BX B L w b m d g gd) {S : List Cl} (hS : ∀ c, (g c).isSome = true → c ∈ S) (hl : S.length ≤ 1000000) (nd : Int) :
    Calls Tryd.prog 17 #[.pointer (some ⟨b, 0, none⟩), .int .i64 nd] w fun e w' =>
      (∃ v zs, e = .returned v ∧ (∀ i, i ∈ zs ↔ (g (nd, i)).isSome = true) ∧ zs.Pairwise (· < ·) ∧ SlE w' w.heap.size 3 1 encI1 v zs ∧ zs.length ≤ S.length) ∧ Below w.heap.size w w' := by
  obtain ⟨n, k, h3, h4⟩ := h.hasN hS
  refine (bof_any h3 (by omega) nd).mono ?_
  rintro e w' ⟨⟨v, zs, rfl, h5, h6, h7, h8⟩, hb⟩
  exact ⟨⟨v, zs, rfl, h5, h6, h7, Nat.le_trans h8 h4⟩, hb⟩
end

set_option maxHeartbeats 1000000 in
theorem samecell_any (x y : Cl) (w : World) : Calls Tryd.prog 28 #[.agg #[.int .i64 x.1, .int .i64 x.2], .agg #[.int .i64 y.1, .int .i64 y.2]] w fun e w' => e = .returned (.bool (decide (x = y))) ∧ Below w.heap.size w w' := by
  obtain ⟨x1, x2⟩ := x
  obtain ⟨y1, y2⟩ := y
  have hfin : decide (((x1, x2) : Cl) = (y1, y2)) = (x1 == y1 && x2 == y2) := by
    rw [Bool.eq_iff_iff]
    simp [Prod.ext_iff]
  rw [hfin]
  clear hfin
  have hbel : Below w.heap.size w ((w.alloc (.cells #[.int .i64 x1, .int .i64 x2] 24)).alloc (.cells #[.int .i64 y1, .int .i64 y2] 24)) := bl_alloc (bl_alloc (Below.refl _ _) _) _
  have HB := Lib.hid hbel
  clear hbel
  cases h1 : (x1 == y1)
  · go_enter Tryd.func28, Tryd.ntmps28
    go_wp2
    go_ret
    exact ⟨rfl, HB.out⟩
  · go_enter Tryd.func28, Tryd.ntmps28
    go_wp2
    go_ret
    exact ⟨rfl, HB.out⟩
end Go.Proofs.YtnkcbogikaebfaaDoor
end

section
/- The law BodyPlays in plain words: the 320 cells of five nodes, in order; lists of them. -/
namespace Go.Proofs.YtnkcbogikaebfaaDoor
open Go
set_option maxRecDepth 100000
set_option linter.unusedSimpArgs false
set_option linter.unusedVariables false

def cellAt (i : Nat) : Cl := (((i / 64 : Nat) : Int) + 1, ((i % 64 : Nat) : Int))
def gridK : List Cl := (List.range 320).map cellAt
theorem grid_len : gridK.length = 320 := by simp [gridK]
theorem grid_get {i : Nat} (h : i < 320) : gridK[i]? = some (cellAt i) := by
  unfold gridK
  rw [List.getElem?_map, List.getElem?_range h]
  rfl
def inGrid (c : Cl) : Prop := 1 ≤ c.1 ∧ c.1 ≤ 5 ∧ 0 ≤ c.2 ∧ c.2 < 64
theorem grid_mem {c : Cl} : c ∈ gridK ↔ inGrid c := by
  unfold gridK inGrid
  rw [List.mem_map]
  constructor
  · rintro ⟨i, hi, rfl⟩
    have := List.mem_range.1 hi
    unfold cellAt
    simp only
    omega
  · rintro ⟨h1, h2, h3, h4⟩
    refine ⟨(c.1.toNat - 1) * 64 + c.2.toNat, List.mem_range.2 (by omega), ?_⟩
    unfold cellAt
    refine Prod.ext ?_ ?_
    · simp only; omega
    · simp only; omega
theorem grid_rise : gridK.Pairwise cLt := by
  unfold gridK
  refine List.pairwise_map.2 (List.pairwise_lt_range.imp fun {a b} h => ?_)
  unfold cLt cellAt
  simp only
  omega
theorem grid_nodup : gridK.Nodup := grid_rise.imp fun {a b} h e => by subst e; exact cLt_irrefl _ h
theorem cellsG_ext {a b : List Cl} (ha : a.Pairwise cLt) (hb : b.Pairwise cLt) (hm : ∀ x, x ∈ a ↔ x ∈ b) : a = b := by
  have na : a.Nodup := ha.imp fun {x y} h e => by subst e; exact cLt_irrefl _ h
  have nb : b.Nodup := hb.imp fun {x y} h e => by subst e; exact cLt_irrefl _ h
  refine ((List.perm_ext_iff_of_nodup na nb).2 hm).eq_of_pairwise (le := cLt) (fun x y _ _ h1 h2 => ?_) ha hb
  exact absurd (cLt_trans h1 h2) (cLt_irrefl _)
theorem intsG_ext {a b : List Int} (ha : a.Pairwise (· < ·)) (hb : b.Pairwise (· < ·)) (hm : ∀ x, x ∈ a ↔ x ∈ b) : a = b := by
  have na : a.Nodup := ha.imp fun {x y} h e => by omega
  have nb : b.Nodup := hb.imp fun {x y} h e => by omega
  refine ((List.perm_ext_iff_of_nodup na nb).2 hm).eq_of_pairwise (le := (· < ·)) (fun x y _ _ h1 h2 => ?_) ha hb
  omega
/-- The first i cells of which p holds. -/
def gridT (p : Cl → Bool) (i : Nat) : List Cl := (gridK.take i).filter p
theorem gridT_zero (p : Cl → Bool) : gridT p 0 = [] := rfl
theorem gridT_yes {p : Cl → Bool} {i : Nat} (hi : i < 320) (h : p (cellAt i) = true) : gridT p (i + 1) = gridT p i ++ [cellAt i] := by
  unfold gridT
  rw [List.take_add_one, grid_get hi, List.filter_append]
  simp [h]
theorem gridT_no {p : Cl → Bool} {i : Nat} (hi : i < 320) (h : p (cellAt i) = false) : gridT p (i + 1) = gridT p i := by
  unfold gridT
  rw [List.take_add_one, grid_get hi, List.filter_append]
  simp [h]
theorem gridT_all (p : Cl → Bool) : gridT p 320 = gridK.filter p := by
  unfold gridT
  rw [List.take_of_length_le (by rw [grid_len]; exact Nat.le_refl _)]
theorem gridT_len (p : Cl → Bool) (i : Nat) : (gridT p i).length ≤ 320 := by
  unfold gridT
  refine Nat.le_trans (List.length_filter_le _ _) ?_
  rw [List.length_take, grid_len]
  omega
/-- What rises, and has just these, is the list. -/
theorem grid_eq {p : Cl → Bool} {zs : List Cl} (hr : zs.Pairwise cLt) (hm : ∀ c, c ∈ zs ↔ p c = true) (hp : ∀ c, p c = true → inGrid c) : zs = gridT p 320 := by
  rw [gridT_all]
  refine cellsG_ext hr (grid_rise.filter _) fun c => ?_
  rw [hm, List.mem_filter]
  exact ⟨fun h => ⟨grid_mem.2 (hp c h), h⟩, fun h => h.2⟩
def gridN (p : Cl → Bool) (n : Int) (i : Nat) : List Int := (gridT (fun c => p c && c.1 == n) i).map (·.2)
theorem gridN_len (p : Cl → Bool) (n : Int) (i : Nat) : (gridN p n i).length ≤ 320 := by
  unfold gridN
  rw [List.length_map]
  exact gridT_len _ _
theorem gridN_eq {p : Cl → Bool} {n : Int} {zs : List Int} (hr : zs.Pairwise (· < ·)) (hm : ∀ i, i ∈ zs ↔ p (n, i) = true) (hp : ∀ c, p c = true → inGrid c) : zs = gridN p n 320 := by
  unfold gridN
  rw [gridT_all]
  refine intsG_ext hr ?_ fun i => ?_
  · refine List.pairwise_map.2 ((grid_rise.filter _).imp_of_mem fun {a b} ha hb h => ?_)
    have h1 := (List.mem_filter.1 ha).2
    have h2 := (List.mem_filter.1 hb).2
    simp only [Bool.and_eq_true, beq_iff_eq] at h1 h2
    unfold cLt at h
    omega
  · rw [hm, List.mem_map]
    constructor
    · intro h
      exact ⟨(n, i), List.mem_filter.2 ⟨grid_mem.2 (hp _ h), by simp [h]⟩, rfl⟩
    · rintro ⟨⟨a, b⟩, h, rfl⟩
      have h1 := (List.mem_filter.1 h).2
      simp only [Bool.and_eq_true, beq_iff_eq] at h1
      rw [← h1.2]
      exact h1.1
/-- The cells of an array of six nodes. -/
def gridB (p : Cl → Bool) : List Value := (List.range 384).map fun i => Value.bool (p (((i / 64 : Nat) : Int), ((i % 64 : Nat) : Int)))
theorem gridB_len (p : Cl → Bool) : (gridB p).length = 384 := by simp [gridB]
theorem gridB_get (p : Cl → Bool) {i : Nat} (hi : i < 384) : (gridB p)[i]? = some (Value.bool (p (((i / 64 : Nat) : Int), ((i % 64 : Nat) : Int)))) := by
  unfold gridB
  rw [List.getElem?_map, List.getElem?_range hi]
  rfl
def updB (p : Cl → Bool) (c : Cl) (v : Bool) : Cl → Bool := fun x => if x = c then v else p x
theorem gridB_set (p : Cl → Bool) {n k : Nat} (hn : n < 6) (hk : k < 64) (v : Bool) : (gridB p).set (n * 64 + k) (.bool v) = gridB (updB p ((n : Int), (k : Int)) v) := by
  apply List.ext_getElem?
  intro i
  by_cases hi : i < 384
  · rw [List.getElem?_set, gridB_get _ hi]
    by_cases h : n * 64 + k = i
    · subst h
      rw [if_pos rfl, if_pos (by rw [gridB_len]; exact hi), gridB_get _ hi]
      unfold updB
      rw [if_pos (by refine Prod.ext ?_ ?_ <;> simp only <;> omega)]
    · rw [if_neg h, gridB_get _ hi]
      unfold updB
      rw [if_neg]
      intro e
      injection e with e1 e2
      omega
  · rw [List.getElem?_eq_none (by simp [gridB_len]; omega), List.getElem?_eq_none (by simp [gridB_len]; omega)]
theorem gridB_false : gridB (fun _ => false) = List.replicate 384 (.bool false) := by
  unfold gridB
  rw [List.map_const', List.length_range]
end Go.Proofs.YtnkcbogikaebfaaDoor
end

section
/- The law BodyPlays: what its world holds: the body, the three grids of truths, the grid of blocks, the cell that is asked. -/
namespace Go.Proofs.YtnkcbogikaebfaaDoor
open Go Go.RowKit
set_option maxRecDepth 100000
set_option linter.unusedSimpArgs false
set_option linter.unusedVariables false
variable {E : Nat → Addr} {B : Nat}

structure Do16 where
  kind : Int
  c : Cl
  v : Value
  l : List Int
instance : Inhabited Do16 := ⟨⟨0, (0, 0), .nilIface, []⟩⟩
def encDo16 (d : Do16) : List Value := [.int .i64 d.kind, .int .i64 d.c.1, .int .i64 d.c.2, d.v]
def okDo16 (W : World) (d : Do16) : Prop := In64 d.kind ∧ In64 d.c.1 ∧ In64 d.c.2 ∧ RdB W d.v d.l ∧ d.l.length ≤ maxLen

def updF {α : Type} (f : Cl → α) (c : Cl) (v : α) : Cl → α := fun x => if x = c then v else f x
def gridV (f : Cl → Value) : List Value := (List.range 384).map fun i => f (((i / 64 : Nat) : Int), ((i % 64 : Nat) : Int))
theorem gridV_len (f : Cl → Value) : (gridV f).length = 384 := by simp [gridV]
theorem gridV_get (f : Cl → Value) {i : Nat} (hi : i < 384) : (gridV f)[i]? = some (f (((i / 64 : Nat) : Int), ((i % 64 : Nat) : Int))) := by
  unfold gridV
  rw [List.getElem?_map, List.getElem?_range hi]
  rfl
theorem gridV_at (f : Cl → Value) {n k : Nat} (hn : n < 6) (hk : k < 64) : (gridV f)[n * 64 + k]? = some (f ((n : Int), (k : Int))) := by
  rw [gridV_get f (by omega)]
  congr 2
  refine Prod.ext ?_ ?_ <;> simp only <;> omega
theorem gridV_set (f : Cl → Value) {n k : Nat} (hn : n < 6) (hk : k < 64) (v : Value) : (gridV f).set (n * 64 + k) v = gridV (updF f ((n : Int), (k : Int)) v) := by
  apply List.ext_getElem?
  intro i
  by_cases hi : i < 384
  · rw [List.getElem?_set, gridV_get _ hi]
    by_cases h : n * 64 + k = i
    · subst h
      rw [if_pos rfl, if_pos (by rw [gridV_len]; exact hi), gridV_get _ hi]
      unfold updF
      rw [if_pos (by refine Prod.ext ?_ ?_ <;> simp only <;> omega)]
    · rw [if_neg h, gridV_get _ hi]
      unfold updF
      rw [if_neg]
      intro e
      injection e with e1 e2
      omega
  · rw [List.getElem?_eq_none (by simp [gridV_len]; omega), List.getElem?_eq_none (by simp [gridV_len]; omega)]
def vB (p : Cl → Bool) : Cl → Value := fun c => .bool (p c)
theorem vB_upd (p : Cl → Bool) (c : Cl) (v : Bool) : updF (vB p) c (.bool v) = vB (updF p c v) := by
  funext x
  by_cases h : x = c <;> simp [updF, vB, h]
theorem gridV_const (v : Value) : gridV (fun _ => v) = List.replicate 384 v := by
  unfold gridV
  rw [List.map_const', List.length_range]

def gOf (has lost : Cl → Bool) (data : Cl → List Int) : Cl → Option (Option (List Int)) := fun c => if has c = true then (if lost c = true then some none else some (some (data c))) else none
def gdOf (dirty : Cl → Bool) : Cl → Option Int := fun c => if dirty c = true then some 1 else none
section
variable {has lost dirty : Cl → Bool} {data : Cl → List Int}
theorem gOf_set (c : Cl) (l : List Int) : upd (gOf has lost data) c (some l) = gOf (updF has c true) (updF lost c false) (updF data c l) := by
  funext x
  unfold upd gOf updF
  by_cases h : x = c <;> simp [h]
theorem gOf_lose {c : Cl} (h : has c = true) : upd (gOf has lost data) c none = gOf has (updF lost c true) data := by
  funext x
  unfold upd gOf updF
  by_cases hx : x = c
  · subst hx; simp [h]
  · simp [hx]
theorem gOf_del (c : Cl) (l : List Int) : del (gOf has lost data) c = gOf (updF has c false) (updF lost c false) (updF data c l) := by
  funext x
  unfold del gOf updF
  by_cases hx : x = c <;> simp [hx]
theorem gdOf_yes (c : Cl) : upd (gdOf dirty) c 1 = gdOf (updF dirty c true) := by
  funext x
  unfold upd gdOf updF
  by_cases hx : x = c <;> simp [hx]
theorem gdOf_no (c : Cl) : del (gdOf dirty) c = gdOf (updF dirty c false) := by
  funext x
  unfold del gdOf updF
  by_cases hx : x = c <;> simp [hx]
theorem gdOf_none : gdOf (fun _ => false) = fun _ => none := rfl
theorem gOf_none {data : Cl → List Int} : gOf (fun _ => false) (fun _ => false) data = fun _ => none := rfl
theorem gOf_some (c : Cl) : (gOf has lost data c).isSome = has c := by
  unfold gOf
  cases h : has c <;> simp
  split <;> rfl
theorem gdOf_some (c : Cl) : (gdOf dirty c).isSome = dirty c := by
  unfold gdOf
  cases h : dirty c <;> simp
theorem gOf_lost (hl : ∀ c, lost c = true → has c = true) (c : Cl) : isLost (gOf has lost data) c = lost c := by
  unfold isLost gOf
  cases h : lost c
  · cases h2 : has c <;> simp
  · simp [hl c h]
end

/-- What lies beside the body: H, Lo, Di the truths; Da the blocks; Q the cell that is asked. -/
def Five (H Lo Di Da Q x : Nat) : Prop := x = H ∨ x = Lo ∨ x = Di ∨ x = Da ∨ x = Q
structure PW (E : Nat → Addr) (B : Nat) (w0 : World) (ask : Cl) (L : List Nat) (b m d H Lo Di Da Q : Nat) (g : Cl → Option (Option (List Int))) (gd : Cl → Option Int) (has lost dirty hv : Cl → Bool) (data : Cl → List Int) (dv : Cl → Value) (w : World) : Prop where
  bx : BX B L w b m d g gd
  rh : Row w H 29 (gridV (vB has))
  rl : Row w Lo 29 (gridV (vB lost))
  rd : Row w Di 29 (gridV (vB dirty))
  ra : Row w Da 32 (gridV dv)
  rq : Row w Q 24 [.int .i64 ask.1, .int .i64 ask.2]
  inL : ∀ x, Five H Lo Di Da Q x → x ∈ L
  ne : H ≠ Lo ∧ H ≠ Di ∧ H ≠ Da ∧ H ≠ Q ∧ Lo ≠ Di ∧ Lo ≠ Da ∧ Lo ≠ Q ∧ Di ≠ Da ∧ Di ≠ Q ∧ Da ≠ Q
  vals : ∀ c, hv c = true → (data c).length = 256 ∧ ∃ h, dv c = .slice (some ⟨h, 0, none⟩) 256 256 ∧ Row w h 5 ((data c).map (Value.int .u8)) ∧ h ∈ L ∧ ¬ Five H Lo Di Da Q h
  LB : ∀ x ∈ L, B ≤ x
  env : Env E B w
  bel : Below B w0 w
section
variable {w0 w w' : World} {ask : Cl} {L : List Nat} {b m d H Lo Di Da Q : Nat} {g : Cl → Option (Option (List Int))} {gd : Cl → Option Int} {has lost dirty hv : Cl → Bool} {data : Cl → List Int} {dv : Cl → Value}
theorem PW.below (h : PW E B w0 ask L b m d H Lo Di Da Q g gd has lost dirty hv data dv w) (hb : Below w.heap.size w w') : PW E B w0 ask L b m d H Lo Di Da Q g gd has lost dirty hv data dv w' :=
  ⟨h.bx.below hb, h.rh.below hb, h.rl.below hb, h.rd.below hb, h.ra.below hb, h.rq.below hb, h.inL, h.ne, fun c hc => by
    obtain ⟨h1, x, h2, h3, h4⟩ := h.vals c hc
    exact ⟨h1, x, h2, h3.below hb, h4⟩, h.LB, h.env.below hb, h.bel.trans (hb.mono h.bx.hB)⟩
/-- What a turn of the body leaves. -/
theorem PW.out (h : PW E B w0 ask L b m d H Lo Di Da Q g gd has lost dirty hv data dv w) {d' : Nat} {S : Nat → Prop} {g' : Cl → Option (Option (List Int))} {gd' : Cl → Option Int} (hx : BX B L w' b m d' g' gd') (ht : Touch S w w') (hS : ∀ x, S x → x = b ∨ x = m ∨ x = d) :
    PW E B w0 ask L b m d' H Lo Di Da Q g' gd' has lost dirty hv data dv w' := by
  have hn : ∀ x, x ∈ L → ¬ S x := fun x hx hs => (h.bx.own x (hS x hs)).2.2 hx
  have hb : Below B w w' := ht.below h.bx.hB fun x hs => (h.bx.own x (hS x hs)).1
  exact ⟨hx, h.rh.touch ht (hn _ (h.inL _ (.inl rfl))), h.rl.touch ht (hn _ (h.inL _ (.inr (.inl rfl)))), h.rd.touch ht (hn _ (h.inL _ (.inr (.inr (.inl rfl))))), h.ra.touch ht (hn _ (h.inL _ (.inr (.inr (.inr (.inl rfl)))))), h.rq.touch ht (hn _ (h.inL _ (.inr (.inr (.inr (.inr rfl)))))), h.inL, h.ne, fun c hc => by
    obtain ⟨h1, x, h2, h3, h4, h5⟩ := h.vals c hc
    exact ⟨h1, x, h2, h3.touch ht (hn _ h4), h4, h5⟩, h.LB, h.env.keep hb, h.bel.trans hb⟩
/-- Where one of the five is written. -/
theorem PW.five (h : PW E B w0 ask L b m d H Lo Di Da Q g gd has lost dirty hv data dv w) {X : Nat} (hX : Five H Lo Di Da Q X) (ht : Touch (fun x => x = X) w w') : BX B L w' b m d g gd ∧ Env E B w' ∧ Below B w0 w' ∧
    ∀ c, hv c = true → (data c).length = 256 ∧ ∃ h, dv c = .slice (some ⟨h, 0, none⟩) 256 256 ∧ Row w' h 5 ((data c).map (Value.int .u8)) ∧ h ∈ L ∧ ¬ Five H Lo Di Da Q h := by
  have hb : Below B w w' := ht.below h.bx.hB fun x hs => by rw [hs]; exact h.LB _ (h.inL _ hX)
  refine ⟨h.bx.touch ht fun x hx => by rw [hx]; exact h.inL _ hX, h.env.keep hb, h.bel.trans hb, fun c hc => ?_⟩
  obtain ⟨h1, x, h2, h3, h4, h5⟩ := h.vals c hc
  exact ⟨h1, x, h2, h3.touch ht (fun e => h5 (by rw [e]; exact hX)), h4, h5⟩
theorem touch1 (w : World) (X i : Nat) (v : Value) : Touch (fun x => x = X) w (w.setCell ⟨X, i, none⟩ v) := Touch.setCell (S := fun x => x = X) (p := ⟨X, i, none⟩) (Touch.refl _ _) (.inl rfl) _
theorem row_grid {X n k : Nat} {t : TypeId} {p : Cl → Bool} (r : Row w X t (gridV (vB p))) (hn : n < 6) (hk : k < 64) (v : Bool) : Row (w.setCell ⟨X, n * 64 + k, none⟩ (.bool v)) X t (gridV (vB (updF p ((n : Int), (k : Int)) v))) := by
  have := r.set (n * 64 + k) (.bool v)
  rwa [gridV_set _ hn hk, vB_upd] at this
theorem PW.setH (h : PW E B w0 ask L b m d H Lo Di Da Q g gd has lost dirty hv data dv w) {n k : Nat} (hn : n < 6) (hk : k < 64) (v : Bool) :
    PW E B w0 ask L b m d H Lo Di Da Q g gd (updF has ((n : Int), (k : Int)) v) lost dirty hv data dv (w.setCell ⟨H, n * 64 + k, none⟩ (.bool v)) := by
  obtain ⟨h1, h2, h3, h4⟩ := h.five (X := H) (.inl rfl) (touch1 w H (n * 64 + k) (.bool v))
  obtain ⟨n1, n2, n3, n4, n5, n6, n7, n8, n9, n10⟩ := h.ne
  exact ⟨h1, row_grid h.rh hn hk v, h.rl.other (p := ⟨H, _, none⟩) (Ne.symm n1) _, h.rd.other (p := ⟨H, _, none⟩) (Ne.symm n2) _, h.ra.other (p := ⟨H, _, none⟩) (Ne.symm n3) _, h.rq.other (p := ⟨H, _, none⟩) (Ne.symm n4) _, h.inL, h.ne, h4, h.LB, h2, h3⟩
theorem PW.setLo (h : PW E B w0 ask L b m d H Lo Di Da Q g gd has lost dirty hv data dv w) {n k : Nat} (hn : n < 6) (hk : k < 64) (v : Bool) :
    PW E B w0 ask L b m d H Lo Di Da Q g gd has (updF lost ((n : Int), (k : Int)) v) dirty hv data dv (w.setCell ⟨Lo, n * 64 + k, none⟩ (.bool v)) := by
  obtain ⟨h1, h2, h3, h4⟩ := h.five (X := Lo) (.inr (.inl rfl)) (touch1 w Lo (n * 64 + k) (.bool v))
  obtain ⟨n1, n2, n3, n4, n5, n6, n7, n8, n9, n10⟩ := h.ne
  exact ⟨h1, h.rh.other (p := ⟨Lo, _, none⟩) n1 _, row_grid h.rl hn hk v, h.rd.other (p := ⟨Lo, _, none⟩) (Ne.symm n5) _, h.ra.other (p := ⟨Lo, _, none⟩) (Ne.symm n6) _, h.rq.other (p := ⟨Lo, _, none⟩) (Ne.symm n7) _, h.inL, h.ne, h4, h.LB, h2, h3⟩
theorem PW.setDi (h : PW E B w0 ask L b m d H Lo Di Da Q g gd has lost dirty hv data dv w) {n k : Nat} (hn : n < 6) (hk : k < 64) (v : Bool) :
    PW E B w0 ask L b m d H Lo Di Da Q g gd has lost (updF dirty ((n : Int), (k : Int)) v) hv data dv (w.setCell ⟨Di, n * 64 + k, none⟩ (.bool v)) := by
  obtain ⟨h1, h2, h3, h4⟩ := h.five (X := Di) (.inr (.inr (.inl rfl))) (touch1 w Di (n * 64 + k) (.bool v))
  obtain ⟨n1, n2, n3, n4, n5, n6, n7, n8, n9, n10⟩ := h.ne
  exact ⟨h1, h.rh.other (p := ⟨Di, _, none⟩) n2 _, h.rl.other (p := ⟨Di, _, none⟩) n5 _, row_grid h.rd hn hk v, h.ra.other (p := ⟨Di, _, none⟩) (Ne.symm n8) _, h.rq.other (p := ⟨Di, _, none⟩) (Ne.symm n9) _, h.inL, h.ne, h4, h.LB, h2, h3⟩
/-- A block laid into the grid of blocks. -/
theorem PW.setDa (h : PW E B w0 ask L b m d H Lo Di Da Q g gd has lost dirty hv data dv w) {n k : Nat} (hn : n < 6) (hk : k < 64) {x : Nat} {l : List Int} (hl : l.length = 256) (hr : Row w x 5 (l.map (Value.int .u8))) (hx : x ∈ L) (h5 : ¬ Five H Lo Di Da Q x) :
    PW E B w0 ask L b m d H Lo Di Da Q g gd has lost dirty (updF hv ((n : Int), (k : Int)) true) (updF data ((n : Int), (k : Int)) l) (updF dv ((n : Int), (k : Int)) (.slice (some ⟨x, 0, none⟩) 256 256)) (w.setCell ⟨Da, n * 64 + k, none⟩ (.slice (some ⟨x, 0, none⟩) 256 256)) := by
  obtain ⟨h1, h2, h3, h4⟩ := h.five (X := Da) (.inr (.inr (.inr (.inl rfl)))) (touch1 w Da (n * 64 + k) (.slice (some ⟨x, 0, none⟩) 256 256))
  obtain ⟨n1, n2, n3, n4, n5, n6, n7, n8, n9, n10⟩ := h.ne
  refine ⟨h1, h.rh.other (p := ⟨Da, _, none⟩) n3 _, h.rl.other (p := ⟨Da, _, none⟩) n6 _, h.rd.other (p := ⟨Da, _, none⟩) n8 _, ?_, h.rq.other (p := ⟨Da, _, none⟩) (Ne.symm n10) _, h.inL, h.ne, fun c hc => ?_, h.LB, h2, h3⟩
  · have := h.ra.set (n * 64 + k) (.slice (some ⟨x, 0, none⟩) 256 256)
    rwa [gridV_set _ hn hk] at this
  · by_cases he : c = ((n : Int), (k : Int))
    · subst he
      simp only [updF, if_true]
      exact ⟨hl, x, rfl, hr.other (p := ⟨Da, _, none⟩) (fun e => h5 (.inr (.inr (.inr (.inl e))))) _, hx, h5⟩
    · simp only [updF, if_neg he] at hc ⊢
      exact h4 c hc
theorem PW.nilDa (h : PW E B w0 ask L b m d H Lo Di Da Q g gd has lost dirty hv data dv w) {n k : Nat} (hn : n < 6) (hk : k < 64) :
    PW E B w0 ask L b m d H Lo Di Da Q g gd has lost dirty (updF hv ((n : Int), (k : Int)) false) data (updF dv ((n : Int), (k : Int)) (.slice none 0 0)) (w.setCell ⟨Da, n * 64 + k, none⟩ (.slice none 0 0)) := by
  obtain ⟨h1, h2, h3, h4⟩ := h.five (X := Da) (.inr (.inr (.inr (.inl rfl)))) (touch1 w Da (n * 64 + k) (.slice none 0 0))
  obtain ⟨n1, n2, n3, n4, n5, n6, n7, n8, n9, n10⟩ := h.ne
  refine ⟨h1, h.rh.other (p := ⟨Da, _, none⟩) n3 _, h.rl.other (p := ⟨Da, _, none⟩) n6 _, h.rd.other (p := ⟨Da, _, none⟩) n8 _, ?_, h.rq.other (p := ⟨Da, _, none⟩) (Ne.symm n10) _, h.inL, h.ne, fun c hc => ?_, h.LB, h2, h3⟩
  · have := h.ra.set (n * 64 + k) (.slice none 0 0)
    rwa [gridV_set _ hn hk] at this
  · by_cases he : c = ((n : Int), (k : Int))
    · subst he
      simp [updF] at hc
    · simp only [updF, if_neg he] at hc ⊢
      exact h4 c hc
/-- New blocks of the law's own. -/
theorem PW.add (h : PW E B w0 ask L b m d H Lo Di Da Q g gd has lost dirty hv data dv w) (hb : Below w.heap.size w w') (L2 : List Nat) (h2 : ∀ x ∈ L2, w.heap.size ≤ x ∧ x < w'.heap.size) :
    PW E B w0 ask (L2 ++ L) b m d H Lo Di Da Q g gd has lost dirty hv data dv w' := by
  have h' := h.below hb
  exact ⟨h.bx.add hb L2 h2, h'.rh, h'.rl, h'.rd, h'.ra, h'.rq, fun x hx => List.mem_append_right _ (h.inL x hx), h.ne, fun c hc => by
    obtain ⟨h1, x, h3, h4, h5, h6⟩ := h'.vals c hc
    exact ⟨h1, x, h3, h4, List.mem_append_right _ h5, h6⟩, fun x hx => by
    rcases List.mem_append.1 hx with hx | hx
    · exact Nat.le_trans h.bx.hB (h2 x hx).1
    · exact h.LB x hx, h'.env, h'.bel⟩
/-- What is asked of the grids. -/
theorem PW.cH (h : PW E B w0 ask L b m d H Lo Di Da Q g gd has lost dirty hv data dv w) {n k : Nat} (hn : n < 6) (hk : k < 64) : w.cell? ⟨H, n * 64 + k, none⟩ = some (.bool (has ((n : Int), (k : Int)))) := (h.rh.cell _).trans (gridV_at _ hn hk)
theorem PW.cLo (h : PW E B w0 ask L b m d H Lo Di Da Q g gd has lost dirty hv data dv w) {n k : Nat} (hn : n < 6) (hk : k < 64) : w.cell? ⟨Lo, n * 64 + k, none⟩ = some (.bool (lost ((n : Int), (k : Int)))) := (h.rl.cell _).trans (gridV_at _ hn hk)
theorem PW.cDi (h : PW E B w0 ask L b m d H Lo Di Da Q g gd has lost dirty hv data dv w) {n k : Nat} (hn : n < 6) (hk : k < 64) : w.cell? ⟨Di, n * 64 + k, none⟩ = some (.bool (dirty ((n : Int), (k : Int)))) := (h.rd.cell _).trans (gridV_at _ hn hk)
theorem PW.cDa (h : PW E B w0 ask L b m d H Lo Di Da Q g gd has lost dirty hv data dv w) {n k : Nat} (hn : n < 6) (hk : k < 64) : w.cell? ⟨Da, n * 64 + k, none⟩ = some (dv ((n : Int), (k : Int))) := (h.ra.cell _).trans (gridV_at _ hn hk)
end
end Go.Proofs.YtnkcbogikaebfaaDoor
end

section
/- SameCells, SameInts. -/
namespace Go.Proofs.YtnkcbogikaebfaaDoor
open Go Go.RowKit
set_option maxRecDepth 100000
set_option linter.unusedSimpArgs false
set_option linter.unusedVariables false
attribute [local go_sem] giv
variable {E : Nat → Addr} {B : Nat}
/-- Are two lists the same from their beginnings? -/
theorem same_stepL {α : Type} {l m : List α} {j : Nat} (h : j < l.length) (h2 : j < m.length) (he : l.take j = m.take j) : (l.take (j + 1) = m.take (j + 1)) ↔ l[j] = m[j] := by
  rw [List.take_succ_eq_append_getElem h, List.take_succ_eq_append_getElem h2, he, List.append_cancel_left_eq]
  simp

set_option maxHeartbeats 1000000 in
theorem samecells_any {w : World} {v u : Value} {l m : List Cl} (rl : RdE w 2 encK v l) (rm : RdE w 2 encK u m) (hlen : l.length ≤ 1000000) :
    Calls Tryd.prog 14 #[v, u] w fun e w' => e = .returned (.bool (decide (l = m))) ∧ Below w.heap.size w w' := by
  have RL := Lib.hid rl
  have RM := Lib.hid rm
  obtain ⟨sp, cap, rfl, hl0, _, hl⟩ := rl
  obtain ⟨sq, cbp, rfl, hm0, _, hm⟩ := rm
  generalize hres : decide (l = m) = res
  have HRES := Lib.hid hres
  clear hres
  by_cases hne : l.length = m.length
  · have hb : ((l.length : Int) != m.length) = false := by rw [hne]; simp
    have HNE := Lib.hid hne
    clear hne
    go_enter Tryd.func14, Tryd.ntmps14
    go_wp2
    go_loopw [5, 6] (fun i _ wr => ∃ j : Nat, j ≤ l.length ∧ i = .int .i64 j ∧ Hid (l.take j = m.take j ∧ Below w.heap.size w wr)) (fun i _ _ => l.length - (intOf i).toNat)
    case atStart => exact ⟨0, Nat.zero_le _, rfl, Lib.hid ⟨rfl, Below.refl _ _⟩⟩
    case round =>
      obtain ⟨j, hj, rfl, HI⟩ := hrel
      by_cases hlt : j < l.length
      · have hltm : j < m.length := by have := HNE.out; omega
        obtain ⟨h, off, rfl, hh, hc⟩ := hl (by rintro rfl; simp at hlt)
        obtain ⟨h2, off2, rfl, hh2, hc2⟩ := hm (by rintro rfl; simp at hltm)
        have c0 : ∀ k, k < 2 → wr.cell? ⟨h, off + j * 2 + k, none⟩ = (encK l[j])[k]? := fun k hk => by
          rw [HI.out.2.cell (p := ⟨h, off + j * 2 + k, none⟩) hh, hc j k hlt hk, List.getElem?_eq_getElem hlt]; rfl
        have c1 : ∀ k, k < 2 → wr.cell? ⟨h2, off2 + j * 2 + k, none⟩ = (encK m[j])[k]? := fun k hk => by
          rw [HI.out.2.cell (p := ⟨h2, off2 + j * 2 + k, none⟩) hh2, hc2 j k hltm hk, List.getElem?_eq_getElem hltm]; rfl
        have hst := same_stepL hlt hltm HI.out.1
        have HSAME := fun w => samecell_any l[j] m[j] w
        have hj0 : (0 : Int) ≤ (j : Int) := by omega
        have hj1 : (j : Int) < (l.length : Int) := by omega
        have hj2 : (j : Int) < (m.length : Int) := by omega
        clear hl hm hc hc2 RL RM
        generalize l[j] = x at *
        generalize m[j] = y at *
        generalize hxy : decide (x = y) = sm at HSAME
        have HXY := Lib.hid hxy
        clear hxy
        obtain ⟨a1, a2⟩ := x
        obtain ⟨b1, b2⟩ := y
        have d0 := c0 0 (by omega)
        have d1 := c0 1 (by omega)
        have e0 := c1 0 (by omega)
        have e1 := c1 1 (by omega)
        simp only [encK, List.getElem?_cons_zero, List.getElem?_cons_succ, Nat.add_zero] at d0 d1 e0 e1
        clear c0 c1
        have HST := Lib.hid hst
        clear hst
        go_wp2_with fail
        have S : ∀ w', Below wr.heap.size wr w' → w'.cell? ⟨h, off + j * 2, none⟩ = some (.int .i64 a1) ∧ w'.cell? ⟨h, off + j * 2 + 1, none⟩ = some (.int .i64 a2) ∧
            w'.cell? ⟨h2, off2 + j * 2, none⟩ = some (.int .i64 b1) ∧ w'.cell? ⟨h2, off2 + j * 2 + 1, none⟩ = some (.int .i64 b2) ∧ Below wr.heap.size wr w' := by
          intro w' hb
          have hs := HI.out.2.size
          obtain ⟨hc, _⟩ := bcell hb
          exact ⟨(hc _ _ (by omega)).trans d0, (hc _ _ (by omega)).trans d1, (hc _ _ (by omega)).trans e0, (hc _ _ (by omega)).trans e1, hb⟩
        go_region_held3 (fun w' => w'.cell? ⟨h, off + j * 2, none⟩ = some (.int .i64 a1) ∧ w'.cell? ⟨h, off + j * 2 + 1, none⟩ = some (.int .i64 a2) ∧
            w'.cell? ⟨h2, off2 + j * 2, none⟩ = some (.int .i64 b1) ∧ w'.cell? ⟨h2, off2 + j * 2 + 1, none⟩ = some (.int .i64 b2) ∧ Below wr.heap.size wr w')
          (first | exact S _ (Below.refl _ _).drew | exact S _ HW1.out)
          ((go_at_call 28; refine (HSAME _).mono ?_; rintro e w1 ⟨rfl, hb1⟩; have HW1 : Hid (Below wr.heap.size wr w1) := Lib.hid (by first | exact (Below.refl wr.heap.size wr).drew.trans hb1 | exact hb1); clear hb1))
        have HBW := Lib.hid (HI.out.2.trans (HW1.out.mono HI.out.2.size))
        clear S HW1
        cases sm
        · have hf : res = false := by
            rw [← HRES.out, decide_eq_false_iff_not]
            rintro rfl
            exact (of_decide_eq_false HXY.out) (HST.out.1 rfl)
          go_wp2
          go_ret
          exact ⟨by rw [hf]; rfl, HBW.out⟩
        · go_wp2
          go_roundw
          case rel => exact ⟨j + 1, by omega, by first | go_num | exact congrArg (Value.int .i64) (by unfold wrap64; omega), Lib.hid ⟨HST.out.2 (of_decide_eq_true HXY.out), HBW.out⟩⟩
          case measure => (simp [intOf]; try unfold wrap64); omega
      · obtain rfl : j = l.length := by omega
        have hf : res = true := by
          rw [← HRES.out, decide_eq_true_iff]
          have := HI.out.1
          rw [List.take_length, HNE.out, List.take_length] at this
          exact this
        go_wp2
        go_ret
        exact ⟨by rw [hf]; rfl, HI.out.2⟩
  · have hb : ((l.length : Int) != m.length) = true := by rw [bne_iff_ne]; omega
    have hf : res = false := by
      rw [← HRES.out, decide_eq_false_iff_not]
      rintro rfl
      exact hne rfl
    clear hne
    go_enter Tryd.func14, Tryd.ntmps14
    go_wp2
    go_ret
    exact ⟨by rw [hf]; rfl, Below.refl _ _⟩

/-- v reads as these numbers. -/
def RdI (w : World) (v : Value) (l : List Int) : Prop :=
  ∃ sp cap, v = .slice sp l.length cap ∧ (l = [] ∨ ∃ h off, sp = some ⟨h, off, none⟩ ∧ h < w.heap.size ∧ ∀ i, i < l.length → w.cell? ⟨h, off + i, none⟩ = some (.int .i64 (l.getD i 0)))
theorem RdE.ints {w : World} {v : Value} {l : List Int} (r : RdE w 1 encI1 v l) : RdI w v l := by
  obtain ⟨sp, cap, rfl, h1, h2, h3⟩ := r
  refine ⟨sp, cap, rfl, ?_⟩
  cases l with
  | nil => exact .inl rfl
  | cons x l =>
    obtain ⟨h, off, rfl, h4, h5⟩ := h3 (by simp)
    refine .inr ⟨h, off, rfl, h4, fun i hi => ?_⟩
    have := h5 i 0 hi (by omega)
    rw [Nat.mul_one, Nat.add_zero, List.getElem?_eq_getElem hi] at this
    rw [this]
    simp [List.getD, List.getElem?_eq_getElem hi, encI1]
set_option maxHeartbeats 1000000 in
theorem sameints_any {w : World} {v u : Value} {l m : List Int} (rl : RdI w v l) (rm : RdI w u m) (hlen : l.length ≤ 1000000) :
    Calls Tryd.prog 16 #[v, u] w fun e w' => e = .returned (.bool (decide (l = m))) ∧ Below w.heap.size w w' := by
  obtain ⟨sp, cap, rfl, hl⟩ := rl
  obtain ⟨sq, cbp, rfl, hm⟩ := rm
  generalize hres : decide (l = m) = res
  have HRES := Lib.hid hres
  clear hres
  by_cases hne : l.length = m.length
  · have hb : ((l.length : Int) != m.length) = false := by rw [hne]; simp
    have HNE := Lib.hid hne
    clear hne
    go_enter Tryd.func16, Tryd.ntmps16
    go_wp2
    go_loopw [5, 6] (fun i _ wr => ∃ j : Nat, j ≤ l.length ∧ i = .int .i64 j ∧ Hid (l.take j = m.take j ∧ Below w.heap.size w wr)) (fun i _ _ => l.length - (intOf i).toNat)
    case atStart => exact ⟨0, Nat.zero_le _, rfl, Lib.hid ⟨rfl, Below.refl _ _⟩⟩
    case round =>
      obtain ⟨j, hj, rfl, HI⟩ := hrel
      by_cases hlt : j < l.length
      · have hltm : j < m.length := by have := HNE.out; omega
        rcases hl with rfl | ⟨h, off, rfl, hh, hc⟩
        · simp at hlt
        rcases hm with rfl | ⟨h2, off2, rfl, hh2, hc2⟩
        · simp at hltm
        have c0 : wr.cell? ⟨h, off + j, none⟩ = some (.int .i64 (l.getD j 0)) := (HI.out.2.cell (p := ⟨h, off + j, none⟩) hh).trans (hc j hlt)
        have c1 : wr.cell? ⟨h2, off2 + j, none⟩ = some (.int .i64 (m.getD j 0)) := (HI.out.2.cell (p := ⟨h2, off2 + j, none⟩) hh2).trans (hc2 j hltm)
        have hj0 : (0 : Int) ≤ (j : Int) := by omega
        have hj1 : (j : Int) < (l.length : Int) := by omega
        have hj2 : (j : Int) < (m.length : Int) := by omega
        have hst := same_step HNE.out hlt HI.out.1
        have HC := Lib.hid (And.intro hc hc2)
        clear hc hc2
        generalize hx : l.getD j 0 = x at *
        generalize hy : m.getD j 0 = y at *
        have HST := Lib.hid hst
        clear hst hx hy
        by_cases hxy : x = y
        · subst hxy
          go_wp2_with fail
          go_quiet (fail)
          go_wp2
          go_roundw
          case rel => exact ⟨j + 1, by omega, by go_num, Lib.hid ⟨HST.out.2 (by simp), HI.out.2.trans ((drewN_below wr _).mono HI.out.2.size)⟩⟩
          case measure => simp [intOf]; omega
        · have hxy' : (x == y) = false := by rw [beq_eq_false_iff_ne]; exact hxy
          have hf : res = false := by
            rw [← HRES.out, decide_eq_false_iff_not]
            rintro rfl
            exact hxy (HST.out.1 (by simp))
          go_wp2_with fail
          go_quiet (fail)
          go_wp2
          go_ret
          exact ⟨by rw [hf]; rfl, HI.out.2.trans ((drewN_below wr _).mono HI.out.2.size)⟩
      · obtain rfl : j = l.length := by omega
        have hf : res = true := by
          rw [← HRES.out, decide_eq_true_iff]
          have := HI.out.1
          rw [List.take_length, HNE.out, List.take_length] at this
          exact this
        go_wp2
        go_ret
        exact ⟨by rw [hf]; rfl, HI.out.2⟩
  · have hb : ((l.length : Int) != m.length) = true := by rw [bne_iff_ne]; omega
    have hf : res = false := by
      rw [← HRES.out, decide_eq_false_iff_not]
      rintro rfl
      exact hne rfl
    clear hne
    go_enter Tryd.func16, Tryd.ntmps16
    go_wp2
    go_ret
    exact ⟨by rw [hf]; rfl, Below.refl _ _⟩

end Go.Proofs.YtnkcbogikaebfaaDoor
end

section
/- The law BodyPlays: the three lists that it gathers from the grids. -/
namespace Go.Proofs.YtnkcbogikaebfaaDoor
open Go Go.RowKit
set_option maxRecDepth 100000
set_option linter.unusedSimpArgs false
set_option linter.unusedVariables false
variable {E : Nat → Addr} {B : Nat}
/-- 'append(s, x...)': where its answer lies: where s did, or in a new block. -/
theorem run_app_at {α : Type} {P : Program} {w : World} {t e ty : TypeId} {k bytes : Nat} {enc : α → List Value} (E : ElemT P t e k bytes enc) {base : Nat} {v u : Value} {xs ys : List α} (hown : SlE w base e k enc v xs) (hrd : RdE w k enc u ys)
    (hm : xs.length + ys.length ≤ maxLen) (hn : (xs.length + ys.length) * bytes ≤ 140737488355328) (hbase : base ≤ w.heap.size) :
    ∃ v' w', (Builtin.append_ #[t, t] ty #[v, u]).run P w = .ok v' w' ∧ SlE w' base e k enc v' (xs ++ ys) ∧ Touch (fun x => v.ownBlock = some x) w w' ∧ ∀ x, v'.ownBlock = some x → v.ownBlock = some x ∨ w.heap.size ≤ x := by
  obtain ⟨z, hz, hinf⟩ := E.info
  obtain ⟨i, i1, i2, i3, i4⟩ := info_parts hinf
  have hlx := flat_len E.len xs
  have hly := flat_len E.len ys
  obtain ⟨sp, cap, rfl, h1, h2, h3⟩ := hrd
  cases sp with
  | none =>
    have hc := h2 rfl
    subst hc
    have hy : ys = [] := List.eq_nil_of_length_eq_zero (by omega)
    subst hy
    exact ⟨_, _, run_append_owned_none (P := P) (w := w) base t ty e i k E.ht i1 _ xs.length (flat enc xs) hown, by rw [List.append_nil]; exact hown, Touch.refl _ _, fun x hx => .inl hx⟩
  | some ad =>
    have hnews : ∀ j y, (flat enc ys)[j]? = some y → w.cell? (ad.add j) = some y := by
      intro j y hj
      have hjl : j < ys.length * k := by
        rw [← flat_len E.len ys]
        exact (List.getElem?_eq_some_iff.1 hj).1
      have hyn : ys ≠ [] := by rintro rfl; simp at hjl
      obtain ⟨b, off, hsp, h5, h6⟩ := h3 hyn
      cases hsp
      have hk := E.pos
      have hd : j / k < ys.length := (Nat.div_lt_iff_lt_mul hk).2 hjl
      have hmod : j % k < k := Nat.mod_lt _ hk
      have hj2 : j / k * k + j % k = j := by rw [Nat.mul_comm]; exact Nat.div_add_mod j k
      rw [show (⟨b, off, none⟩ : Addr).add j = ⟨b, off + j, none⟩ by unfold Addr.add; split <;> simp_all]
      have := h6 (j / k) (j % k) hd hmod
      rw [Nat.add_assoc, hj2, ← flat_get E.len ys _ _ hd hmod, hj2] at this
      rw [this, hj]
    have hone : ∀ y ∈ flat enc ys, y.oneCell' = true := by
      intro y hy
      obtain ⟨x, _, hx⟩ := List.mem_flatMap.1 hy
      exact E.one x y hx
    obtain ⟨v', w', hr, g1, g2, _⟩ := run_append_own (P := P) w base t ty e i z k bytes E.ht i1 i2 i3 i4 hz E.pos v xs.length (flat enc xs) hown ad ys.length cap (flat enc ys) hly hnews hone hm hn hbase
    refine ⟨v', w', hr, ?_, Touch.of_grown g2, fun x hx => ?_⟩
    · show w'.ownsRow base e k v' (xs ++ ys).length (flat enc (xs ++ ys))
      rw [flat_append, List.length_append]
      exact g1
    · have hsx : xs.length + ys.length ≤ 9223372036854775807 := by unfold maxLen at hm; omega
      rcases SlE.cases hown with ⟨rfl, rfl⟩ | ⟨g, cp, rfl, hbg, hgl, hnc, hcm⟩
      · by_cases hy0 : ys.length = 0
        · have hy : ys = [] := List.eq_nil_of_length_eq_zero hy0
          subst hy
          exfalso
          obtain ⟨_, h9⟩ := g1
          have hr2 : (Builtin.append_ #[t, t] ty #[.slice none 0 0, .slice (some ad) 0 cap]).run P w = .ok (.slice none 0 0) w := by
            simp [Builtin.append_, run_underlying E.ht, sizeOf, typeInfo, i1, Builtin.lenOf, Builtin.firstCells, loadCells, loadCellsFrom]
          have hr3 := hr.symm.trans hr2
          injection hr3 with e1 e2
          subst e1
          simp [Value.ownBlock] at hx
        · have hr2 := run_append_nil (P := P) w t ty e i z E.ht i1 i2 ad ys.length cap (flat enc ys) (by rw [i3]; exact hly) hnews (by omega) (by omega) (by rw [i4]; have hb := hn; simp only [List.length_nil, Nat.zero_add] at hb; omega)
          have hr3 := hr.symm.trans hr2
          injection hr3 with e1 e2
          subst e1
          simp [Value.ownBlock] at hx
          exact .inr (by omega)
      · obtain ⟨cur, hcur, hcs⟩ : ∃ cur, w.heap[g]? = some (.cells cur e (0, 0)) ∧ cur.size = cp * k := by
          obtain ⟨_, ⟨h9, _⟩ | ⟨g', cap', cur, h9, _, h10, _, _, h11, _⟩⟩ := hown
          · cases h9
          · cases h9
            exact ⟨cur, h10, h11⟩
        by_cases hroom : xs.length + ys.length ≤ cp
        · have hfit : xs.length * i.size + (flat enc ys).length ≤ cur.size := by rw [hly, hcs, i3, ← Nat.add_mul]; exact Nat.mul_le_mul_right _ hroom
          have hr2 := run_append_room (P := P) w t ty e i E.ht i1 g xs.length cp cur hcur ad ys.length cap (flat enc ys) (by rw [i3]; exact hly) hnews hone hroom hfit
          have hr3 := hr.symm.trans hr2
          injection hr3 with e1 e2
          subst e1
          exact .inl (by simpa [Value.ownBlock] using hx)
        · have holds : ∀ j u, (flat enc xs)[j]? = some u → w.cell? ((⟨g, 0, none⟩ : Addr).add j) = some u := World.ownsRow.cells hown (g := g) rfl
          have hr2 := run_append_grow (P := P) w t ty e i z E.ht i1 i2 ⟨g, 0, none⟩ xs.length cp (flat enc xs) (by rw [i3]; exact hlx) holds ad ys.length cap (flat enc ys) (by rw [i3]; exact hly) hnews (by omega) (by omega) (growslice_fits (by omega) (by rw [i4]; exact hn))
          have hr3 := hr.symm.trans hr2
          injection hr3 with e1 e2
          subst e1
          simp [Value.ownBlock] at hx
          exact .inr (by omega)
theorem wpList_appAt {α : Type} {P : Program} {w : World} {ops : Array Oper} {rest : List Oper} {o : Oper} {a : Act} {Q : Exit → Act → World → Prop} {t e : TypeId} {k bytes : Nat} {enc : α → List Value} (E : ElemT P t e k bytes enc) (hgd : o.guard = none) (s x : Operand)
    (ho : o.op = .call { callee := .builtin .append, args := #[s, x], argTypes := #[t, t] }) {base : Nat} {v u : Value} {xs ys : List α} (hs : a.eval s = v) (hown : SlE w base e k enc v xs) (hx : a.eval x = u) (hrd : RdE w k enc u ys)
    (hm : xs.length + ys.length ≤ maxLen) (hn : (xs.length + ys.length) * bytes ≤ 140737488355328) (hbase : base ≤ w.heap.size)
    (h : ∀ v' w', SlE w' base e k enc v' (xs ++ ys) → Touch (fun x => v.ownBlock = some x) w w' → (∀ x, v'.ownBlock = some x → v.ownBlock = some x ∨ w.heap.size ≤ x) → wpList P ops Q rest (a.put o.dst v') w') : wpList P ops Q (o :: rest) a w := by
  obtain ⟨v', w', hr, h2, h3, h4⟩ := run_app_at (ty := o.type) E hown hrd hm hn hbase
  refine wpList_plain hgd fun K hK => ?_
  unfold Oper.wp execOp
  simp only [ho, resolve, invoke, builtin, Sem.run_bind, Sem.run_pure, Result.andThen_ok, List.map_toArray, List.map_cons, List.map_nil, hs, hx, hr]
  exact hK _ _ (h v' w' h2 h3 h4)

/-- Three lists, each in blocks of its own, made behind w9. -/
structure GL (w9 w : World) (v1 v2 v3 : Value) (l1 l2 : List Cl) (l3 : List Int) : Prop where
  bel : Below w9.heap.size w9 w
  s1 : SlE w w9.heap.size 24 2 encK v1 l1
  s2 : SlE w w9.heap.size 24 2 encK v2 l2
  s3 : SlE w w9.heap.size 3 1 encI1 v3 l3
  d12 : ∀ x, v1.ownBlock = some x → v2.ownBlock ≠ some x ∧ v3.ownBlock ≠ some x
  d23 : ∀ x, v2.ownBlock = some x → v3.ownBlock ≠ some x
section
variable {w9 w wa w' : World} {v1 v2 v3 v' : Value} {l1 l2 : List Cl} {l3 : List Int}
theorem GL.start (w9 : World) : GL w9 w9 (.slice none 0 0) (.slice none 0 0) (.slice none 0 0) [] [] [] :=
  ⟨Below.refl _ _, SlE.nil _ _ _ _ _, SlE.nil _ _ _ _ _, SlE.nil _ _ _ _ _, fun x hx => by simp [Value.ownBlock] at hx, fun x hx => by simp [Value.ownBlock] at hx⟩
theorem GL.below (h : GL w9 w v1 v2 v3 l1 l2 l3) (hb : Below w.heap.size w w') : GL w9 w' v1 v2 v3 l1 l2 l3 :=
  ⟨h.bel.trans (hb.mono h.bel.size), h.s1.below hb, h.s2.below hb, h.s3.below hb, h.d12, h.d23⟩
theorem GL.put1 (h : GL w9 w v1 v2 v3 l1 l2 l3) {k1 : List Cl} (hs : SlE w' w9.heap.size 24 2 encK v' k1) (ht : Touch (fun x => v1.ownBlock = some x) w w') (hp : ∀ x, v'.ownBlock = some x → v1.ownBlock = some x ∨ w.heap.size ≤ x) :
    GL w9 w' v' v2 v3 k1 l2 l3 := by
  refine ⟨h.bel.trans (ht.below h.bel.size (fun x hx => (SlE.lt h.s1 x hx).1)), hs, h.s2.touch ht (fun x hx hs => (h.d12 x hs).1 hx), h.s3.touch ht (fun x hx hs => (h.d12 x hs).2 hx), fun x hx => ?_, h.d23⟩
  rcases hp x hx with e | e
  · exact h.d12 x e
  · exact ⟨fun h2 => by have := (SlE.lt h.s2 x h2).2; omega, fun h3 => by have := (SlE.lt h.s3 x h3).2; omega⟩
theorem GL.put2 (h : GL w9 w v1 v2 v3 l1 l2 l3) {k2 : List Cl} (hs : SlE w' w9.heap.size 24 2 encK v' k2) (ht : Touch (fun x => v2.ownBlock = some x) w w') (hp : ∀ x, v'.ownBlock = some x → v2.ownBlock = some x ∨ w.heap.size ≤ x) :
    GL w9 w' v1 v' v3 l1 k2 l3 := by
  refine ⟨h.bel.trans (ht.below h.bel.size (fun x hx => (SlE.lt h.s2 x hx).1)), h.s1.touch ht (fun x hx hs => (h.d12 x hx).1 hs), hs, h.s3.touch ht (fun x hx hs => h.d23 x hs hx), fun x hx => ⟨fun h2 => ?_, (h.d12 x hx).2⟩, fun x hx => ?_⟩
  · rcases hp x h2 with e | e
    · exact (h.d12 x hx).1 e
    · have := (SlE.lt h.s1 x hx).2; omega
  · rcases hp x hx with e | e
    · exact h.d23 x e
    · exact fun h3 => by have := (SlE.lt h.s3 x h3).2; omega
theorem GL.put3 (h : GL w9 w v1 v2 v3 l1 l2 l3) {k3 : List Int} (hs : SlE w' w9.heap.size 3 1 encI1 v' k3) (ht : Touch (fun x => v3.ownBlock = some x) w w') (hp : ∀ x, v'.ownBlock = some x → v3.ownBlock = some x ∨ w.heap.size ≤ x) :
    GL w9 w' v1 v2 v' l1 l2 k3 := by
  refine ⟨h.bel.trans (ht.below h.bel.size (fun x hx => (SlE.lt h.s3 x hx).1)), h.s1.touch ht (fun x hx hs => (h.d12 x hx).2 hs), h.s2.touch ht (fun x hx hs => h.d23 x hx hs), hs, fun x hx => ⟨(h.d12 x hx).1, fun h3 => ?_⟩, fun x hx h3 => ?_⟩
  · rcases hp x h3 with e | e
    · exact (h.d12 x hx).2 e
    · have := (SlE.lt h.s1 x hx).2; omega
  · rcases hp x h3 with e | e
    · exact h.d23 x hx e
    · have := (SlE.lt h.s2 x hx).2; omega
end
theorem wp_fromW {P : Program} {c : Code} {Q : Exit → Act → World → Prop} {a : Act} {w : World} (W0 : World) (h : Below W0.heap.size W0 w) (k : ∀ w', Below W0.heap.size W0 w' → c.wp P Q a w') : c.wp P Q a w := k w h
theorem RdB.row256 {w : World} {h : Nat} {l : List Int} (r : Row w h 5 (l.map (Value.int .u8))) (hl : l.length = 256) : RdB w (.slice (some ⟨h, 0, none⟩) 256 256) l := by
  refine ⟨some ⟨h, 0, none⟩, 256, by rw [hl], .inr ⟨h, 0, rfl, r.lt, fun i hi => ?_⟩⟩
  rw [Nat.zero_add, r.cell, List.getElem?_map, List.getElem?_eq_getElem hi]
  simp [List.getD, List.getElem?_eq_getElem hi]
theorem RdB.nil256 (w : World) : RdB w (.slice none 0 0) [] := ⟨none, 0, rfl, .inl rfl⟩
theorem is_ok0 (w : World) : Calls Tryd.prog 8 #[.nilIface, .int .i64 0] w fun e w' => e = .returned (.bool true) ∧ Below w.heap.size w w' := is_nil 0 w
theorem is_range {w : World} (hE : Env E B w) : Calls Tryd.prog 8 #[errV E 0, .int .i64 103] w fun e w' => e = .returned (.bool true) ∧ Below w.heap.size w w' :=
  is_err (g := 0) (by decide) 103 w hE
theorem is_io {w : World} (hE : Env E B w) : Calls Tryd.prog 8 #[errV E 1, .int .i64 107] w fun e w' => e = .returned (.bool true) ∧ Below w.heap.size w w' :=
  is_err (g := 1) (by decide) 107 w hE
section
variable {w0 w w' : World} {ask c : Cl} {L : List Nat} {b m d H Lo Di Da Q D : Nat} {g : Cl → Option (Option (List Int))} {gd : Cl → Option Int} {has lost dirty hv : Cl → Bool} {data : Cl → List Int} {dv : Cl → Value} {b' m' e' : Nat} {g2 : Cl → Option (Option (List Int))} {gd2 : Cl → Option Int}
theorem pw_set (h : PW E B w0 ask L b m d H Lo Di Da Q g gd has lost dirty hv data dv w) (hc : BX B (b :: m :: d :: L) w b' m' e' g2 gd2) (hok : cellOk c) {sp : Option Addr} {cap : Nat} {l : List Int} (hl : l.length ≤ 256) (hin : SlIn w sp l) {t : TypeId} {cs : List Value} (hr : Row w D t cs) (hD : D ∈ L) :
    Calls Tryd.prog 9 #[.pointer (some ⟨b, 0, none⟩), .agg #[.int .i64 c.1, .int .i64 c.2], .slice sp l.length cap] w fun e w' =>
      e = .returned .nilIface ∧ PW E B w0 ask L b m d H Lo Di Da Q (upd g c (some (pad l))) (upd gd c 1) has lost dirty hv data dv w' ∧ BX B (b :: m :: d :: L) w' b' m' e' g2 gd2 ∧ Row w' D t cs := by
  refine (bx_set h.bx hok hl hin).mono ?_
  rintro e w' ⟨he, hx, ht⟩
  refine ⟨he, h.out hx ht (fun x h => h), hc.touch ht (fun x h => ?_), hr.touch ht (fun hs => (h.bx.own D hs).2.2 hD)⟩
  rcases h with h | h | h <;> simp [h]
end
theorem cellAt_eq {i j : Nat} (hj : j < 64) : cellAt (i * 64 + j) = (((i + 1 : Nat) : Int), (j : Int)) := by
  unfold cellAt
  refine Prod.ext ?_ ?_
  · simp only; omega
  · simp only; omega
theorem gridN_yes {p : Cl → Bool} {n : Int} {i : Nat} (hi : i < 320) (h : p (cellAt i) = true) (hn : (cellAt i).1 = n) : gridN p n (i + 1) = gridN p n i ++ [(cellAt i).2] := by
  unfold gridN
  rw [gridT_yes hi (by simp [h, hn]), List.map_append]
  rfl
theorem gridN_no {p : Cl → Bool} {n : Int} {i : Nat} (hi : i < 320) (h : ¬ (p (cellAt i) = true ∧ (cellAt i).1 = n)) : gridN p n (i + 1) = gridN p n i := by
  unfold gridN
  rw [gridT_no hi (by
    cases hp : p (cellAt i) with
    | false => simp
    | true => simp only [Bool.true_and, beq_eq_false_iff_ne]; exact fun e => h ⟨hp, e⟩)]
end Go.Proofs.YtnkcbogikaebfaaDoor
end
