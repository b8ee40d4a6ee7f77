/- A law's own node table beside its own blocks; the law's small helpers (first, Number). -/
import Derived.Test.YtjmbilbkmcebeaaDoorNodeNew
namespace Go.Proofs.YtjmbilbkmcebeaaDoor
open Go Go.RowKit
set_option maxRecDepth 100000
set_option linter.unusedSimpArgs false
attribute [local go_sem] giv
variable {E : Nat → Addr} {B : Nat}

/-- A law's own table: its blocks are from B on and not among L. -/
def NB (B : Nat) (L : List Nat) (w : World) (b : Nat) (g : Int → Option Nd) (n : Nat) (last : Int) : Prop :=
  B ≤ w.heap.size ∧ (∀ x ∈ L, x < w.heap.size) ∧ ∃ m, NodesAt w b m g n last ∧ ∀ x, OwnN b m x → B ≤ x ∧ x ∉ L

section
variable {L : List Nat} {w w' : World} {b n : Nat} {g : Int → Option Nd} {last : Int}
theorem NB.new (w : World) (hB : B ≤ w.heap.size) (hL : ∀ x ∈ L, x < w.heap.size) : NB B L (w.alloc (.cells #[.map none, .int .i64 0] 123)) w.heap.size (fun _ => none) 0 0 := by
  refine ⟨by simp; omega, fun x hx => by have := hL x hx; simp; omega, none, ⟨by simp, by simp, by simp, by simp, by simp, rfl, fun _ => rfl⟩, ?_⟩
  rintro x (rfl | h)
  · exact ⟨hB, fun hx => by have := hL _ hx; omega⟩
  · cases h
theorem NB.below (h : NB B L w b g n last) (hb : Below w.heap.size w w') : NB B L w' b g n last ∧ Kept B L w w' := by
  obtain ⟨h1, h2, m, h3, h4⟩ := h
  exact ⟨⟨Nat.le_trans h1 hb.size, fun x hx => Nat.lt_of_lt_of_le (h2 x hx) hb.size, m, h3.below hb, h4⟩, Kept.of_below hb h1 h2⟩
/-- A new block of the law's own beside the table. -/
theorem NB.loc (h : NB B L w b g n last) (o : Obj) : NB B (w.heap.size :: L) (w.alloc o) b g n last := by
  obtain ⟨h1, h2, m, h3, h4⟩ := h
  refine ⟨by simp; omega, fun x hx => ?_, m, h3.below (bl_alloc (Below.refl _ _) _), fun x hx => ⟨(h4 x hx).1, fun hl => ?_⟩⟩
  · rcases List.mem_cons.1 hx with rfl | hx
    · simp
    · have := h2 x hx; simp; omega
  · rcases List.mem_cons.1 hl with rfl | hl
    · exact absurd (h3.own_lt _ hx) (Nat.lt_irrefl _)
    · exact (h4 x hx).2 hl
/-- A block of the law's own is written. -/
theorem NB.set (h : NB B L w b g n last) {p : Addr} (hp : p.block ∈ L) (u : Value) : NB B L (w.setCell p u) b g n last := by
  obtain ⟨h1, h2, m, h3, h4⟩ := h
  refine ⟨by simpa using h1, fun x hx => by simpa using h2 x hx, m, h3.touch (S := fun x => x = p.block) (Touch.setCell (S := fun x => x = p.block) (Touch.refl _ _) (.inl rfl) _) ?_, h4⟩
  rintro x hx rfl
  exact (h4 _ hx).2 hp
theorem NB.out {m : Option Nat} {g' : Int → Option Nd} {n' : Nat} {last' : Int} (hB : B ≤ w.heap.size) (hL : ∀ x ∈ L, x < w.heap.size) (ho : ∀ x, OwnN b m x → B ≤ x ∧ x ∉ L)
    (h : NodesOut b m g' n' last' w w') : NB B L w' b g' n' last' ∧ Kept B L w w' := by
  obtain ⟨m', h1, h2, h3⟩ := h
  refine ⟨⟨Nat.le_trans hB h2.size, fun x hx => Nat.lt_of_lt_of_le (hL x hx) h2.size, m', h1, fun x hx => ?_⟩, Kept.of_touch h2 hB hL ho⟩
  rcases h3 x hx with h | h
  · exact ho x h
  · exact ⟨Nat.le_trans hB h, fun hl => by have := hL x hl; omega⟩

theorem nb_len (h : NB B L w b g n last) : Calls Tryd.prog 71 #[.pointer (some ⟨b, 0, none⟩)] w fun e w' => e = .returned (.int .i64 n) ∧ w = w' := by
  obtain ⟨_, _, m, h3, _⟩ := h
  exact nlen_any h3
theorem nb_get (h : NB B L w b g n last) {k : Int} (hk : -9223372036854775808 ≤ k ∧ k ≤ 9223372036854775807) :
    Calls Tryd.prog 40 #[.pointer (some ⟨b, 0, none⟩), .int .i64 k] w fun e w' => e = .returned (.tuple #[encN ((g k).getD noNd), .bool (g k).isSome]) ∧ NB B L w' b g n last ∧ Kept B L w w' := by
  have h' := h
  obtain ⟨_, _, m, h3, _⟩ := h
  exact (nget_any h3 hk).mono fun e w' ⟨he, hb⟩ => ⟨he, h'.below hb⟩
theorem nb_new (h : NB B L w b g n last) {k : Int} (hk : kindB k = true) (hn : n < 512) (hl : 0 ≤ last ∧ last < 16777215) (hg : g (last + 1) = none) (hE : Env E B w) :
    Calls Tryd.prog 35 #[.pointer (some ⟨b, 0, none⟩), .int .i64 k] w fun e w' => e = .returned (.tuple #[.int .i64 (last + 1), .nilIface]) ∧ NB B L w' b (upd g (last + 1) (newNd (last + 1) k)) (n + 1) (last + 1) ∧ Kept B L w w' := by
  obtain ⟨h1, h2, m, h3, h4⟩ := h
  exact (nnew_ok h3 hk hn hl hg hE (fun x hx => (h4 x hx).1)).mono fun e w' ⟨he, ho⟩ => ⟨he, NB.out h1 h2 h4 ho⟩
theorem nb_new_bad (h : NB B L w b g n last) {k : Int} (hk : kindB k = false) (hE : Env E B w) :
    Calls Tryd.prog 35 #[.pointer (some ⟨b, 0, none⟩), .int .i64 k] w fun e w' => e = .returned (.tuple #[.int .i64 0, errV E 4]) ∧ NB B L w' b g n last ∧ Kept B L w w' :=
  (nnew_bad hk hE).mono fun _ _ ⟨he, hb⟩ => ⟨he, h.below hb⟩
theorem nb_new_full (h : NB B L w b g n last) {k : Int} (hk : kindB k = true) (hf : 512 ≤ n ∨ 16777215 ≤ last) (hE : Env E B w) :
    Calls Tryd.prog 35 #[.pointer (some ⟨b, 0, none⟩), .int .i64 k] w fun e w' => e = .returned (.tuple #[.int .i64 0, errV E 9]) ∧ NB B L w' b g n last ∧ Kept B L w w' := by
  have h' := h
  obtain ⟨_, _, m, h3, _⟩ := h
  exact (nnew_full h3 hk hf hE).mono fun e w' ⟨he, hb⟩ => ⟨he, h'.below hb⟩
theorem nb_put (h : NB B L w b g n last) (x : Nd) (hx : validB x = true) (hn : (g x.id).isSome = false → n < 512) (hE : Env E B w) :
    Calls Tryd.prog 63 #[.pointer (some ⟨b, 0, none⟩), encN x] w fun e w' => e = .returned .nilIface ∧ NB B L w' b (upd g x.id x) (if (g x.id).isSome then n else n + 1) (max last x.id) ∧ Kept B L w w' := by
  obtain ⟨h1, h2, m, h3, h4⟩ := h
  exact (nput_ok h3 x hx hn hE).mono fun e w' ⟨he, ho⟩ => ⟨he, NB.out h1 h2 h4 ho⟩
theorem nb_put_bad (h : NB B L w b g n last) (x : Nd) (hx : validB x = false) (hE : Env E B w) :
    Calls Tryd.prog 63 #[.pointer (some ⟨b, 0, none⟩), encN x] w fun e w' => e = .returned (errV E 4) ∧ NB B L w' b g n last ∧ Kept B L w w' :=
  (nput_bad x hx hE).mono fun _ _ ⟨he, hb⟩ => ⟨he, h.below hb⟩
end

theorem Env.top {w : World} (h : Env E B w) : Env E w.heap.size w :=
  ⟨Nat.le_refl _, fun g hg => Nat.lt_of_lt_of_le (h.glt g hg) h.size, fun g hg => Nat.lt_of_lt_of_le (h.elt g hg) h.size, h.cell, h.blk, h.inj⟩

theorem number_any (x k : Int) (hk : 0 < k ∧ k ≤ 4611686018427387904) (w : World) : Calls Tryd.prog 8 #[.int .i64 x, .int .i64 k] w fun e w' => e = .returned (.int .i64 (x % k)) ∧ w = w' := by
  have h1 := Int.emod_nonneg x (b := k) (by omega)
  have h2 := Int.emod_lt_of_pos x (b := k) (by omega)
  have h3 := Int.tmod_eq_emod (a := x) (b := k)
  have h4 : (0 ≤ x.tmod k → x.tmod k = x % k) ∧ (x.tmod k < 0 → x.tmod k + k = x % k) := by
    split at h3 <;> omega
  have h5 : x.tmod k < 0 → wrap64 (x.tmod k + k) = x % k := fun h => by
    rw [h4.2 h]
    unfold wrap64
    omega
  have H4 := Lib.hid h4
  have H5 := Lib.hid h5
  clear h1 h2 h3 h4 h5
  go_enter Tryd.func8, Tryd.ntmps8
  go_wp2
  · go_ret
    exact ⟨ret_int (H5.out (by assumption)), rfl⟩
  · go_ret
    exact ⟨ret_int (H4.out.1 (by assumption)), rfl⟩
end Go.Proofs.YtjmbilbkmcebeaaDoor
