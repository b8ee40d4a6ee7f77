/- A law's own file table beside its own blocks. -/
import Derived.Test.YthominkfjfnkbaaDoorOpenMore
import Derived.Test.YthominkfjfnkbaaDoorAll
namespace Go.Proofs.YthominkfjfnkbaaDoor
open Go Go.RowKit
set_option maxRecDepth 100000
set_option linter.unusedSimpArgs false
attribute [local go_sem] giv
variable {E : Nat → Addr} {B : Nat}

/-- A law's own table: its blocks are from B on and not among L. -/
def FB (B : Nat) (L : List Nat) (w : World) (b : Nat) (g : Int → Option (Int × Int)) (n : Nat) : Prop :=
  B ≤ w.heap.size ∧ (∀ x ∈ L, x < w.heap.size) ∧ ∃ m, FilesAt w b m g n ∧ ∀ x, Own b m x → B ≤ x ∧ x ∉ L

theorem FB.new {B : Nat} {L : List Nat} (w : World) (hB : B ≤ w.heap.size) (hL : ∀ x ∈ L, x < w.heap.size) : FB B L (w.alloc (.cells #[.map none] 25)) w.heap.size (fun _ => none) 0 := by
  refine ⟨by simp; omega, fun x hx => by have := hL x hx; simp; omega, none, ⟨by simp, by simp, by simp, rfl, fun _ => rfl⟩, ?_⟩
  rintro x (rfl | h)
  · exact ⟨hB, fun hx => by have := hL _ hx; omega⟩
  · cases h
theorem FB.own_lt {w : World} {b : Nat} {m : Option Nat} {g : Int → Option (Int × Int)} {n : Nat} (h : FilesAt w b m g n) : ∀ x, Own b m x → x < w.heap.size := by
  rintro x (rfl | hx)
  · exact h.2.2.1
  · subst hx; exact h.2.2.2.2.lt
theorem FB.below {B : Nat} {L : List Nat} {w w' : World} {b : Nat} {g : Int → Option (Int × Int)} {n : Nat} (h : FB B L w b g n) (hb : Below w.heap.size w w') : FB B L w' b g n ∧ Kept B L w w' := by
  obtain ⟨h1, h2, m, h3, h4⟩ := h
  exact ⟨⟨Nat.le_trans h1 hb.size, fun x hx => Nat.lt_of_lt_of_le (h2 x hx) hb.size, m, h3.below hb, h4⟩, Kept.of_below hb h1 h2⟩
/-- A new block of the law's own beside the table. -/
theorem FB.loc {B : Nat} {L : List Nat} {w : World} {b : Nat} {g : Int → Option (Int × Int)} {n : Nat} (h : FB B L w b g n) (o : Obj) : FB B (w.heap.size :: L) (w.alloc o) b g n := by
  obtain ⟨h1, h2, m, h3, h4⟩ := h
  refine ⟨by simp; omega, fun x hx => ?_, m, h3.below (bl_alloc (Below.refl _ _) _), fun x hx => ⟨(h4 x hx).1, fun hl => ?_⟩⟩
  · rcases List.mem_cons.1 hx with rfl | hx
    · simp
    · have := h2 x hx; simp; omega
  · rcases List.mem_cons.1 hl with rfl | hl
    · exact absurd (FB.own_lt h3 _ hx) (Nat.lt_irrefl _)
    · exact (h4 x hx).2 hl
theorem FB.out {B : Nat} {L : List Nat} {w w' : World} {b : Nat} {m : Option Nat} {g' : Int → Option (Int × Int)} {n' : Nat} (hB : B ≤ w.heap.size) (hL : ∀ x ∈ L, x < w.heap.size) (ho : ∀ x, Own b m x → B ≤ x ∧ x ∉ L)
    (h : FilesOut b m g' n' w w') : FB B L w' b g' n' ∧ Kept B L w w' := by
  obtain ⟨m', h1, h2, h3⟩ := h
  refine ⟨⟨Nat.le_trans hB h2.size, fun x hx => Nat.lt_of_lt_of_le (hL x hx) h2.size, m', h1, fun x hx => ?_⟩, Kept.of_touch h2 hB hL ho⟩
  rcases h3 x hx with h | h
  · exact ho x h
  · exact ⟨Nat.le_trans hB h, fun hl => by have := hL x hl; omega⟩

section
variable {L : List Nat} {w : World} {b n : Nat} {g : Int → Option (Int × Int)}
theorem fb_open (h : FB B L w b g n) (node k : Int) (hk0 : 0 ≤ k) (hk : k < 16) (hbusy : ∀ j : Int, 0 ≤ j → j < k → g j ≠ none) (hg : g k = none) :
    Calls Tryd.prog 18 #[.pointer (some ⟨b, 0, none⟩), .int .i64 node] w fun e w' => e = .returned (.tuple #[.int .i64 k, .nilIface]) ∧ FB B L w' b (upd g k (node, 0)) (n + 1) ∧ Kept B L w w' := by
  obtain ⟨j, rfl⟩ := Int.eq_ofNat_of_zero_le hk0
  obtain ⟨h1, h2, m, h3, h4⟩ := h
  refine (open_ok h3 node (by omega) (fun i hi => hbusy i (by omega) (by omega)) hg).mono fun e w' ⟨he, ho⟩ => ⟨he, ?_⟩
  exact FB.out h1 h2 h4 ho
theorem fb_close (h : FB B L w b g n) {k : Int} (hk : -9223372036854775808 ≤ k ∧ k ≤ 9223372036854775807) {nd ps : Int} (hg : g k = some (nd, ps)) :
    Calls Tryd.prog 22 #[.pointer (some ⟨b, 0, none⟩), .int .i64 k] w fun e w' => e = .returned (.tuple #[.agg #[.int .i64 nd, .int .i64 ps], .nilIface]) ∧ FB B L w' b (del g k) (n - 1) ∧ Kept B L w w' := by
  obtain ⟨h1, h2, m, h3, h4⟩ := h
  exact (close_some h3 hk hg).mono fun e w' ⟨he, ho⟩ => ⟨he, FB.out h1 h2 h4 ho⟩
theorem fb_get (h : FB B L w b g n) {k : Int} (hk : -9223372036854775808 ≤ k ∧ k ≤ 9223372036854775807) {nd ps : Int} (hg : g k = some (nd, ps)) :
    Calls Tryd.prog 21 #[.pointer (some ⟨b, 0, none⟩), .int .i64 k] w fun e w' => e = .returned (.tuple #[.agg #[.int .i64 nd, .int .i64 ps], .nilIface]) ∧ FB B L w' b g n ∧ Kept B L w w' := by
  have h' := h
  obtain ⟨h1, h2, m, h3, h4⟩ := h
  exact (get_some h3 hk hg).mono fun e w' ⟨he, ho⟩ => ⟨he, h'.below ho⟩

/-- May a place be? -/
def inB (p : Int) : Bool := decide (0 ≤ p) && decide (p ≤ 1099511627776)
theorem fb_move (h : FB B L w b g n) {k p : Int} (hk : -9223372036854775808 ≤ k ∧ k ≤ 9223372036854775807) {nd ps : Int} (hg : g k = some (nd, ps)) (hE : Env E B w) :
    Calls Tryd.prog 19 #[.pointer (some ⟨b, 0, none⟩), .int .i64 k, .int .i64 p] w fun e w' => e = .returned (if inB p then .nilIface else errV E 1) ∧
      FB B L w' b (if inB p then upd g k (nd, p) else g) n ∧ Kept B L w w' := by
  have h' := h
  obtain ⟨h1, h2, m, h3, h4⟩ := h
  cases hp : inB p with
  | true =>
    simp [inB] at hp
    exact (move_in h3 hk hg hp).mono fun e w' ⟨he, ho⟩ => ⟨he, FB.out h1 h2 h4 ho⟩
  | false =>
    simp [inB] at hp
    exact (move_out h3 hk hg hE (by omega)).mono fun e w' ⟨he, ho⟩ => ⟨by rw [he]; rfl, h'.below ho⟩
theorem fb_bad (h : FB B L w b g n) {k p : Int} (hk : -9223372036854775808 ≤ k ∧ k ≤ 9223372036854775807) (hg : g k = none) (hE : Env E B w) :
    Calls Tryd.prog 19 #[.pointer (some ⟨b, 0, none⟩), .int .i64 k, .int .i64 p] w fun e w' => e = .returned (errV E 2) ∧ FB B L w' b g n ∧ Kept B L w w' := by
  have h' := h
  obtain ⟨h1, h2, m, h3, h4⟩ := h
  exact (move_bad h3 hk hg hE).mono fun e w' ⟨he, ho⟩ => ⟨he, h'.below ho⟩
end

theorem first20 (w : World) : Calls Tryd.prog 17 #[] w fun e w' => e = .returned (.bool true) ∧ Below w.heap.size w w' := by
  go_enter Tryd.func17, Tryd.ntmps17
  go_wp2_with fail
  refine (fb_open (B := w.heap.size) (L := []) (FB.new w (Nat.le_refl _) (by simp)) 5 0 (by omega) (by omega) (by omega) rfl).mono ?_
  rintro e w1 ⟨rfl, f1, t1⟩
  go_wp2_with fail
  refine (fb_open f1 6 1 (by omega) (by omega) (by intro j h0 h1; obtain rfl : j = 0 := by omega
                                                   simp [upd]) (by simp [upd])).mono ?_
  rintro e w2 ⟨rfl, f2, t2⟩
  go_wp2_with fail
  refine (fb_close f2 (by omega) (nd := 5) (ps := 0) (by simp [upd])).mono ?_
  rintro e w3 ⟨rfl, f3, t3⟩
  have f3' := f3.below (bl_alloc (Below.refl _ _) (.cells #[.int .i64 5, .int .i64 0] 33))
  go_wp2_with fail
  refine (fb_open f3'.1 7 0 (by omega) (by omega) (by omega) (by simp [del])).mono ?_
  rintro e w4 ⟨rfl, f4, t4⟩
  have hb : Below w.heap.size w w4 := (bl_alloc (Below.refl _ _) _).trans ((((t1.trans t2).trans t3).trans f3'.2).trans t4).below
  clear f1 t1 f2 t2 f3 t3 f3' f4 t4
  go_wp2
  go_ret
  exact ⟨rfl, hb⟩

section
variable {L : List Nat} {w : World} {b n : Nat} {g : Int → Option (Int × Int)}
theorem fb_full (h : FB B L w b g n) (node : Int) (hbusy : ∀ j : Int, 0 ≤ j → j < 16 → g j ≠ none) (hE : Env E B w) :
    Calls Tryd.prog 18 #[.pointer (some ⟨b, 0, none⟩), .int .i64 node] w fun e w' => e = .returned (.tuple #[.int .i64 0, errV E 0]) ∧ FB B L w' b g n ∧ Kept B L w w' := by
  have h' := h
  obtain ⟨h1, h2, m, h3, h4⟩ := h
  exact (open_full h3 node (fun j hj => hbusy j (by omega) (by omega)) hE).mono fun e w' ⟨he, ho⟩ => ⟨he, h'.below ho⟩
theorem fb_holds (h : FB B L w b g n) (nd : Int) :
    Calls Tryd.prog 46 #[.pointer (some ⟨b, 0, none⟩), .int .i64 nd] w fun e w' => (∃ x : Bool, e = .returned (.bool x) ∧ (x = true ↔ ∃ k p, g k = some (nd, p))) ∧ FB B L w' b g n ∧ Kept B L w w' := by
  have h' := h
  obtain ⟨h1, h2, m, h3, h4⟩ := h
  cases m with
  | none =>
    refine (holds_nil h3 nd).mono fun e w' ⟨he, ho⟩ => ⟨⟨false, he, ?_⟩, h'.below ho⟩
    have := h3.2.2.2.2
    simp [this]
  | some r => exact (holds_some h3 nd).mono fun e w' ⟨he, ho⟩ => ⟨he, h'.below ho⟩
theorem fb_all (h : FB B L w b g n) (hn : n ≤ 1000000000) : Calls Tryd.prog 45 #[.pointer (some ⟨b, 0, none⟩)] w fun e w' =>
      (∃ v ks, e = .returned v ∧ SlVals w' w.heap.size v (ks.map (Value.int .i64)) ∧ SortedKeys g ks ∧ ks.length = n) ∧ FB B L w' b g n ∧ Kept B L w w' := by
  have h' := h
  obtain ⟨h1, h2, m, h3, h4⟩ := h
  exact (fall_any h3 hn).mono fun e w' ⟨he, ho⟩ => ⟨he, h'.below ho⟩
end
end Go.Proofs.YthominkfjfnkbaaDoor
