/- The walk of the law OpenPlaces: it returns true, and nothing that was there is written. -/
import Derived.Test.YthominkfjfnkbaaDoorOpen
namespace Go.Proofs.YthominkfjfnkbaaDoor
open Go Go.RowKit
set_option maxRecDepth 100000
set_option linter.unusedSimpArgs false
attribute [local go_sem] giv
variable {E : Nat → Addr} {B : Nat}

/-- A law's own table: its blocks are from B on and not among L. -/
def FB (B : Nat) (L : List Nat) (w : World) (b : Nat) (g : Int → Option (Int × Int)) (n : Nat) : Prop :=
  B ≤ w.heap.size ∧ (∀ x ∈ L, x < w.heap.size) ∧ ∃ m, FilesAt w b m g n ∧ ∀ x, Own b m x → B ≤ x ∧ x ∉ L

theorem FB.new {B : Nat} {L : List Nat} (w : World) (hB : B ≤ w.heap.size) (hL : ∀ x ∈ L, x < w.heap.size) : FB B L (w.alloc (.cells #[.map none] 25)) w.heap.size (fun _ => none) 0 := by
  refine ⟨by simp; omega, fun x hx => by have := hL x hx; simp; omega, none, ⟨by simp, by simp, by simp, rfl, fun _ => rfl⟩, ?_⟩
  rintro x (rfl | h)
  · exact ⟨hB, fun hx => by have := hL _ hx; omega⟩
  · cases h
theorem FB.own_lt {w : World} {b : Nat} {m : Option Nat} {g : Int → Option (Int × Int)} {n : Nat} (h : FilesAt w b m g n) : ∀ x, Own b m x → x < w.heap.size := by
  rintro x (rfl | hx)
  · exact h.2.2.1
  · subst hx; exact h.2.2.2.2.lt
theorem FB.below {B : Nat} {L : List Nat} {w w' : World} {b : Nat} {g : Int → Option (Int × Int)} {n : Nat} (h : FB B L w b g n) (hb : Below w.heap.size w w') : FB B L w' b g n ∧ Kept B L w w' := by
  obtain ⟨h1, h2, m, h3, h4⟩ := h
  exact ⟨⟨Nat.le_trans h1 hb.size, fun x hx => Nat.lt_of_lt_of_le (h2 x hx) hb.size, m, h3.below hb, h4⟩, Kept.of_below hb h1 h2⟩
/-- A new block of the law's own beside the table. -/
theorem FB.loc {B : Nat} {L : List Nat} {w : World} {b : Nat} {g : Int → Option (Int × Int)} {n : Nat} (h : FB B L w b g n) (o : Obj) : FB B (w.heap.size :: L) (w.alloc o) b g n := by
  obtain ⟨h1, h2, m, h3, h4⟩ := h
  refine ⟨by simp; omega, fun x hx => ?_, m, h3.below (bl_alloc (Below.refl _ _) _), fun x hx => ⟨(h4 x hx).1, fun hl => ?_⟩⟩
  · rcases List.mem_cons.1 hx with rfl | hx
    · simp
    · have := h2 x hx; simp; omega
  · rcases List.mem_cons.1 hl with rfl | hl
    · exact absurd (FB.own_lt h3 _ hx) (Nat.lt_irrefl _)
    · exact (h4 x hx).2 hl
theorem FB.out {B : Nat} {L : List Nat} {w w' : World} {b : Nat} {m : Option Nat} {g' : Int → Option (Int × Int)} {n' : Nat} (hB : B ≤ w.heap.size) (hL : ∀ x ∈ L, x < w.heap.size) (ho : ∀ x, Own b m x → B ≤ x ∧ x ∉ L)
    (h : FilesOut b m g' n' w w') : FB B L w' b g' n' ∧ Kept B L w w' := by
  obtain ⟨m', h1, h2, h3⟩ := h
  refine ⟨⟨Nat.le_trans hB h2.size, fun x hx => Nat.lt_of_lt_of_le (hL x hx) h2.size, m', h1, fun x hx => ?_⟩, Kept.of_touch h2 hB hL ho⟩
  rcases h3 x hx with h | h
  · exact ho x h
  · exact ⟨Nat.le_trans hB h, fun hl => by have := hL x hl; omega⟩

section
variable {L : List Nat} {w : World} {b n : Nat} {g : Int → Option (Int × Int)}
theorem fb_open (h : FB B L w b g n) (node k : Int) (hk0 : 0 ≤ k) (hk : k < 16) (hbusy : ∀ j : Int, 0 ≤ j → j < k → g j ≠ none) (hg : g k = none) :
    Calls Tryd.prog 18 #[.pointer (some ⟨b, 0, none⟩), .int .i64 node] w fun e w' => e = .returned (.tuple #[.int .i64 k, .nilIface]) ∧ FB B L w' b (upd g k (node, 0)) (n + 1) ∧ Kept B L w w' := by
  obtain ⟨j, rfl⟩ := Int.eq_ofNat_of_zero_le hk0
  obtain ⟨h1, h2, m, h3, h4⟩ := h
  refine (open_ok h3 node (by omega) (fun i hi => hbusy i (by omega) (by omega)) hg).mono fun e w' ⟨he, ho⟩ => ⟨he, ?_⟩
  exact FB.out h1 h2 h4 ho
theorem fb_close (h : FB B L w b g n) {k : Int} (hk : -9223372036854775808 ≤ k ∧ k ≤ 9223372036854775807) {nd ps : Int} (hg : g k = some (nd, ps)) :
    Calls Tryd.prog 22 #[.pointer (some ⟨b, 0, none⟩), .int .i64 k] w fun e w' => e = .returned (.tuple #[.agg #[.int .i64 nd, .int .i64 ps], .nilIface]) ∧ FB B L w' b (del g k) (n - 1) ∧ Kept B L w w' := by
  obtain ⟨h1, h2, m, h3, h4⟩ := h
  exact (close_some h3 hk hg).mono fun e w' ⟨he, ho⟩ => ⟨he, FB.out h1 h2 h4 ho⟩
theorem fb_get (h : FB B L w b g n) {k : Int} (hk : -9223372036854775808 ≤ k ∧ k ≤ 9223372036854775807) {nd ps : Int} (hg : g k = some (nd, ps)) :
    Calls Tryd.prog 21 #[.pointer (some ⟨b, 0, none⟩), .int .i64 k] w fun e w' => e = .returned (.tuple #[.agg #[.int .i64 nd, .int .i64 ps], .nilIface]) ∧ FB B L w' b g n ∧ Kept B L w w' := by
  have h' := h
  obtain ⟨h1, h2, m, h3, h4⟩ := h
  exact (get_some h3 hk hg).mono fun e w' ⟨he, ho⟩ => ⟨he, h'.below ho⟩

/-- May a place be? -/
def inB (p : Int) : Bool := decide (0 ≤ p) && decide (p ≤ 1099511627776)
theorem fb_move (h : FB B L w b g n) {k p : Int} (hk : -9223372036854775808 ≤ k ∧ k ≤ 9223372036854775807) {nd ps : Int} (hg : g k = some (nd, ps)) (hE : Env E B w) :
    Calls Tryd.prog 19 #[.pointer (some ⟨b, 0, none⟩), .int .i64 k, .int .i64 p] w fun e w' => e = .returned (if inB p then .nilIface else errV E 1) ∧
      FB B L w' b (if inB p then upd g k (nd, p) else g) n ∧ Kept B L w w' := by
  have h' := h
  obtain ⟨h1, h2, m, h3, h4⟩ := h
  cases hp : inB p with
  | true =>
    simp [inB] at hp
    exact (move_in h3 hk hg hp).mono fun e w' ⟨he, ho⟩ => ⟨he, FB.out h1 h2 h4 ho⟩
  | false =>
    simp [inB] at hp
    exact (move_out h3 hk hg hE (by omega)).mono fun e w' ⟨he, ho⟩ => ⟨by rw [he]; rfl, h'.below ho⟩
theorem fb_bad (h : FB B L w b g n) {k p : Int} (hk : -9223372036854775808 ≤ k ∧ k ≤ 9223372036854775807) (hg : g k = none) (hE : Env E B w) :
    Calls Tryd.prog 19 #[.pointer (some ⟨b, 0, none⟩), .int .i64 k, .int .i64 p] w fun e w' => e = .returned (errV E 2) ∧ FB B L w' b g n ∧ Kept B L w w' := by
  have h' := h
  obtain ⟨h1, h2, m, h3, h4⟩ := h
  exact (move_bad h3 hk hg hE).mono fun e w' ⟨he, ho⟩ => ⟨he, h'.below ho⟩
end

theorem first20 (w : World) : Calls Tryd.prog 17 #[] w fun e w' => e = .returned (.bool true) ∧ Below w.heap.size w w' := by
  go_enter Tryd.func17, Tryd.ntmps17
  go_wp2_with fail
  refine (fb_open (B := w.heap.size) (L := []) (FB.new w (Nat.le_refl _) (by simp)) 5 0 (by omega) (by omega) (by omega) rfl).mono ?_
  rintro e w1 ⟨rfl, f1, t1⟩
  go_wp2_with fail
  refine (fb_open f1 6 1 (by omega) (by omega) (by intro j h0 h1; obtain rfl : j = 0 := by omega
                                                   simp [upd]) (by simp [upd])).mono ?_
  rintro e w2 ⟨rfl, f2, t2⟩
  go_wp2_with fail
  refine (fb_close f2 (by omega) (nd := 5) (ps := 0) (by simp [upd])).mono ?_
  rintro e w3 ⟨rfl, f3, t3⟩
  have f3' := f3.below (bl_alloc (Below.refl _ _) (.cells #[.int .i64 5, .int .i64 0] 33))
  go_wp2_with fail
  refine (fb_open f3'.1 7 0 (by omega) (by omega) (by omega) (by simp [del])).mono ?_
  rintro e w4 ⟨rfl, f4, t4⟩
  have hb : Below w.heap.size w w4 := (bl_alloc (Below.refl _ _) _).trans ((((t1.trans t2).trans t3).trans f3'.2).trans t4).below
  clear f1 t1 f2 t2 f3 t3 f3' f4 t4
  go_wp2
  go_ret
  exact ⟨rfl, hb⟩

theorem in_any (p : Int) (w : World) : Calls Tryd.prog 20 #[.int .i64 p] w fun e w' => e = .returned (.bool (inB p)) ∧ w = w' := by
  by_cases h0 : 0 ≤ p
  · go_enter Tryd.func20, Tryd.ntmps20
    go_wp2
    go_ret
    exact ⟨ret_bool (by simp [inB, h0]), rfl⟩
  · have h1 : decide (0 ≤ p) = false := decide_eq_false h0
    go_enter Tryd.func20, Tryd.ntmps20
    go_wp2
    go_ret
    exact ⟨ret_bool (by unfold inB; rw [h1]; rfl), rfl⟩

/-- The place behind a move. -/
def at' (x : Bool) (p : Int) : Int := if x then p else 0

set_option maxHeartbeats 4000000 in
theorem places_any (a c : Int) (w : World) (hE : Env E B w) :
    Calls Tryd.prog 3 #[.int .i64 a, .int .i64 c] w fun e w' => e = .returned (.bool true) ∧ Below B w w' := by
  have hB := hE.size
  go_enter Tryd.func3, Tryd.ntmps3
  go_wp2_with fail
  refine (first20 _).mono ?_
  rintro e w1 ⟨rfl, hb1⟩
  have hE1 := hE.below hb1
  have HB1 := Lib.hid (hb1.mono hB)
  clear hb1 hE
  go_wp2_with fail
  refine (fb_open (B := B) (L := []) (FB.new w1 hE1.size (by simp)) 7 0 (by omega) (by omega) (by omega) rfl).mono ?_
  rintro e w2 ⟨rfl, f2, t2⟩
  go_wp2_with fail
  refine (fb_open f2 7 1 (by omega) (by omega) (by intro j h0 h1; obtain rfl : j = 0 := by omega
                                                   simp [upd]) (by simp [upd])).mono ?_
  rintro e w3 ⟨rfl, f3, t3⟩
  have hE3 : Env E B w3 := (hE1.alloc _).keep (t2.trans t3).below
  have HB3 := Lib.hid (HB1.out.trans ((bl_alloc (Below.refl _ _) _).mono hE1.size |>.trans (t2.trans t3).below))
  clear f2 t2 t3 hE1
  generalize w1.heap.size = b at *
  cases hA : inB a
  all_goals
    cases hC : inB c
  all_goals
    go_wp2_with fail
    refine (fb_move f3 (p := a) (by omega) (nd := 7) (ps := 0) (by simp [upd]) hE3).mono ?_
    rintro e w4 ⟨rfl, f4, t4⟩
    rw [hA] at f4 ⊢
    simp only [if_true, if_false, Bool.false_eq_true] at f4 ⊢
    have hE4 := hE3.keep t4.below
    go_wp2_with fail
    refine (fb_move f4 (p := c) (by omega) (nd := 7) (ps := 0) (by simp [upd]) hE4).mono ?_
    rintro e w5 ⟨rfl, f5, t5⟩
    rw [hC] at f5 ⊢
    simp only [if_true, if_false, Bool.false_eq_true] at f5 ⊢
    have hE5 := hE4.keep t5.below
    go_wp2_with fail
  all_goals
    refine (fb_get f5 (k := 0) (nd := 7) (ps := if inB a then a else 0) (by omega) (by simp [upd, hA])).mono ?_
    rintro e w6 ⟨rfl, f6, t6⟩
    rw [hA]
    simp only [if_true, if_false, Bool.false_eq_true]
    have f6' := f6.loc (.cells #[.int .i64 7, .int .i64 (if inB a then a else 0)] 33)
    rw [hA] at f6'
    simp only [if_true, if_false, Bool.false_eq_true] at f6'
    have hE6 := (hE5.keep t6.below).alloc (.cells #[.int .i64 7, .int .i64 (if inB a then a else 0)] 33)
    rw [hA] at hE6
    simp only [if_true, if_false, Bool.false_eq_true] at hE6
    go_wp2_with fail
    refine (fb_get f6' (k := 1) (nd := 7) (ps := if inB c then c else 0) (by omega) (by simp [upd, hC])).mono ?_
    rintro e w7 ⟨rfl, f7, t7⟩
    rw [hC]
    simp only [if_true, if_false, Bool.false_eq_true]
    have f7' := f7.loc (.cells #[.int .i64 7, .int .i64 (if inB c then c else 0)] 33)
    rw [hC] at f7'
    simp only [if_true, if_false, Bool.false_eq_true] at f7'
    go_wp2_with fail
  all_goals
    have hE8 : Env E B (w7.alloc (.cells #[.int .i64 7, .int .i64 (if inB c then c else 0)] 33)) := (hE6.keep t7.below).alloc _
    have HB8 : Below B w (w7.alloc (.cells #[.int .i64 7, .int .i64 (if inB c then c else 0)] 33)) :=
      (((HB3.out.trans (t4.trans t5).below).trans t6.below).trans ((bl_alloc (Below.refl _ _) _).mono (by have := (hE5.keep t6.below).size; omega))).trans (t7.below.trans ((bl_alloc (Below.refl _ _) _).mono (hE6.keep t7.below).size))
    have c14 : (w7.alloc (.cells #[.int .i64 7, .int .i64 (if inB c then c else 0)] 33)).cell? ⟨w6.heap.size, 1, none⟩ = some (.int .i64 (if inB a then a else 0)) := by
      have h1 := t7.cell (x := w6.heap.size) (by simp) 1
      rw [World.cell?_alloc_lt _ _ _ (by have := t7.below.size; simp at this; show w6.heap.size < w7.heap.size; omega), h1, hA]
      simp
    have c16 : (w7.alloc (.cells #[.int .i64 7, .int .i64 (if inB c then c else 0)] 33)).cell? ⟨w7.heap.size, 1, none⟩ = some (.int .i64 (if inB c then c else 0)) := by simp
    have l14 : w6.heap.size < (w7.alloc (.cells #[.int .i64 7, .int .i64 (if inB c then c else 0)] 33)).heap.size := by have := t7.below.size; simp at this ⊢; omega
    have l16 : w7.heap.size < (w7.alloc (.cells #[.int .i64 7, .int .i64 (if inB c then c else 0)] 33)).heap.size := by simp
    rw [hC] at hE8 HB8 c14 c16 l14 l16
    rw [hA] at c14
    simp only [if_true, if_false, Bool.false_eq_true] at hE8 HB8 c14 c16 l14 l16
    clear f3 f4 t4 f5 t5 f6 t6 f6' f7 t7 hE3 hE4 hE5 hE6 HB1 HB3
    generalize w6.heap.size = p14 at *
    generalize hp16 : w7.heap.size = p16 at f7' c16 l16 ⊢
    generalize hw8 : w7.alloc _ = w8 at *
  all_goals
    have HA := Lib.hid hA
    have HC := Lib.hid hC
    have S : ∀ w', Below w8.heap.size w8 w' → w'.cell? ⟨p14, 1, none⟩ = some (.int .i64 (if inB a then a else 0)) ∧ w'.cell? ⟨p16, 1, none⟩ = some (.int .i64 (if inB c then c else 0)) := by
      intro w' hb
      obtain ⟨hc, _⟩ := bcell hb
      rw [hA, hC]
      exact ⟨(hc _ _ l14).trans c14, (hc _ _ l16).trans c16⟩
    rw [hA, hC] at S
    simp only [if_true, if_false, Bool.false_eq_true] at S
    clear hA hC hp16 c14 c16
    apply wp_region_rel _ (by kernel_rfl) (by kernel_rfl) (fun w' => Below w8.heap.size w8 w') (fun w' w'' => Below w'.heap.size w' w'') (fun w' w'' h1 h2 => bl_trans h1 h2) (Below.refl _ _).drew
    repeat (first
      | (apply wpRel_skip (by rfl)
         simp only [Act.put, List.setIfInBounds_toArray, List.set_cons_zero, List.set_cons_succ])
      | (apply wpRel_fix (by rfl)
         · intro w' hD hf R hR
           go_simp
           exact hR _ (Below.refl _ _)
         simp only [Act.put, List.setIfInBounds_toArray, List.set_cons_zero, List.set_cons_succ])
      | (apply wpRel_fix (by rfl)
         · intro w' hD hf R hR
           go_simp
           refine (in_any _ _).mono ?_
           rintro e w3 ⟨rfl, rfl⟩
           first | rw [HA.out] | rw [HC.out]
           exact ⟨_, rfl, hR _ (Below.refl _ _)⟩
         simp only [Act.put, List.setIfInBounds_toArray, List.set_cons_zero, List.set_cons_succ]))
    refine wpRel_nil (fun w9 hD hf => ?_)
    go_wp2_with fail
  all_goals
    have f9 := (f7'.below hD).1
    have hE9 := hE8.below hD
    have hB9 := HB8.trans (hD.mono (by have := hE8.size; omega))
    have c14 := (S w9 hD).1
    have S' := Lib.hid (S w9 hD).1
    clear f7' hE8 HB8 S hD hf l14 l16
    refine (fb_close f9 (k := 0) (nd := 7) (ps := if inB a then a else 0) (by omega) (by simp [upd, HA.out])).mono ?_
    rintro e w10 ⟨rfl, f10, t10⟩
    rw [HA.out]
    simp only [if_true, if_false, Bool.false_eq_true]
    have f10' := f10.loc (.cells #[.int .i64 7, .int .i64 (if inB a then a else 0)] 33)
    have hE10 := (hE9.keep t10.below).alloc (.cells #[.int .i64 7, .int .i64 (if inB a then a else 0)] 33)
    rw [HA.out] at f10' hE10
    simp only [if_true, if_false, Bool.false_eq_true] at f10' hE10
    go_wp2_with fail
    refine (fb_open f10' 8 0 (by omega) (by omega) (by omega) (by simp [del])).mono ?_
    rintro e w11 ⟨rfl, f11, t11⟩
    have hE11 := hE10.keep t11.below
    go_wp2_with fail
    refine (fb_get f11 (k := 0) (nd := 8) (ps := 0) (by omega) (by simp [upd])).mono ?_
    rintro e w12 ⟨rfl, f12, t12⟩
    have f12' := f12.loc (.cells #[.int .i64 8, .int .i64 0] 33)
    have hE12 := (hE11.keep t12.below).alloc (.cells #[.int .i64 8, .int .i64 0] 33)
    have z0 : w12.cell? ⟨w10.heap.size, 0, none⟩ = some (.int .i64 7) := by
      rw [t12.cell (by simp) 0, t11.cell (by simp) 0]; simp
    have z1 : w12.cell? ⟨w10.heap.size, 1, none⟩ = some (.int .i64 (if inB a then a else 0)) := by
      rw [t12.cell (by simp) 1, t11.cell (by simp) 1, HA.out]; simp
    have p1 : w12.cell? ⟨p14, 1, none⟩ = some (.int .i64 (if inB a then a else 0)) := by
      have hne : p14 < w10.heap.size := f10.2.1 _ (by simp)
      rw [t12.cell (by simp) 1, t11.cell (by simp) 1, World.cell?_alloc_lt _ _ _ (by exact hne), t10.cell (by simp) 1, HA.out]
      simpa using S'.out
    have lz : w10.heap.size < w12.heap.size := by
      have h1 := t11.below.size
      have h2 := t12.below.size
      simp at h1
      omega
    have lp : p14 < w12.heap.size := f12.2.1 _ (by simp)
    rw [HA.out] at z1 p1
    simp only [if_true, if_false, Bool.false_eq_true] at z1 p1
    have hB12 : Below B w (w12.alloc (.cells #[.int .i64 8, .int .i64 0] 33)) := by
      refine (((hB9.trans t10.below).trans ((bl_alloc (Below.refl _ _) _).mono (hE9.keep t10.below).size)).trans (t11.below.trans t12.below)).trans ((bl_alloc (Below.refl _ _) _).mono ?_)
      exact (hE11.keep t12.below).size
    have HB12 := Lib.hid hB12
    clear f9 c14 t10 t11 t12 f10 f10' f11 f12 hB12 hB9 hE9 hE10 hE11 HA HC S'
    have hcode : codeOf 2 = 121 := by decide
    go_wp2_with fail
    refine (fb_bad f12' (k := 9) (p := 1) (by omega) (by simp [upd, del]) hE12).mono ?_
    rintro e w13 ⟨rfl, f13, t13⟩
    have hE13 := hE12.keep t13.below
    go_wp2_with fail
    refine (is_err (g := 2) (by decide) 121 _ hE13).mono ?_
    rintro e w14 ⟨rfl, hb14⟩
    rw [hcode]
    go_wp2
    go_ret
    exact ⟨rfl, (HB12.out.trans t13.below).trans (hb14.mono hE13.size)⟩
end Go.Proofs.YthominkfjfnkbaaDoor
