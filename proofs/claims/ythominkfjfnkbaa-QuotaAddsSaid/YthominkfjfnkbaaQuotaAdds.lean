/- The walk of the law QuotaAdds: it returns true, and nothing that was there is written. -/
import Derived.Test.YthominkfjfnkbaaQuota
import Derived.Test.YthominkfjfnkbaaRegion
import Derived.Deep.RegionHeld3
import Derived.Deep.RegionWith
namespace Go.Proofs.Ythominkfjfnkbaa
open Go.RowKit
def number (n k : Int) : Int := if n.tmod k < 0 then n.tmod k + k else n.tmod k
theorem tmod_bd (n k : Int) (hk : 0 < k) : -k < n.tmod k ∧ n.tmod k < k := by
  refine ⟨?_, Int.tmod_lt_of_pos n hk⟩
  rcases Int.le_total 0 n with h | h
  · have := Int.tmod_nonneg k h
    omega
  · have h1 := Int.tmod_lt_of_pos (-n) hk
    rw [Int.neg_tmod] at h1
    omega
theorem number_bd (n k : Int) (hk : 0 < k) : 0 ≤ number n k ∧ number n k < k := by
  have := tmod_bd n k hk
  unfold number
  split <;> omega
theorem number_any (n k : Int) (w : World) (hk : 0 < k) (hk2 : k < 1000000000):
    Calls Try.prog 9 #[.int .i64 n, .int .i64 k] w fun e w' => e = .returned (.int .i64 (number n k)) ∧ w = w' := by
  have h1 := (tmod_bd n k hk).1
  have h2 := (tmod_bd n k hk).2
  go_enter Try.func9, Try.ntmps9
  go_wp2
  · go_ret
    exact ⟨ret_int (by unfold number; split <;> omega), rfl⟩
  · go_ret
    exact ⟨ret_int (by unfold number; split <;> omega), rfl⟩
theorem charge_one (b : Nat) (a1 a2 a3 : Int) (w : World)
   (h0 : w.cell? ⟨b, 0, none⟩ = some (.int .i64 a1)) (h1 : w.cell? ⟨b, 1, none⟩ = some (.int .i64 a2)) (h2 : w.cell? ⟨b, 2, none⟩ = some (.int .i64 a3)) 
   (ha : 0 ≤ a1 ∧ a1 ≤ 1000 ∧ 0 ≤ a2 ∧ a2 ≤ 1000 ∧ 0 ≤ a3 ∧ a3 ≤ 1000) (X : Int) (hX : a1 + a2 + a3 = X) :
    Calls Try.prog 6 #[.slice (some ⟨b, 0, none⟩) 1 1] w fun e w' => e = .returned (.int .i64 X) ∧ Below w.heap.size w w' := by
  have e : chgs (fun _ => a1) (fun _ => a2) (fun _ => a3) 1 = a1 + a2 + a3 := by simp only [chgs, chg3, chg1]; omega
  rw [← hX, ← e]
  exact charge_any b 0 1 1 _ _ _ w (by omega) (by decide) (fun i hi => by obtain rfl : i = 0 := by omega
                                                                          exact h0) (fun i hi => by obtain rfl : i = 0 := by omega
                                                                                                    exact h1) (fun i hi => by obtain rfl : i = 0 := by omega
                                                                                                                              exact h2)
def two (a b : Int) (i : Nat) : Int := if i = 0 then a else b
theorem two_cell (b s : Nat) (a a' : Int) (w : World) (h0 : w.cell? ⟨b, s, none⟩ = some (.int .i64 a)) (h1 : w.cell? ⟨b, s + 3, none⟩ = some (.int .i64 a')) :
   ∀ i, i < 2 → w.cell? ⟨b, 0 + i * 3 + s, none⟩ = some (.int .i64 (two a a' i)) := by
  intro i hi
  rcases (by omega : i = 0 ∨ i = 1) with rfl | rfl
  · simpa [two] using h0
  · simpa [two, Nat.add_comm] using h1
theorem two_chg (a1 a2 a3 b1 b2 b3 : Int) (ha : 0 ≤ a1 ∧ a1 ≤ 1000 ∧ 0 ≤ a2 ∧ a2 ≤ 1000 ∧ 0 ≤ a3 ∧ a3 ≤ 1000) (hb : 0 ≤ b1 ∧ b1 ≤ 1000 ∧ 0 ≤ b2 ∧ b2 ≤ 1000 ∧ 0 ≤ b3 ∧ b3 ≤ 1000) : 
  chgs (two a1 b1) (two a2 b2) (two a3 b3) 2 = a1 + a2 + a3 + (b1 + b2 + b3) := by simp [chgs, chg3, chg1, two]; omega
theorem charge_two (b : Nat) (a1 a2 a3 b1 b2 b3 : Int) (w : World)
   (h0 : w.cell? ⟨b, 0, none⟩ = some (.int .i64 a1)) (h1 : w.cell? ⟨b, 1, none⟩ = some (.int .i64 a2)) (h2 : w.cell? ⟨b, 2, none⟩ = some (.int .i64 a3)) 
   (h3 : w.cell? ⟨b, 3, none⟩ = some (.int .i64 b1)) (h4 : w.cell? ⟨b, 4, none⟩ = some (.int .i64 b2)) (h5 : w.cell? ⟨b, 5, none⟩ = some (.int .i64 b3)) 
   (ha : 0 ≤ a1 ∧ a1 ≤ 1000 ∧ 0 ≤ a2 ∧ a2 ≤ 1000 ∧ 0 ≤ a3 ∧ a3 ≤ 1000) (hb : 0 ≤ b1 ∧ b1 ≤ 1000 ∧ 0 ≤ b2 ∧ b2 ≤ 1000 ∧ 0 ≤ b3 ∧ b3 ≤ 1000) (N : Int) (hN : a1 + a2 + a3 + (b1 + b2 + b3) = N) :
    Calls Try.prog 6 #[.slice (some ⟨b, 0, none⟩) 2 2] w fun e w' => e = .returned (.int .i64 N) ∧ Below w.heap.size w w' := by
  rw [← hN, ← two_chg a1 a2 a3 b1 b2 b3 ha hb]
  exact charge_any b 0 2 2 _ _ _ w (by omega) (by decide) (two_cell b 0 _ _ w h0 h3) (two_cell b 1 _ _ w h1 h4) (two_cell b 2 _ _ w h2 h5)
theorem fits_two (q : Int) (b : Nat) (a1 a2 a3 b1 b2 b3 : Int) (w : World)
   (h0 : w.cell? ⟨b, 0, none⟩ = some (.int .i64 a1)) (h1 : w.cell? ⟨b, 1, none⟩ = some (.int .i64 a2)) (h2 : w.cell? ⟨b, 2, none⟩ = some (.int .i64 a3)) 
   (h3 : w.cell? ⟨b, 3, none⟩ = some (.int .i64 b1)) (h4 : w.cell? ⟨b, 4, none⟩ = some (.int .i64 b2)) (h5 : w.cell? ⟨b, 5, none⟩ = some (.int .i64 b3)) 
   (ha : 0 ≤ a1 ∧ a1 ≤ 1000 ∧ 0 ≤ a2 ∧ a2 ≤ 1000 ∧ 0 ≤ a3 ∧ a3 ≤ 1000) (hb : 0 ≤ b1 ∧ b1 ≤ 1000 ∧ 0 ≤ b2 ∧ b2 ≤ 1000 ∧ 0 ≤ b3 ∧ b3 ≤ 1000) (N : Int) (hN : a1 + a2 + a3 + (b1 + b2 + b3) = N) :
    Calls Try.prog 7 #[.int .i64 q, .slice (some ⟨b, 0, none⟩) 2 2] w fun e w' => e = .returned (.bool (decide (N ≤ q))) ∧ Below w.heap.size w w' := by
  rw [← hN, ← two_chg a1 a2 a3 b1 b2 b3 ha hb]
  exact fits_any q b 0 2 2 _ _ _ w (by omega) (by decide) (two_cell b 0 _ _ w h0 h3) (two_cell b 1 _ _ w h1 h4) (two_cell b 2 _ _ w h2 h5)
theorem left_two (q : Int) (b : Nat) (a1 a2 a3 b1 b2 b3 : Int) (w : World) (hq : 0 ≤ q ∧ q ≤ 5000)
   (h0 : w.cell? ⟨b, 0, none⟩ = some (.int .i64 a1)) (h1 : w.cell? ⟨b, 1, none⟩ = some (.int .i64 a2)) (h2 : w.cell? ⟨b, 2, none⟩ = some (.int .i64 a3)) 
   (h3 : w.cell? ⟨b, 3, none⟩ = some (.int .i64 b1)) (h4 : w.cell? ⟨b, 4, none⟩ = some (.int .i64 b2)) (h5 : w.cell? ⟨b, 5, none⟩ = some (.int .i64 b3)) 
   (ha : 0 ≤ a1 ∧ a1 ≤ 1000 ∧ 0 ≤ a2 ∧ a2 ≤ 1000 ∧ 0 ≤ a3 ∧ a3 ≤ 1000) (hb : 0 ≤ b1 ∧ b1 ≤ 1000 ∧ 0 ≤ b2 ∧ b2 ≤ 1000 ∧ 0 ≤ b3 ∧ b3 ≤ 1000) (N : Int) (hN : a1 + a2 + a3 + (b1 + b2 + b3) = N) :
    Calls Try.prog 8 #[.int .i64 q, .slice (some ⟨b, 0, none⟩) 2 2] w fun e w' => e = .returned (.int .i64 (max 0 (q - N))) ∧ Below w.heap.size w w' := by
  rw [← hN, ← two_chg a1 a2 a3 b1 b2 b3 ha hb]
  exact left_any q b 0 2 2 _ _ _ w (by omega) (by decide) (by omega) (two_cell b 0 _ _ w h0 h3) (two_cell b 1 _ _ w h1 h4) (two_cell b 2 _ _ w h2 h5)
theorem bcell {W w1 : World} (hb : Below W.heap.size W w1) : (∀ b o, b < W.heap.size → w1.cell? ⟨b, o, none⟩ = W.cell? ⟨b, o, none⟩) ∧ W.heap.size ≤ w1.heap.size :=
  ⟨fun b o h => hb.cell (p := ⟨b, o, none⟩) h, hb.size⟩
theorem bl_alloc {a w : World} (h : Below a.heap.size a w) (o : Obj) : Below a.heap.size a (w.alloc o) := h.alloc h.size o
theorem bl_trans {a w w1 : World} (h : Below a.heap.size a w) (k : Below w.heap.size w w1) : Below a.heap.size a w1 := h.trans (k.mono h.size)
theorem adds_S (w4 : World) (P : Nat) (A B C : Int) (x0 : w4.cell? ⟨P, 0, none⟩ = some (.int .i64 A)) (x1 : w4.cell? ⟨P, 1, none⟩ = some (.int .i64 B)) (x2 : w4.cell? ⟨P, 2, none⟩ = some (.int .i64 0))
   (y0 : w4.cell? ⟨P+1, 0, none⟩ = some (.int .i64 0)) (y1 : w4.cell? ⟨P+1, 1, none⟩ = some (.int .i64 3)) (y2 : w4.cell? ⟨P+1, 2, none⟩ = some (.int .i64 C)) (hs : P + 1 < w4.heap.size)
   (w' : World) (h : Below w4.heap.size w4 w') : 
    w'.cell? ⟨P, 0, none⟩ = some (.int .i64 A) ∧ w'.cell? ⟨P, 1, none⟩ = some (.int .i64 B) ∧ w'.cell? ⟨P, 2, none⟩ = some (.int .i64 0) ∧ w'.cell? ⟨P+1, 0, none⟩ = some (.int .i64 0) ∧ w'.cell? ⟨P+1, 1, none⟩ = some (.int .i64 3) ∧ w'.cell? ⟨P+1, 2, none⟩ = some (.int .i64 C) ∧ Below w4.heap.size w4 w' := by
  obtain ⟨hc, _⟩ := bcell h
  have h1 : P < w4.heap.size := by omega
  simp only [hc _ _ h1, hc _ _ hs]
  exact ⟨x0, x1, x2, y0, y1, y2, h⟩
/-- A slice that a region makes: its cells are these. -/
def SlAt (xs : Array Value) (n : Nat) (v : Value) (w : World) : Prop := ∃ b, v = .slice (some ⟨b, 0, none⟩) n n ∧ b < w.heap.size ∧ ∀ i, w.cell? ⟨b, i, none⟩ = xs[i]?
theorem slAt_keep {xs : Array Value} {n : Nat} (v : Value) (w w' : World) (h : SlAt xs n v w) (hb : Below w.heap.size w w') : SlAt xs n v w' := by
  obtain ⟨b, rfl, h1, h2⟩ := h
  exact ⟨b, rfl, Nat.lt_of_lt_of_le h1 hb.size, fun i => (hb.cell (p := ⟨b, i, none⟩) h1).trans (h2 i)⟩
theorem slAt_new (w : World) (xs : Array Value) (n : Nat) (T : TypeId) : SlAt xs n (.slice (some ⟨w.heap.size, 0, none⟩) n n) (w.alloc (.cells xs T)) :=
  ⟨_, rfl, by simp, fun i => by simp⟩
attribute [local go_sem] giv
set_option maxRecDepth 100000 in
set_option maxHeartbeats 1000000 in
theorem adds_any (a0 a1 a2 a3 : Int) (w : World) : 
    Calls Try.prog 4 #[.int .i64 a0, .int .i64 a1, .int .i64 a2, .int .i64 a3] w fun e w' => e = .returned (.bool true) ∧ Below w.heap.size w w' := by
  have n0 := number_bd a0 1000 (by omega)
  have n1 := number_bd a1 1000 (by omega)
  have n2 := number_bd a2 1000 (by omega)
  have n3 := number_bd a3 5000 (by omega)
  go_enter Try.func4, Try.ntmps4
  go_wp2_with fail
  refine (first_any _).mono ?_
  rintro e w1 ⟨rfl, hb1⟩
  go_wp2_with fail
  refine (number_any _ _ _ (by omega) (by omega)).mono ?_
  rintro e w2 ⟨rfl, rfl⟩
  go_wp2_with fail
  refine (number_any _ _ _ (by omega) (by omega)).mono ?_
  rintro e w2 ⟨rfl, rfl⟩
  go_wp2_with fail
  refine (number_any _ _ _ (by omega) (by omega)).mono ?_
  rintro e w2 ⟨rfl, rfl⟩
  go_wp2_with fail
  refine (number_any _ _ _ (by omega) (by omega)).mono ?_
  rintro e w2 ⟨rfl, rfl⟩
  generalize number a0 1000 = A at *
  generalize number a1 1000 = B at *
  generalize number a2 1000 = C at *
  generalize number a3 5000 = D at *
  obtain ⟨X, hX⟩ : ∃ X, A + B + 0 = X := ⟨_, rfl⟩
  obtain ⟨Y, hY⟩ : ∃ Y, 0 + 3 + C = Y := ⟨_, rfl⟩
  have bX : 0 ≤ X ∧ X ≤ 2000 := by omega
  have bY : 0 ≤ Y ∧ Y ≤ 2000 := by omega
  obtain ⟨N, hN⟩ : ∃ N, A + B + 0 + (0 + 3 + C) = N := ⟨_, rfl⟩
  have bN : 0 ≤ N ∧ N ≤ 4000 := by omega
  have hXY := Lib.hid (show X + Y = N by omega)
  have HN := Lib.hid hN
  clear hN
  have HX := Lib.hid hX
  have HY := Lib.hid hY
  clear hX hY
  go_wp2_with fail
  refine (charge_two _ A B 0 0 3 C _ (by go_simp) (by go_simp) (by go_simp) (by go_simp) (by go_simp) (by go_simp) (by omega) (by omega) N HN.out).mono ?_
  rintro e w3 ⟨rfl, hb3⟩
  obtain ⟨hc3, hs3⟩ := bcell hb3
  go_wp2_with fail
  refine (left_two D _ A B 0 0 3 C _ (by omega) (by go_simp) (by go_simp) (by go_simp) (by go_simp) (by go_simp) (by go_simp) (by omega) (by omega) N HN.out).mono ?_
  rintro e w4 ⟨rfl, hb4⟩
  have hs3' : w1.heap.size + 1 + 1 < w3.heap.size := by simp at hs3; omega
  obtain ⟨hc4, hs4⟩ := bcell hb4
  have hs4' : w3.heap.size < w4.heap.size := by simp at hs4; omega
  have x0 : w4.cell? ⟨w1.heap.size, 0, none⟩ = some (.int .i64 A) := by
    rw [hc4 _ _ (by simp <;> omega), World.cell?_alloc_lt _ _ _ (by simp <;> omega), hc3 _ _ (by simp <;> omega)]
    go_simp
  have x1 : w4.cell? ⟨w1.heap.size, 1, none⟩ = some (.int .i64 B) := by
    rw [hc4 _ _ (by simp <;> omega), World.cell?_alloc_lt _ _ _ (by simp <;> omega), hc3 _ _ (by simp <;> omega)]
    go_simp
  have x2 : w4.cell? ⟨w1.heap.size, 2, none⟩ = some (.int .i64 0) := by
    rw [hc4 _ _ (by simp <;> omega), World.cell?_alloc_lt _ _ _ (by simp <;> omega), hc3 _ _ (by simp <;> omega)]
    go_simp
  have y0 : w4.cell? ⟨w1.heap.size+1, 0, none⟩ = some (.int .i64 0) := by
    rw [hc4 _ _ (by simp <;> omega), World.cell?_alloc_lt _ _ _ (by simp <;> omega), hc3 _ _ (by simp <;> omega)]
    go_simp
  have y1 : w4.cell? ⟨w1.heap.size+1, 1, none⟩ = some (.int .i64 3) := by
    rw [hc4 _ _ (by simp <;> omega), World.cell?_alloc_lt _ _ _ (by simp <;> omega), hc3 _ _ (by simp <;> omega)]
    go_simp
  have y2 : w4.cell? ⟨w1.heap.size+1, 2, none⟩ = some (.int .i64 C) := by
    rw [hc4 _ _ (by simp <;> omega), World.cell?_alloc_lt _ _ _ (by simp <;> omega), hc3 _ _ (by simp <;> omega)]
    go_simp
  have hb0 : Below w.heap.size w w4 := by
    have e1 := hb1.size
    refine Below.trans ?_ ((hb3.mono ?_).trans (Below.trans ?_ (hb4.mono ?_)))
    · exact ((hb1.alloc e1 _).alloc (by simp <;> omega) _).alloc (by simp <;> omega) _
    · simp <;> omega
    · exact (Below.refl _ _).alloc (by omega) _
    · simp <;> omega
  have hs : w1.heap.size + 1 < w4.heap.size := by omega
  clear hb3 hc3 hs3 hb4 hc4 hs4
  generalize w1.heap.size = P at *
  have HS := Lib.hid (adds_S w4 P A B C x0 x1 x2 y0 y1 y2 (by omega))
  clear x0 x1 x2 y0 y1 y2
  obtain ⟨L, hL⟩ : ∃ L, max 0 (D - N) = L := ⟨_, rfl⟩
  rw [hL]
  have bL : 0 ≤ L ∧ L ≤ 5000 := by omega
  have hw1 : IntKind.i64.wrap (X + Y) = N := by rw [hXY.out]; exact IntWalk.i64_in _ (by omega)
  by_cases hf : N ≤ D
  case neg =>
    obtain rfl : L = 0 := by omega
    have hfd : decide (N ≤ D) = false := decide_eq_false hf
    have hfe : D < N := by omega
    clear hL
    go_wp2_with fail
    have HS := HS.out
    apply wp_region_rel _ (by kernel_rfl) (by kernel_rfl) (fun w' => Below w4.heap.size w4 w') (fun w' w'' => Below w'.heap.size w' w'') (fun w' w'' h1 h2 => bl_trans h1 h2) (Below.refl _ _).drew
    repeat (first
      | (apply wpRel_skip (by rfl)
         simp only [Act.put, List.setIfInBounds_toArray, List.set_cons_zero, List.set_cons_succ])
      | (apply wpRel_fix (by rfl)
         · intro w' hC hf R hR
           go_simp
           exact hR _ (Below.refl _ _)
         simp only [Act.put, List.setIfInBounds_toArray, List.set_cons_zero, List.set_cons_succ]))
    apply wpRel_rel (SlAt _ _) (by rfl) slAt_keep
    · intro w' hC hf R hR
      go_simp
      exact hR _ _ (slAt_new _ _ _ _) (bl_alloc (Below.refl _ _) _)
    intro v1
    simp only [Act.put, List.setIfInBounds_toArray, List.set_cons_zero, List.set_cons_succ]
    apply wpRel_fix (by rfl)
    · intro w' hC hf R hR
      obtain ⟨b, rfl, hb, hc⟩ := hf _ (List.mem_cons_self ..) (by kernel_rfl)
      go_simp
      refine (charge_one b A B 0 _ ?_ ?_ ?_ (by omega) X HX.out).mono ?_
      · simp [hc]
      · simp [hc]
      · simp [hc]
      rintro e w3 ⟨rfl, hb3⟩
      exact ⟨_, rfl, hR _ hb3⟩
    simp only [Act.put, List.setIfInBounds_toArray, List.set_cons_zero, List.set_cons_succ]
    repeat (first
      | (apply wpRel_skip (by rfl)
         simp only [Act.put, List.setIfInBounds_toArray, List.set_cons_zero, List.set_cons_succ])
      | (apply wpRel_fix (by rfl)
         · intro w' hC hf R hR
           go_simp
           exact hR _ (Below.refl _ _)
         simp only [Act.put, List.setIfInBounds_toArray, List.set_cons_zero, List.set_cons_succ]))
    apply wpRel_rel (SlAt _ _) (by rfl) slAt_keep
    · intro w' hC hf R hR
      go_simp
      exact hR _ _ (slAt_new _ _ _ _) (bl_alloc (Below.refl _ _) _)
    intro v2
    simp only [Act.put, List.setIfInBounds_toArray, List.set_cons_zero, List.set_cons_succ]
    apply wpRel_fix (by rfl)
    · intro w' hC hf R hR
      obtain ⟨b, rfl, hb, hc⟩ := hf _ (List.mem_cons_self ..) (by kernel_rfl)
      go_simp
      refine (charge_one b 0 3 C _ ?_ ?_ ?_ (by omega) Y HY.out).mono ?_
      · simp [hc]
      · simp [hc]
      · simp [hc]
      rintro e w3 ⟨rfl, hb3⟩
      exact ⟨_, rfl, hR _ hb3⟩
    simp only [Act.put, List.setIfInBounds_toArray, List.set_cons_zero, List.set_cons_succ]
    repeat (first
      | (apply wpRel_skip (by rfl)
         simp only [Act.put, List.setIfInBounds_toArray, List.set_cons_zero, List.set_cons_succ])
      | (apply wpRel_fix (by rfl)
         · intro w' hC hf R hR
           go_simp
           exact hR _ (Below.refl _ _)
         simp only [Act.put, List.setIfInBounds_toArray, List.set_cons_zero, List.set_cons_succ]))
    apply wpRel_fix (by rfl)
    · intro w' hC hf R hR
      go_simp
      refine (charge_nil _ _ _).mono ?_
      rintro e w3 ⟨rfl, rfl⟩
      exact ⟨_, rfl, hR _ (Below.refl _ _)⟩
    simp only [Act.put, List.setIfInBounds_toArray, List.set_cons_zero, List.set_cons_succ]
    repeat (first
      | (apply wpRel_skip (by rfl)
         simp only [Act.put, List.setIfInBounds_toArray, List.set_cons_zero, List.set_cons_succ])
      | (apply wpRel_fix (by rfl)
         · intro w' hC hf R hR
           go_simp
           exact hR _ (Below.refl _ _)
         simp only [Act.put, List.setIfInBounds_toArray, List.set_cons_zero, List.set_cons_succ]))
    apply wpRel_rel (SlAt _ _) (by rfl) slAt_keep
    · intro w' hC hf R hR
      go_simp
      exact hR _ _ (slAt_new _ _ _ _) (bl_alloc (Below.refl _ _) _)
    intro v3
    simp only [Act.put, List.setIfInBounds_toArray, List.set_cons_zero, List.set_cons_succ]
    apply wpRel_fix (by rfl)
    · intro w' hC hf R hR
      obtain ⟨b, rfl, hb, hc⟩ := hf _ (List.mem_cons_self ..) (by kernel_rfl)
      go_simp
      refine (fits_two D b A B 0 0 3 C _ ?_ ?_ ?_ ?_ ?_ ?_ (by omega) (by omega) N HN.out).mono ?_
      · simp [hc]
      · simp [hc]
      · simp [hc]
      · simp [hc]
      · simp [hc]
      · simp [hc]
      rintro e w3 ⟨rfl, hb3⟩
      exact ⟨_, rfl, hR _ hb3⟩
    simp only [Act.put, List.setIfInBounds_toArray, List.set_cons_zero, List.set_cons_succ]
    repeat (first
      | (apply wpRel_skip (by rfl)
         simp only [Act.put, List.setIfInBounds_toArray, List.set_cons_zero, List.set_cons_succ])
      | (apply wpRel_fix (by rfl)
         · intro w' hC hf R hR
           go_simp
           exact hR _ (Below.refl _ _)
         simp only [Act.put, List.setIfInBounds_toArray, List.set_cons_zero, List.set_cons_succ]))
    apply wpRel_rel (SlAt _ _) (by rfl) slAt_keep
    · intro w' hC hf R hR
      go_simp
      exact hR _ _ (slAt_new _ _ _ _) (bl_alloc (Below.refl _ _) _)
    intro v4
    simp only [Act.put, List.setIfInBounds_toArray, List.set_cons_zero, List.set_cons_succ]
    apply wpRel_fix (by rfl)
    · intro w' hC hf R hR
      obtain ⟨b, rfl, hb, hc⟩ := hf _ (List.mem_cons_self ..) (by kernel_rfl)
      go_simp
      refine (fits_two D b A B 0 0 3 C _ ?_ ?_ ?_ ?_ ?_ ?_ (by omega) (by omega) N HN.out).mono ?_
      · simp [hc]
      · simp [hc]
      · simp [hc]
      · simp [hc]
      · simp [hc]
      · simp [hc]
      rintro e w3 ⟨rfl, hb3⟩
      exact ⟨_, rfl, hR _ hb3⟩
    simp only [Act.put, List.setIfInBounds_toArray, List.set_cons_zero, List.set_cons_succ]
    repeat (first
      | (apply wpRel_skip (by rfl)
         simp only [Act.put, List.setIfInBounds_toArray, List.set_cons_zero, List.set_cons_succ])
      | (apply wpRel_fix (by rfl)
         · intro w' hC hf R hR
           go_simp
           exact hR _ (Below.refl _ _)
         simp only [Act.put, List.setIfInBounds_toArray, List.set_cons_zero, List.set_cons_succ]))
    refine wpRel_nil (fun w' hC hf => ?_)
    go_wp2
    go_ret
    exact ⟨by simp, hb0.trans (hC.mono hb0.size)⟩
  have hw2 : IntKind.i64.wrap (L + N) = D := by rw [show L + N = D by omega]; exact IntWalk.i64_in _ (by omega)
  clear hL
  go_wp2_with fail
  have HS := HS.out
  apply wp_region_rel _ (by kernel_rfl) (by kernel_rfl) (fun w' => Below w4.heap.size w4 w') (fun w' w'' => Below w'.heap.size w' w'') (fun w' w'' h1 h2 => bl_trans h1 h2) (Below.refl _ _).drew
  repeat (first
    | (apply wpRel_skip (by rfl)
       simp only [Act.put, List.setIfInBounds_toArray, List.set_cons_zero, List.set_cons_succ])
    | (apply wpRel_fix (by rfl)
       · intro w' hC hf R hR
         go_simp
         exact hR _ (Below.refl _ _)
       simp only [Act.put, List.setIfInBounds_toArray, List.set_cons_zero, List.set_cons_succ]))
  apply wpRel_rel (SlAt _ _) (by rfl) slAt_keep
  · intro w' hC hf R hR
    go_simp
    exact hR _ _ (slAt_new _ _ _ _) (bl_alloc (Below.refl _ _) _)
  intro v1
  simp only [Act.put, List.setIfInBounds_toArray, List.set_cons_zero, List.set_cons_succ]
  apply wpRel_fix (by rfl)
  · intro w' hC hf R hR
    obtain ⟨b, rfl, hb, hc⟩ := hf _ (List.mem_cons_self ..) (by kernel_rfl)
    go_simp
    refine (charge_one b A B 0 _ ?_ ?_ ?_ (by omega) X HX.out).mono ?_
    · simp [hc]
    · simp [hc]
    · simp [hc]
    rintro e w3 ⟨rfl, hb3⟩
    exact ⟨_, rfl, hR _ hb3⟩
  simp only [Act.put, List.setIfInBounds_toArray, List.set_cons_zero, List.set_cons_succ]
  repeat (first
    | (apply wpRel_skip (by rfl)
       simp only [Act.put, List.setIfInBounds_toArray, List.set_cons_zero, List.set_cons_succ])
    | (apply wpRel_fix (by rfl)
       · intro w' hC hf R hR
         go_simp
         exact hR _ (Below.refl _ _)
       simp only [Act.put, List.setIfInBounds_toArray, List.set_cons_zero, List.set_cons_succ]))
  apply wpRel_rel (SlAt _ _) (by rfl) slAt_keep
  · intro w' hC hf R hR
    go_simp
    exact hR _ _ (slAt_new _ _ _ _) (bl_alloc (Below.refl _ _) _)
  intro v2
  simp only [Act.put, List.setIfInBounds_toArray, List.set_cons_zero, List.set_cons_succ]
  apply wpRel_fix (by rfl)
  · intro w' hC hf R hR
    obtain ⟨b, rfl, hb, hc⟩ := hf _ (List.mem_cons_self ..) (by kernel_rfl)
    go_simp
    refine (charge_one b 0 3 C _ ?_ ?_ ?_ (by omega) Y HY.out).mono ?_
    · simp [hc]
    · simp [hc]
    · simp [hc]
    rintro e w3 ⟨rfl, hb3⟩
    exact ⟨_, rfl, hR _ hb3⟩
  simp only [Act.put, List.setIfInBounds_toArray, List.set_cons_zero, List.set_cons_succ]
  repeat (first
    | (apply wpRel_skip (by rfl)
       simp only [Act.put, List.setIfInBounds_toArray, List.set_cons_zero, List.set_cons_succ])
    | (apply wpRel_fix (by rfl)
       · intro w' hC hf R hR
         go_simp
         exact hR _ (Below.refl _ _)
       simp only [Act.put, List.setIfInBounds_toArray, List.set_cons_zero, List.set_cons_succ]))
  apply wpRel_fix (by rfl)
  · intro w' hC hf R hR
    go_simp
    refine (charge_nil _ _ _).mono ?_
    rintro e w3 ⟨rfl, rfl⟩
    exact ⟨_, rfl, hR _ (Below.refl _ _)⟩
  simp only [Act.put, List.setIfInBounds_toArray, List.set_cons_zero, List.set_cons_succ]
  repeat (first
    | (apply wpRel_skip (by rfl)
       simp only [Act.put, List.setIfInBounds_toArray, List.set_cons_zero, List.set_cons_succ])
    | (apply wpRel_fix (by rfl)
       · intro w' hC hf R hR
         go_simp
         exact hR _ (Below.refl _ _)
       simp only [Act.put, List.setIfInBounds_toArray, List.set_cons_zero, List.set_cons_succ]))
  apply wpRel_rel (SlAt _ _) (by rfl) slAt_keep
  · intro w' hC hf R hR
    go_simp
    exact hR _ _ (slAt_new _ _ _ _) (bl_alloc (Below.refl _ _) _)
  intro v3
  simp only [Act.put, List.setIfInBounds_toArray, List.set_cons_zero, List.set_cons_succ]
  apply wpRel_fix (by rfl)
  · intro w' hC hf R hR
    obtain ⟨b, rfl, hb, hc⟩ := hf _ (List.mem_cons_self ..) (by kernel_rfl)
    go_simp
    refine (fits_two D b A B 0 0 3 C _ ?_ ?_ ?_ ?_ ?_ ?_ (by omega) (by omega) N HN.out).mono ?_
    · simp [hc]
    · simp [hc]
    · simp [hc]
    · simp [hc]
    · simp [hc]
    · simp [hc]
    rintro e w3 ⟨rfl, hb3⟩
    exact ⟨_, rfl, hR _ hb3⟩
  simp only [Act.put, List.setIfInBounds_toArray, List.set_cons_zero, List.set_cons_succ]
  repeat (first
    | (apply wpRel_skip (by rfl)
       simp only [Act.put, List.setIfInBounds_toArray, List.set_cons_zero, List.set_cons_succ])
    | (apply wpRel_fix (by rfl)
       · intro w' hC hf R hR
         go_simp
         exact hR _ (Below.refl _ _)
       simp only [Act.put, List.setIfInBounds_toArray, List.set_cons_zero, List.set_cons_succ]))
  refine wpRel_nil (fun w' hC hf => ?_)
  go_wp2
  go_ret
  exact ⟨by simp, hb0.trans (hC.mono hb0.size)⟩
end Go.Proofs.Ythominkfjfnkbaa
