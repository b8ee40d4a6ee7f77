/- The walks of quota: Charge, Fits, Left, and of the law QuotaSays. -/
import Derived.Test.YthominkfjfnkbaaProg
import Derived.WalkKit
import Derived.Lib.Hide
import Derived.Lib.MinMax
import Derived.Deep.RegionHeld3
namespace Go.Proofs.Ythominkfjfnkbaa
open Go.RowKit
theorem ret_int {k : IntKind} {a b : Int} (h : a = b) : Ending.returned (.int k a) = .returned (.int k b) := by rw [h]
def chg1 (all n : Int) : Int := min (all + min (max n 0) 2147483647) 2147483647
def chg3 (all a b c : Int) : Int := chg1 (chg1 (chg1 all a) b) c
theorem chg1_bd (a n : Int) (h : 0 ≤ a) : 0 ≤ chg1 a n ∧ chg1 a n ≤ 2147483647 := by unfold chg1; omega
def chgs (x y z : Nat → Int) : Nat → Int
  | 0 => 0
  | n + 1 => chg3 (chgs x y z n) (x n) (y n) (z n)
theorem chgs_bd (x y z : Nat → Int) (n : Nat) : 0 ≤ chgs x y z n ∧ chgs x y z n ≤ 2147483647 := by
  cases n with
  | zero => simp [chgs]
  | succ n => 
    have : 0 ≤ chgs x y z n := by
      induction n with
      | zero => simp [chgs]
      | succ n ih => exact (chg1_bd _ _ (chg1_bd _ _ (chg1_bd _ _ ih).1).1).1
    exact chg1_bd _ _ (chg1_bd _ _ (chg1_bd _ _ this).1).1
set_option maxHeartbeats 400000 in
theorem charge_any (b o n c : Nat) (x y z : Nat → Int) (w : World) (hc : n ≤ c) (hm : c ≤ maxLen)
   (h0 : ∀ i, i < n → w.cell? ⟨b, o + i * 3, none⟩ = some (.int .i64 (x i)))
   (h1 : ∀ i, i < n → w.cell? ⟨b, o + i * 3 + 1, none⟩ = some (.int .i64 (y i)))
   (h2 : ∀ i, i < n → w.cell? ⟨b, o + i * 3 + 2, none⟩ = some (.int .i64 (z i))) :
    Calls Try.prog 6 #[.slice (some ⟨b, o, none⟩) n c] w fun e w' => e = .returned (.int .i64 (chgs x y z n)) ∧ Below w.heap.size w w' := by
  unfold maxLen at hm
  go_enter Try.func6, Try.ntmps6
  go_wp2
  go_loopw [3, 10] (fun v i wr => ∃ k : Nat, k ≤ n ∧ i = .int .i64 k ∧ v = .int .i64 (chgs x y z k) ∧ Below w.heap.size w wr) (fun _ i _ => n - (intOf i).toNat)
  case atStart => exact ⟨0, Nat.zero_le _, rfl, rfl, Below.refl _ _⟩
  case round =>
    obtain ⟨k, hk, rfl, rfl, hb⟩ := hrel
    by_cases hlt : k < n
    · have hbd := chgs_bd x y z k
      have hbw : b < w.heap.size := World.block_lt_of_cell? _ _ (h0 k hlt)
      have c0 : wr.cell? ⟨b, o + k * 3, none⟩ = some (.int .i64 (x k)) := (hb.cell (p := ⟨b, _, none⟩) hbw).trans (h0 k hlt)
      have c1 : wr.cell? ⟨b, o + k * 3 + 1, none⟩ = some (.int .i64 (y k)) := (hb.cell (p := ⟨b, _, none⟩) hbw).trans (h1 k hlt)
      have c2 : wr.cell? ⟨b, o + k * 3 + 2, none⟩ = some (.int .i64 (z k)) := (hb.cell (p := ⟨b, _, none⟩) hbw).trans (h2 k hlt)
      clear h0 h1 h2
      go_wp2
      refine wp_loop_rounds 4 ?_
      rw [rounds_succ]
      go_wp2
      rw [rounds_succ]
      go_wp2
      rw [rounds_succ]
      go_wp2
      rw [rounds_succ]
      go_wp2
      go_roundw
      case rel =>
        refine ⟨k+1, by omega, by go_num, ?_, ?_⟩
        · simp only [chgs, chg3, chg1]
        · exact (hb.alloc hb.size _).alloc (Nat.le_trans hb.size (by simp)) _
      case measure => simp [intOf]; omega
    · go_wp2
      go_ret
      obtain rfl : k = n := by omega
      exact ⟨rfl, hb⟩
theorem charge_nil (a : Option Addr) (c : Nat) (w : World) : 
    Calls Try.prog 6 #[.slice a 0 c] w fun e w' => e = .returned (.int .i64 0) ∧ w = w' := by
  go_enter Try.func6, Try.ntmps6
  go_wp2
  refine wp_loop_rounds 1 ?_
  rw [rounds_succ]
  go_wp2
  go_ret
  exact ⟨rfl, rfl⟩
theorem first_any (w : World) : Calls Try.prog 5 #[] w fun e w' => e = .returned (.bool true) ∧ Below w.heap.size w w' := by
  go_enter Try.func5, Try.ntmps5
  go_wp2_with fail
  refine (charge_any _ 0 1 1 (fun _ => 1) (fun _ => 1) (fun _ => 3) _ (by omega) (by decide) (by simp) (by simp) (by simp)).mono ?_
  rintro e w' ⟨rfl, hb⟩
  have h5 : chgs (fun _ => 1) (fun _ => 1) (fun _ => 3) 1 = 5 := by decide
  go_wp2
  go_ret
  exact ⟨rfl, ((Below.refl _ _).alloc (Nat.le_refl _) _).trans (hb.mono (by simp))⟩
theorem fits_any (q : Int) (b o n c : Nat) (x y z : Nat → Int) (w : World) (hc : n ≤ c) (hm : c ≤ maxLen)
   (h0 : ∀ i, i < n → w.cell? ⟨b, o + i * 3, none⟩ = some (.int .i64 (x i)))
   (h1 : ∀ i, i < n → w.cell? ⟨b, o + i * 3 + 1, none⟩ = some (.int .i64 (y i)))
   (h2 : ∀ i, i < n → w.cell? ⟨b, o + i * 3 + 2, none⟩ = some (.int .i64 (z i))) :
    Calls Try.prog 7 #[.int .i64 q, .slice (some ⟨b, o, none⟩) n c] w fun e w' => e = .returned (.bool (decide (chgs x y z n ≤ q))) ∧ Below w.heap.size w w' := by
  have H := Lib.hid (charge_any b o n c x y z w hc hm h0 h1 h2)
  clear h0 h1 h2
  go_enter Try.func7, Try.ntmps7
  go_wp2_with fail
  refine (H.out).mono ?_
  rintro e w' ⟨rfl, hb⟩
  go_wp2
  go_ret
  exact ⟨rfl, hb⟩
theorem left_any (q : Int) (b o n c : Nat) (x y z : Nat → Int) (w : World) (hc : n ≤ c) (hm : c ≤ maxLen) (hq : -9223372036854775808 ≤ q ∧ q ≤ 9223372036854775807)
   (h0 : ∀ i, i < n → w.cell? ⟨b, o + i * 3, none⟩ = some (.int .i64 (x i)))
   (h1 : ∀ i, i < n → w.cell? ⟨b, o + i * 3 + 1, none⟩ = some (.int .i64 (y i)))
   (h2 : ∀ i, i < n → w.cell? ⟨b, o + i * 3 + 2, none⟩ = some (.int .i64 (z i))) :
    Calls Try.prog 8 #[.int .i64 q, .slice (some ⟨b, o, none⟩) n c] w fun e w' => e = .returned (.int .i64 (max 0 (q - chgs x y z n))) ∧ Below w.heap.size w w' := by
  have H := Lib.hid (charge_any b o n c x y z w hc hm h0 h1 h2)
  clear h0 h1 h2
  have hbd := chgs_bd x y z n
  go_enter Try.func8, Try.ntmps8
  go_wp2_with fail
  refine (H.out).mono ?_
  rintro e w' ⟨rfl, hb⟩
  go_wp2
  all_goals go_ret
  all_goals refine ⟨ret_int ?_, hb⟩
  all_goals omega
set_option maxHeartbeats 1000000 in
theorem says_any (b o n c : Nat) (x y z : Nat → Int) (q : Int) (w : World) (hc : n ≤ c) (hm : c ≤ maxLen) (hq : -9223372036854775808 ≤ q ∧ q ≤ 9223372036854775807) (hn : n ≤ 20)
   (h0 : ∀ i, i < n → w.cell? ⟨b, o + i * 3, none⟩ = some (.int .i64 (x i)))
   (h1 : ∀ i, i < n → w.cell? ⟨b, o + i * 3 + 1, none⟩ = some (.int .i64 (y i)))
   (h2 : ∀ i, i < n → w.cell? ⟨b, o + i * 3 + 2, none⟩ = some (.int .i64 (z i))) :
    Calls Try.prog 3 #[.slice (some ⟨b, o, none⟩) n c, .int .i64 q] w fun e w' => e = .returned (.bool true) ∧ Below w.heap.size w w' := by
  have hn' : ¬ (20 < (n : Int)) := by omega
  go_enter Try.func3, Try.ntmps3
  go_wp2_with fail
  refine (first_any _).mono ?_
  rintro e w1 ⟨rfl, hb1⟩
  go_wp2_with fail
  go_loopw [6, 7] (fun v i wr => ∃ k : Nat, k ≤ n ∧ i = .int .i64 k ∧ v = .int .i64 (chgs x y z k) ∧ Below w.heap.size w wr) (fun _ i _ => n - (intOf i).toNat)
  case atStart => exact ⟨0, Nat.zero_le _, rfl, rfl, hb1⟩
  case round =>
    obtain ⟨k, hk, rfl, rfl, hb⟩ := hrel
    by_cases hlt : k < n
    · have hbd := chgs_bd x y z k
      have hbw : b < w.heap.size := World.block_lt_of_cell? _ _ (h0 k hlt)
      have c0 : wr.cell? ⟨b, o + k * 3, none⟩ = some (.int .i64 (x k)) := (hb.cell (p := ⟨b, _, none⟩) hbw).trans (h0 k hlt)
      have c1 : wr.cell? ⟨b, o + k * 3 + 1, none⟩ = some (.int .i64 (y k)) := (hb.cell (p := ⟨b, _, none⟩) hbw).trans (h1 k hlt)
      have c2 : wr.cell? ⟨b, o + k * 3 + 2, none⟩ = some (.int .i64 (z k)) := (hb.cell (p := ⟨b, _, none⟩) hbw).trans (h2 k hlt)
      clear h0 h1 h2
      go_wp2
      go_region_held3 (fun w' => w'.cell? ⟨b, o + k * 3, none⟩ = some (.int .i64 (x k)) ∧ w'.cell? ⟨b, o + k * 3 + 1, none⟩ = some (.int .i64 (y k)) ∧ w'.cell? ⟨b, o + k * 3 + 2, none⟩ = some (.int .i64 (z k))) (go_keep) (fail)
      go_wp2
      refine wp_loop_rounds 4 ?_
      rw [rounds_succ]
      go_wp2
      rw [rounds_succ]
      go_wp2
      rw [rounds_succ]
      go_wp2
      rw [rounds_succ]
      go_wp2
      go_roundw
      case rel =>
        refine ⟨k+1, by omega, by go_num, ?_, ?_⟩
        · simp only [chgs, chg3, chg1]
        · exact (hb.alloc hb.size _).drew
      case measure => simp [intOf]; omega
    · obtain rfl : k = n := by omega
      have hbd := chgs_bd x y z k
      have H := Lib.hid h0
      have H1 := Lib.hid h1
      have H2 := Lib.hid h2
      have hce : ∀ w2, Below w.heap.size w w2 → (∀ i, i < k → w2.cell? ⟨b, o + i * 3, none⟩ = some (.int .i64 (x i))) ∧ (∀ i, i < k → w2.cell? ⟨b, o + i * 3 + 1, none⟩ = some (.int .i64 (y i))) ∧ (∀ i, i < k → w2.cell? ⟨b, o + i * 3 + 2, none⟩ = some (.int .i64 (z i))) := by
        intro w2 hb2
        refine ⟨fun i hi => ?_, fun i hi => ?_, fun i hi => ?_⟩ 
        · have hbw : b < w.heap.size := World.block_lt_of_cell? _ _ (h0 i hi)
          exact (hb2.cell (p := ⟨b, _, none⟩) hbw).trans (h0 i hi)
        · have hbw : b < w.heap.size := World.block_lt_of_cell? _ _ (h0 i hi)
          exact (hb2.cell (p := ⟨b, _, none⟩) hbw).trans (h1 i hi)
        · have hbw : b < w.heap.size := World.block_lt_of_cell? _ _ (h0 i hi)
          exact (hb2.cell (p := ⟨b, _, none⟩) hbw).trans (h2 i hi)
      have HC := Lib.hid hce
      clear hce h0 h1 h2
      go_wp2_with fail
      refine (charge_any b o k c x y z wr hc hm (HC.out _ hb).1 (HC.out _ hb).2.1 (HC.out _ hb).2.2).mono ?_
      rintro e w3 ⟨rfl, hb3⟩
      have hb4 := hb.trans (hb3.mono hb.size)
      go_wp2_with fail
      refine (fits_any q b o k c x y z w3 hc hm (HC.out _ hb4).1 (HC.out _ hb4).2.1 (HC.out _ hb4).2.2).mono ?_
      rintro e w5 ⟨rfl, hb5⟩
      have hb6 := hb4.trans (hb5.mono hb4.size)
      by_cases hq0 : q < 0
      · go_wp2
        go_ret
        exact ⟨by simp, hb6⟩
      · go_wp2_with fail
        refine (left_any q b o k c x y z w5 hc hm hq (HC.out _ hb6).1 (HC.out _ hb6).2.1 (HC.out _ hb6).2.2).mono ?_
        rintro e w7 ⟨rfl, hb7⟩
        have hb8 := hb6.trans (hb7.mono hb6.size)
        go_wp2
        go_ret
        exact ⟨by simp, hb8⟩
theorem says_many (a : Option Addr) (n c : Nat) (q : Int) (w : World) (hn : 20 < n) : 
    Calls Try.prog 3 #[.slice a n c, .int .i64 q] w fun e w' => e = .returned (.bool true) ∧ Below w.heap.size w w' := by
  have hn' : (20 < (n : Int)) := by omega
  go_enter Try.func3, Try.ntmps3
  go_wp2_with fail
  refine (first_any _).mono ?_
  rintro e w1 ⟨rfl, hb1⟩
  go_wp2
  go_ret
  exact ⟨rfl, hb1⟩
theorem fits_nil (a : Option Addr) (q : Int) (c : Nat) (w : World) : 
    Calls Try.prog 7 #[.int .i64 q, .slice a 0 c] w fun e w' => e = .returned (.bool (decide (0 ≤ q))) ∧ w = w' := by
  go_enter Try.func7, Try.ntmps7
  go_wp2_with fail
  refine (charge_nil _ _ _).mono ?_
  rintro e w' ⟨rfl, rfl⟩
  go_wp2
  go_ret
  exact ⟨rfl, rfl⟩
theorem left_nil (a : Option Addr) (q : Int) (c : Nat) (w : World) (hq : -9223372036854775808 ≤ q ∧ q ≤ 9223372036854775807) : 
    Calls Try.prog 8 #[.int .i64 q, .slice a 0 c] w fun e w' => e = .returned (.int .i64 (max 0 q)) ∧ w = w' := by
  go_enter Try.func8, Try.ntmps8
  go_wp2_with fail
  refine (charge_nil _ _ _).mono ?_
  rintro e w' ⟨rfl, rfl⟩
  go_wp2
  all_goals go_ret
  all_goals refine ⟨ret_int ?_, rfl⟩
  all_goals omega
theorem says_nil (a : Option Addr) (c : Nat) (q : Int) (w : World) (hq : -9223372036854775808 ≤ q ∧ q ≤ 9223372036854775807): 
    Calls Try.prog 3 #[.slice a 0 c, .int .i64 q] w fun e w' => e = .returned (.bool true) ∧ Below w.heap.size w w' := by
  go_enter Try.func3, Try.ntmps3
  go_wp2_with fail
  refine (first_any _).mono ?_
  rintro e w1 ⟨rfl, hb1⟩
  go_wp2_with fail
  refine wp_loop_rounds 1 ?_
  rw [rounds_succ]
  go_wp2_with fail
  refine (charge_nil _ _ _).mono ?_
  rintro e w2 ⟨rfl, rfl⟩
  go_wp2_with fail
  refine (fits_nil _ _ _ _).mono ?_
  rintro e w2 ⟨rfl, rfl⟩
  by_cases hq0 : q < 0
  · go_wp2
    go_ret
    exact ⟨by simp, hb1⟩
  · go_wp2_with fail
    refine (left_nil _ _ _ _ hq).mono ?_
    rintro e w2 ⟨rfl, rfl⟩
    go_wp2
    go_ret
    exact ⟨by simp, hb1⟩
end Go.Proofs.Ythominkfjfnkbaa
