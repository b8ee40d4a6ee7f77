/- Merged texts: Quota. -/
import Derived.Test.YtjekpbkmhgfhoaaGreatDoorGBase03
import Derived.Lib.MinMax
section
/- The walk of quota.Charge. -/
namespace Go.Proofs.YtjekpbkmhgfhoaaGreatDoor
open Go Go.RowKit
set_option maxRecDepth 100000
set_option linter.unusedSimpArgs false
def chg1 (all n : Int) : Int := min (all + min (max n 0) 2147483647) 2147483647
def chg3 (all a b c : Int) : Int := chg1 (chg1 (chg1 all a) b) c
theorem chg1_bd (a n : Int) (h : 0 ≤ a) : 0 ≤ chg1 a n ∧ chg1 a n ≤ 2147483647 := by unfold chg1; omega
def chgs (x y z : Nat → Int) : Nat → Int
  | 0 => 0
  | n + 1 => chg3 (chgs x y z n) (x n) (y n) (z n)
theorem chgs_bd (x y z : Nat → Int) (n : Nat) : 0 ≤ chgs x y z n ∧ chgs x y z n ≤ 2147483647 := by
  cases n with
  | zero => simp [chgs]
  | succ n => 
    have : 0 ≤ chgs x y z n := by
      induction n with
      | zero => simp [chgs]
      | succ n ih => exact (chg1_bd _ _ (chg1_bd _ _ (chg1_bd _ _ ih).1).1).1
    exact chg1_bd _ _ (chg1_bd _ _ (chg1_bd _ _ this).1).1
set_option maxHeartbeats 400000 in
theorem qcharge_any (b o n c : Nat) (x y z : Nat → Int) (w : World) (hc : n ≤ c) (hm : c ≤ maxLen)
   (h0 : ∀ i, i < n → w.cell? ⟨b, o + i * 3, none⟩ = some (.int .i64 (x i)))
   (h1 : ∀ i, i < n → w.cell? ⟨b, o + i * 3 + 1, none⟩ = some (.int .i64 (y i)))
   (h2 : ∀ i, i < n → w.cell? ⟨b, o + i * 3 + 2, none⟩ = some (.int .i64 (z i))) :
    Calls Tryz.prog 62 #[.slice (some ⟨b, o, none⟩) n c] w fun e w' => e = .returned (.int .i64 (chgs x y z n)) ∧ Below w.heap.size w w' := by
  unfold maxLen at hm
  go_enter Tryz.func62, Tryz.ntmps62
  go_wp2
  go_loopw [3, 10] (fun v i wr => ∃ k : Nat, k ≤ n ∧ i = .int .i64 k ∧ v = .int .i64 (chgs x y z k) ∧ Below w.heap.size w wr) (fun _ i _ => n - (intOf i).toNat)
  case atStart => exact ⟨0, Nat.zero_le _, rfl, rfl, Below.refl _ _⟩
  case round =>
    obtain ⟨k, hk, rfl, rfl, hb⟩ := hrel
    by_cases hlt : k < n
    · have hbd := chgs_bd x y z k
      have hbw : b < w.heap.size := World.block_lt_of_cell? _ _ (h0 k hlt)
      have c0 : wr.cell? ⟨b, o + k * 3, none⟩ = some (.int .i64 (x k)) := (hb.cell (p := ⟨b, _, none⟩) hbw).trans (h0 k hlt)
      have c1 : wr.cell? ⟨b, o + k * 3 + 1, none⟩ = some (.int .i64 (y k)) := (hb.cell (p := ⟨b, _, none⟩) hbw).trans (h1 k hlt)
      have c2 : wr.cell? ⟨b, o + k * 3 + 2, none⟩ = some (.int .i64 (z k)) := (hb.cell (p := ⟨b, _, none⟩) hbw).trans (h2 k hlt)
      clear h0 h1 h2
      go_wp2
      refine wp_loop_rounds 4 ?_
      rw [rounds_succ]
      go_wp2
      rw [rounds_succ]
      go_wp2
      rw [rounds_succ]
      go_wp2
      rw [rounds_succ]
      go_wp2
      go_roundw
      case rel =>
        refine ⟨k+1, by omega, by go_num, ?_, ?_⟩
        · simp only [chgs, chg3, chg1]
        · exact (hb.alloc hb.size _).alloc (Nat.le_trans hb.size (by simp)) _
      case measure => simp [intOf]; omega
    · go_wp2
      go_ret
      obtain rfl : k = n := by omega
      exact ⟨rfl, hb⟩
/-- One count. -/
theorem charge_one (b : Nat) (a1 a2 a3 : Int) (w : World) (h0 : w.cell? ⟨b, 0, none⟩ = some (.int .i64 a1)) (h1 : w.cell? ⟨b, 1, none⟩ = some (.int .i64 a2)) (h2 : w.cell? ⟨b, 2, none⟩ = some (.int .i64 a3))
   (ha : 0 ≤ a1 ∧ 0 ≤ a2 ∧ 0 ≤ a3) :
    Calls Tryz.prog 62 #[.slice (some ⟨b, 0, none⟩) 1 1] w fun e w' => e = .returned (.int .i64 (min (a1 + a2 + a3) 2147483647)) ∧ Below w.heap.size w w' := by
  have e : chgs (fun _ => a1) (fun _ => a2) (fun _ => a3) 1 = min (a1 + a2 + a3) 2147483647 := by simp only [chgs, chg3, chg1]; omega
  rw [← e]
  refine qcharge_any b 0 1 1 _ _ _ w (by omega) (by decide) (fun i hi => ?_) (fun i hi => ?_) (fun i hi => ?_) <;> obtain rfl : i = 0 := by omega
  · exact h0
  · exact h1
  · exact h2
end Go.Proofs.YtjekpbkmhgfhoaaGreatDoor
end
