/- Merged texts: Order. -/
import Derived.Test.YtjekpbkmhgfhoaaGreatDoorPBase13
import Derived.Test.YtjekpbkmhgfhoaaGreatDoorPBase08
import Derived.Test.YtjekpbkmhgfhoaaGreatDoorPBase03
import Derived.Shelf.SlSortCmp.WholeK
import Derived.Shelf.SlSortCmp.NoneTotal
import Derived.WalkSpells
import Derived.Test.YtjekpbkmhgfhoaaGreatDoorPBase02
section
/- order of cells: cmp.Or of two comparisons. -/
namespace Go.Proofs.YtjekpbkmhgfhoaaGreatDoor
open Go Go.RowKit Go.Shelf Go.Lib Go.Sort
set_option maxRecDepth 100000
set_option linter.unusedSimpArgs false
attribute [local go_sem] giv

/-- Which of two numbers is ahead. -/
def cmpI (x y : Int) : Int := if x < y then -1 else if y < x then 1 else 0
theorem isnan_any (a : Int) (w : World) : Calls Tryz.prog 153 #[.int .i64 a] w fun e w' => e = .returned (.bool false) ∧ w = w' := by
  have h : (a != a) = false := by simp
  go_enter Tryz.func153, Tryz.ntmps153
  go_wp2
  go_ret
  exact ⟨rfl, rfl⟩
theorem compare_any (a b : Int) (w : World) : Calls Tryz.prog 121 #[.int .i64 a, .int .i64 b] w fun e w' => e = .returned (.int .i64 (cmpI a b)) ∧ w = w' := by
  have hc : cmpI a b = -1 ∧ a < b ∨ cmpI a b = 1 ∧ ¬ a < b ∧ b < a ∨ cmpI a b = 0 ∧ ¬ a < b ∧ ¬ b < a := by
    unfold cmpI
    by_cases h1 : a < b
    · simp [h1]
    · by_cases h2 : b < a <;> simp [h1, h2]
  rcases hc with ⟨hr, h1⟩ | ⟨hr, h1, h2⟩ | ⟨hr, h1, h2⟩
  all_goals
    have HR := Lib.hid hr
    clear hr
    go_enter Tryz.func121, Tryz.ntmps121
    go_wp2_with (go_at_call 153; refine (isnan_any _ _).mono ?_; rintro e w' ⟨rfl, rfl⟩)
    go_ret
    exact ⟨by rw [HR.out]; rfl, rfl⟩

/-- The first that is not 0. -/
def orI (x y : Int) : Int := if x = 0 then y else x
theorem or_any {w : World} {b cap : Nat} {x y : Int} (c0 : w.cell? ⟨b, 0, none⟩ = some (.int .i64 x)) (c1 : w.cell? ⟨b, 1, none⟩ = some (.int .i64 y)) :
    Calls Tryz.prog 120 #[.slice (some ⟨b, 0, none⟩) 2 cap] w fun e w' => e = .returned (.int .i64 (orI x y)) ∧ w = w' := by
  have hfin : (x ≠ 0 → orI x y = x) ∧ (x = 0 → orI x y = y) := by unfold orI; constructor <;> intro h <;> simp [h]
  generalize orI x y = r at hfin
  have HF := Lib.hid hfin
  clear hfin
  go_enter Tryz.func120, Tryz.ntmps120
  go_wp2
  go_loop [5, 8] (fun _ i => ∃ k : Nat, k ≤ 2 ∧ i = .int .i64 k ∧ Hid ((0 < k → x = 0) ∧ (1 < k → y = 0))) (fun _ i => 2 - (intOf i).toNat)
  case atStart => exact ⟨0, by omega, rfl, Lib.hid ⟨fun h => by omega, fun h => by omega⟩⟩
  case round =>
    obtain ⟨k, hk, rfl, H⟩ := hrel
    have hk3 : k = 0 ∨ k = 1 ∨ k = 2 := by omega
    rcases hk3 with rfl | rfl | rfl
    · by_cases h0 : x = 0
      · have hb : (x != 0) = false := by simp [h0]
        have H0 := Lib.hid h0
        clear h0
        go_wp2
        go_round
        case rel => exact ⟨1, by omega, rfl, Lib.hid ⟨fun _ => H0.out, fun h => by omega⟩⟩
        case measure => simp [intOf]
      · have hb : (x != 0) = true := by simp [h0]
        have H0 := Lib.hid h0
        clear h0
        go_wp2
        go_ret
        exact ⟨by rw [HF.out.1 H0.out]; rfl, rfl⟩
    · have h00 := H.out.1 (by omega)
      by_cases h0 : y = 0
      · have hb : (y != 0) = false := by simp [h0]
        have H0 := Lib.hid h0
        have H00 := Lib.hid h00
        clear h0 h00
        go_wp2
        go_round
        case rel => exact ⟨2, by omega, rfl, Lib.hid ⟨fun _ => H00.out, fun _ => H0.out⟩⟩
        case measure => simp [intOf]
      · have hb : (y != 0) = true := by simp [h0]
        have H0 := Lib.hid h0
        have H00 := Lib.hid h00
        clear h0 h00
        go_wp2
        go_ret
        exact ⟨by rw [HF.out.2 H00.out]; rfl, rfl⟩
    · have h00 := H.out.1 (by omega)
      have h01 := H.out.2 (by omega)
      have H0 := Lib.hid h01
      have H00 := Lib.hid h00
      clear h00 h01
      go_wp2
      go_ret
      exact ⟨by rw [HF.out.2 H00.out, H0.out]; rfl, rfl⟩

/-- w' is w with draws and new blocks, those from B on turned. -/
structure BelowD (B : Nat) (w w' : World) : Prop extends Below B w w' where
  drawn : w.drawn ≤ w'.drawn
theorem BelowD.refl (B : Nat) (w : World) : BelowD B w w := ⟨Below.refl _ _, Nat.le_refl _⟩
theorem BelowD.trans {B : Nat} {a b c : World} (h : BelowD B a b) (k : BelowD B b c) : BelowD B a c := ⟨h.toBelow.trans k.toBelow, Nat.le_trans h.drawn k.drawn⟩
theorem BelowD.alloc {B : Nat} {a b : World} (h : BelowD B a b) (hB : B ≤ a.heap.size) (o : Obj) : BelowD B a (b.alloc o) := ⟨h.toBelow.alloc (Nat.le_trans hB h.size) o, h.drawn⟩
theorem BelowD.drew {B : Nat} {a b : World} (h : BelowD B a b) : BelowD B a b.drew := ⟨h.toBelow.drew, Nat.le_trans h.drawn (Nat.le_succ _)⟩
theorem BelowD.grow {w w' : World} (h : BelowD w.heap.size w w') : ∃ q os, w' = grow (w.drewN q) os := by
  obtain ⟨⟨h1, h2, h3, h4, h5⟩, h6⟩ := h
  refine ⟨w'.drawn - w.drawn, w'.heap.extract w.heap.size w'.heap.size, ?_⟩
  have hheap : w'.heap = w.heap ++ w'.heap.extract w.heap.size w'.heap.size := by
    refine Array.ext_getElem? fun i => ?_
    by_cases hi : i < w.heap.size
    · rw [Array.getElem?_append_left hi]
      exact h5 i hi
    · rw [Array.getElem?_append_right (by omega), Array.getElem?_extract]
      by_cases hi2 : i < w'.heap.size
      · rw [if_pos (by omega), show w.heap.size + (i - w.heap.size) = i by omega]
      · rw [if_neg (by omega), Array.getElem?_eq_none (by omega)]
  cases w
  cases w'
  simp only [grow, World.drewN] at *
  subst h1 h2 h3
  congr 1
  rename_i d1 _ _ d2
  exact (Nat.add_sub_cancel' h6).symm

/-- How cells are ordered. -/
def cmpC (x y : Cl) : Int := orI (cmpI x.1 y.1) (cmpI x.2 y.2)
def encK (c : Cl) : List Value := [.int .i64 c.1, .int .i64 c.2]

/-- v is a slice of two numbers in a new block. -/
def Pair (B : Nat) (x y : Int) (v : Value) (w : World) : Prop := ∃ b cap, v = .slice (some ⟨b, 0, none⟩) 2 cap ∧ B ≤ b ∧ b < w.heap.size ∧ w.cell? ⟨b, 0, none⟩ = some (.int .i64 x) ∧ w.cell? ⟨b, 1, none⟩ = some (.int .i64 y)
theorem pair_keep {B : Nat} {x y : Int} (v : Value) (w w' : World) (h : Pair B x y v w) (hb : BelowD w.heap.size w w') : Pair B x y v w' := by
  obtain ⟨b, cap, h1, h2, h3, h4, h5⟩ := h
  exact ⟨b, cap, h1, h2, Nat.lt_of_lt_of_le h3 hb.size, (hb.cell (p := ⟨b, 0, none⟩) h3).trans h4, (hb.cell (p := ⟨b, 1, none⟩) h3).trans h5⟩

set_option maxHeartbeats 1000000 in
theorem order_any (x y : Cl) (w : World) : Calls Tryz.prog 83 #[.agg #[.int .i64 x.1, .int .i64 x.2], .agg #[.int .i64 y.1, .int .i64 y.2]] w fun e w' => e = .returned (.int .i64 (cmpC x y)) ∧ BelowD w.heap.size w w' := by
  obtain ⟨x1, x2⟩ := x
  obtain ⟨y1, y2⟩ := y
  generalize hr : cmpC (x1, x2) (y1, y2) = r
  have HR : Hid (orI (cmpI x1 y1) (cmpI x2 y2) = r) := Lib.hid hr
  clear hr
  have CMP := fun (a b : Int) (W : World) => compare_any a b W
  go_enter Tryz.func83, Tryz.ntmps83
  go_wp2_with fail
  have b0 : BelowD w.heap.size w ((w.alloc (.cells #[.int .i64 x1, .int .i64 x2] 77)).alloc (.cells #[.int .i64 y1, .int .i64 y2] 77)) := ((BelowD.refl _ _).alloc (Nat.le_refl _) _).alloc (Nat.le_refl _) _
  have cx0 : ((w.alloc (.cells #[.int .i64 x1, .int .i64 x2] 77)).alloc (.cells #[.int .i64 y1, .int .i64 y2] 77)).cell? ⟨w.heap.size, 0, none⟩ = some (.int .i64 x1) := by simp
  have cx1 : ((w.alloc (.cells #[.int .i64 x1, .int .i64 x2] 77)).alloc (.cells #[.int .i64 y1, .int .i64 y2] 77)).cell? ⟨w.heap.size, 1, none⟩ = some (.int .i64 x2) := by simp
  have cy0 : ((w.alloc (.cells #[.int .i64 x1, .int .i64 x2] 77)).alloc (.cells #[.int .i64 y1, .int .i64 y2] 77)).cell? ⟨w.heap.size + 1, 0, none⟩ = some (.int .i64 y1) := by simp
  have cy1 : ((w.alloc (.cells #[.int .i64 x1, .int .i64 x2] 77)).alloc (.cells #[.int .i64 y1, .int .i64 y2] 77)).cell? ⟨w.heap.size + 1, 1, none⟩ = some (.int .i64 y2) := by simp
  have hsz : w.heap.size + 1 < ((w.alloc (.cells #[.int .i64 x1, .int .i64 x2] 77)).alloc (.cells #[.int .i64 y1, .int .i64 y2] 77)).heap.size := by simp
  generalize hW : (w.alloc (.cells #[.int .i64 x1, .int .i64 x2] 77)).alloc (.cells #[.int .i64 y1, .int .i64 y2] 77) = W at *
  clear hW
  have B0 := Lib.hid b0
  clear b0
  generalize hbx : w.heap.size = bx at *
  have S : ∀ w', BelowD W.heap.size W w' → w'.cell? ⟨bx, 0, none⟩ = some (.int .i64 x1) ∧ w'.cell? ⟨bx, 1, none⟩ = some (.int .i64 x2) ∧ w'.cell? ⟨bx + 1, 0, none⟩ = some (.int .i64 y1) ∧ w'.cell? ⟨bx + 1, 1, none⟩ = some (.int .i64 y2) := by
    intro w' hb
    have hlt : bx < W.heap.size := by omega
    exact ⟨(hb.cell (p := ⟨bx, 0, none⟩) hlt).trans cx0, (hb.cell (p := ⟨bx, 1, none⟩) hlt).trans cx1, (hb.cell (p := ⟨bx + 1, 0, none⟩) hsz).trans cy0, (hb.cell (p := ⟨bx + 1, 1, none⟩) hsz).trans cy1⟩
  clear cx0 cx1 cy0 cy1
  apply wp_region_rel _ (by kernel_rfl) (by kernel_rfl) (fun w' => BelowD W.heap.size W w') (fun w' w'' => BelowD w'.heap.size w' w'') (fun w' w'' h1 h2 => h1.trans ⟨h2.toBelow.mono h1.size, h2.drawn⟩) (BelowD.refl _ _).drew
  repeat (first
    | (apply wpRel_fix (by rfl)
       · intro w' hC hf R hR
         have hS := S w' hC
         go_simp
         first | exact hR _ (BelowD.refl _ _) | (refine (CMP _ _ _).mono ?_; rintro e w3 ⟨rfl, rfl⟩; exact ⟨_, rfl, hR _ (BelowD.refl _ _)⟩)
       simp only [Act.put, List.setIfInBounds_toArray, List.set_cons_zero, List.set_cons_succ]))
  apply wpRel_rel (Pair W.heap.size (cmpI x1 y1) (cmpI x2 y2)) (by rfl) pair_keep
  · intro w' hC hf R hR
    go_simp
    exact hR _ _ ⟨_, _, rfl, hC.size, by simp, by simp, by simp⟩ ((BelowD.refl _ _).alloc (Nat.le_refl _) _)
  intro v
  simp only [Act.put, List.setIfInBounds_toArray, List.set_cons_zero, List.set_cons_succ]
  apply wpRel_fix (v := .int .i64 r) (by rfl)
  · intro w' hC hf R hR
    obtain ⟨b, cap, rfl, h2, h3, h4, h5⟩ := hf _ (List.mem_cons_self ..) (by kernel_rfl)
    go_simp
    refine (or_any h4 h5).mono ?_
    rintro e w3 ⟨rfl, rfl⟩
    exact ⟨_, rfl, HR.out ▸ hR _ (BelowD.refl _ _)⟩
  simp only [Act.put, List.setIfInBounds_toArray, List.set_cons_zero, List.set_cons_succ]
  repeat (first
    | (apply wpRel_fix (by rfl)
       · intro w' hC hf R hR
         go_simp
         exact hR _ (BelowD.refl _ _)
       simp only [Act.put, List.setIfInBounds_toArray, List.set_cons_zero, List.set_cons_succ]))
  refine wpRel_nil (fun w4 hC hf => ?_)
  have HC := Lib.hid hC
  clear hC hf S CMP
  go_wp2
  go_ret
  rw [hbx]
  exact ⟨rfl, B0.out.trans ⟨HC.out.toBelow.mono (by omega), HC.out.drawn⟩⟩
end Go.Proofs.YtjekpbkmhgfhoaaGreatDoor
end
