/- Merged texts: OpenMore. -/
import Derived.Test.YtjekpbkmhgfhoaaGreatDoorPBase18
import Derived.Test.YtjekpbkmhgfhoaaGreatDoorPBase30
import Derived.Outline
section
/- The walk of open's Holds: a range over the table's map. -/
namespace Go.Proofs.YtjekpbkmhgfhoaaGreatDoor
open Go Go.RowKit
set_option maxRecDepth 100000
set_option linter.unusedSimpArgs false
attribute [local go_sem] giv
variable {E : Nat → Addr} {B : Nat}

theorem holds_nil {w : World} {b : Nat} {g : Int → Option (Int × Int)} {n : Nat} (h : FilesAt w b none g n) (nd : Int) :
    Calls Tryz.prog 69 #[.pointer (some ⟨b, 0, none⟩), .int .i64 nd] w fun e w' => e = .returned (.bool false) ∧ Below w.heap.size w w' := by
  have hc := h.1
  have hlt := h.2.2.1
  have hrg := fun w => run_range_nilMap (P := Tryz.prog) w 110 _ _ Tryz.underlying110
  have hnx := fun w ty x y s => run_next_nilMap (P := Tryz.prog) w ty x y s
  clear h
  go_enter Tryz.func69, Tryz.ntmps69
  go_wp2
  refine wp_loop_rounds 1 ?_
  rw [rounds_succ]
  go_wp2
  go_ret
  exact ⟨rfl, bl_alloc (Below.refl _ _) _⟩

set_option maxHeartbeats 1000000 in
theorem holds_some {w : World} {b r : Nat} {g : Int → Option (Int × Int)} {n : Nat} (h : FilesAt w b (some r) g n) (nd : Int) :
    Calls Tryz.prog 69 #[.pointer (some ⟨b, 0, none⟩), .int .i64 nd] w fun e w' => (∃ x : Bool, e = .returned (.bool x) ∧ (x = true ↔ ∃ k p, g k = some (nd, p))) ∧ Below w.heap.size w w' := by
  have hc := h.1
  have hlt := h.2.2.1
  have H := Lib.hid h
  have hm := h.2.2.2.2
  have HM := Lib.hid hm
  clear h hm
  generalize hP : (fun (e : Ending) (w' : World) => (∃ x : Bool, e = .returned (.bool x) ∧ (x = true ↔ ∃ k p, g k = some (nd, p))) ∧ Below w.heap.size w w') = Post
  have HP := Lib.hid hP
  clear hP
  go_enter Tryz.func69, Tryz.ntmps69
  go_wp2_with (at_range; refine wpList_rng rfl _ _ _ rfl rfl HM.out Tryz.underlying110 int_inj ?_; intro w1 ks hr hk _ hb hz)
  have HR := Lib.hid hr
  have HK := Lib.hid hk
  have HB := Lib.hid hb
  have hz0 : w.heap.size ≤ w1.heap.size := Nat.le_of_lt hz
  clear hr hk hb hz
  obtain ⟨rr, hrr⟩ : ∃ rr, rr = w.heap.size := ⟨_, rfl⟩
  rw [← hrr]
  rw [← hrr] at HR
  have HRR := Lib.hid hrr
  clear hrr
  go_frame
  go_loopw [6] (fun _ wr => ∃ left cnt, Rng (Value.int .i64) encH wr rr r g left cnt ∧ (∀ k v, g k = some v → k ∈ left ∨ v.1 ≠ nd) ∧ Below w.heap.size w wr) (fun _ wr => wr.rangeLeft r rr)
  case atStart => exact ⟨ks, _, HR.out, fun k v hk => .inl ((HK.out k).2 (by rw [hk]; rfl)), HB.out⟩
  case round =>
    obtain ⟨left, cnt, hr, hl, hb⟩ := hrel
    have HRG := Lib.hid hr
    have HL := Lib.hid hl
    have HBr := Lib.hid hb
    clear hr hl hb HR HK HB
    go_wp2_with (at_next; refine wpList_rnext rfl _ rfl rfl HRG.out int_inj ?_ ?_)
    · intro hl0
      have HL0 := Lib.hid hl0
      clear hl0
      go_wp2
      rw [← HP.out]
      refine ⟨⟨false, rfl, ?_⟩, HBr.out⟩
      simp only [Bool.false_eq_true, false_iff]
      rintro ⟨k, p, hk⟩
      rcases HL.out k _ hk with h | h
      · rw [HL0.out] at h; cases h
      · exact h rfl
    · rintro k x p w2 cnt' hk hg hr2 hlt2 ht hen
      have HR2 := Lib.hid hr2
      have HG := Lib.hid hg
      have HK2 := Lib.hid hk
      have HLT := Lib.hid hlt2
      have HB2 := Lib.hid (HBr.out.trans (ht.below HBr.out.size (fun y hy => by subst hy; have := HRR.out; omega)))
      clear hr2 hg hk hlt2 ht
      unfold encH at hen
      by_cases hx : x = nd
      · subst hx
        go_wp2
        rw [← HP.out]
        exact ⟨⟨true, rfl, by simp only [true_iff]; exact ⟨k, p, HG.out⟩⟩, HB2.out.trans ((bl_alloc (Below.refl _ _) _).mono HB2.out.size)⟩
      · have hx' : (x == nd) = false := by rw [beq_eq_false_iff_ne]; exact hx
        go_wp2
        go_roundw
        case rel =>
          refine ⟨_, _, HR2.out.below (bl_alloc (Below.refl _ _) _), fun k' v hk' => ?_, HB2.out.trans ((bl_alloc (Below.refl _ _) _).mono HB2.out.size)⟩
          rcases HL.out k' v hk' with h | h
          · by_cases hkk : k' = k
            · subst hkk
              rw [HG.out] at hk'
              cases hk'
              exact .inr hx
            · exact .inl (by simp [h, hkk])
          · exact .inr h
        case measure =>
          rw [(HR2.out.below (bl_alloc (Below.refl _ _) _)).left_eq, HRG.out.left_eq]
          exact HLT.out
end Go.Proofs.YtjekpbkmhgfhoaaGreatDoor
end
