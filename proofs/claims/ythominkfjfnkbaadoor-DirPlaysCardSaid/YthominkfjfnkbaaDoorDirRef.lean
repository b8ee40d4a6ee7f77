/- The reference's Entrys and From over entries. -/
import Derived.Test.YthominkfjfnkbaaDoorDirMore
namespace Go.Proofs.YthominkfjfnkbaaDoor
open Go Go.RowKit
set_option maxRecDepth 100000
set_option linter.unusedSimpArgs false
attribute [local go_sem] giv tx_leq
variable {E : Nat → Addr} {B : Nat}

theorem smallE {j : Nat} (h : j ≤ 1000000) : j ≤ maxLen := by unfold maxLen; omega

set_option maxHeartbeats 1000000 in
theorem entrys_any {w : World} {v : Value} {ks : List En} (r : RdEn w v ks) (hk : ks.length ≤ 1000) :
    Calls Tryd.prog 69 #[v] w fun e w' => (∃ u, e = .returned u ∧ SlEn w' w.heap.size u ks) ∧ Below w.heap.size w w' := by
  obtain ⟨sp, cap, rfl, hcap⟩ := RdE.shape r
  have HR := Lib.hid r
  clear r
  go_enter Tryd.func69, Tryd.ntmps69
  go_wp2_with (at_make; refine wpList_mk0 entT rfl _ _ rfl ks.length rfl rfl (by omega) (smallE (by omega)) (Nat.le_refl _) ?_; intro w2 hs2 hb2; have HS2 := Lib.hid hs2; have HB2 := Lib.hid hb2; clear hs2 hb2)
  go_loopw [3, 4] (fun v i wr => ∃ j : Nat, j ≤ ks.length ∧ i = .int .i64 j ∧ Hid (SlEn wr w.heap.size v (ks.take j) ∧ Below w.heap.size w wr)) (fun _ i _ => ks.length - (intOf i).toNat)
  case atStart => exact ⟨0, Nat.zero_le _, rfl, Lib.hid ⟨HS2.out, HB2.out⟩⟩
  case round =>
    obtain ⟨j, hj, rfl, HI⟩ := hrel
    by_cases hlt : j < ks.length
    · obtain ⟨h, off, rfl, hh, c0⟩ := elCells HR.out hlt
      have d : ∀ i, i < 3 → wr.cell? ⟨h, off + j * 3 + i, none⟩ = (encEl ks[j])[i]? := fun i hi => (HI.out.2.cell (p := ⟨h, off + j * 3 + i, none⟩) hh).trans (c0 i hi)
      have d0 := d 0 (by omega)
      have d1 := d 1 (by omega)
      have d2 := d 2 (by omega)
      have HT : Hid (ks.take (j + 1) = ks.take j ++ [ks[j]]) := Lib.hid (List.take_succ_eq_append_getElem hlt)
      have hj0 : (0 : Int) ≤ (j : Int) := by omega
      have hj1 : (j : Int) < (ks.length : Int) := by omega
      have HJL : Hid ((ks.take j).length = j) := Lib.hid (by rw [List.length_take]; omega)
      have HJ := Lib.hid hlt
      have HKK := Lib.hid hk
      clear c0 d
      generalize ks[j] = x at *
      obtain ⟨x1, x2, x3⟩ := x
      simp only [encEl, List.getElem?_cons_zero, List.getElem?_cons_succ, Nat.add_zero] at d0 d1 d2
      have HOWN := Lib.hid (SlE.below HI.out.1 (bl_alloc (Below.refl _ wr) (.cells #[.string x1, .int .i64 x2, .int .i64 x3] 84)))
      have HROW : Hid (RdEn (wr.alloc (.cells #[.string x1, .int .i64 x2, .int .i64 x3] 84)) (.slice (some ⟨wr.heap.size, 0, none⟩) 1 1) [⟨x1, x2, x3⟩]) := Lib.hid (RdE.one (x := (⟨x1, x2, x3⟩ : En)) (Row.new wr 84 (encEl ⟨x1, x2, x3⟩)))
      have HBS : Hid (w.heap.size ≤ (wr.alloc (.cells #[.string x1, .int .i64 x2, .int .i64 x3] 84)).heap.size) := Lib.hid (Nat.le_trans HI.out.2.size (by simp))
      go_wp2_with (at_builtin; refine wpList_app entT rfl _ _ rfl rfl HOWN.out rfl HROW.out (by rw [HJL.out]; exact smallE (by have := HJ.out; have := HKK.out; simp; omega)) (by rw [HJL.out]; have := HJ.out; have := HKK.out; simp; omega) HBS.out ?_; intro v' w' hs' ht'; have HS' := Lib.hid hs'; have HT' := Lib.hid ht'; clear hs' ht')
      go_roundw
      case rel =>
        refine ⟨j + 1, by omega, by go_num, Lib.hid ⟨?_, ?_⟩⟩
        · rw [HT.out]; exact HS'.out
        · exact (bl_alloc HI.out.2 _).trans (HT'.out.below (B := w.heap.size) HBS.out (fun x hx => (SlE.lt HOWN.out x hx).1))
      case measure => simp [intOf]; omega
    · obtain rfl : j = ks.length := by omega
      go_wp2
      go_ret
      have := HI.out.1
      rw [List.take_length] at this
      exact ⟨⟨_, rfl, this⟩, HI.out.2⟩

/-- The reference's answer. -/
def refFrom (l : List En) (after : ByteArray) (n : Int) : List En × Bool := ((l.filter (behB after)).take n.toNat, decide (n.toNat < (l.filter (behB after)).length))
theorem refFrom_eq (l : List En) (after : ByteArray) (n : Int) : refFrom l after n = fromL l after n := by
  unfold refFrom fromL
  generalize l.filter (behB after) = F
  by_cases h : (F.length : Int) ≤ max n 0
  · rw [if_pos h, List.take_of_length_le (by omega), decide_eq_false (by omega)]
  · rw [if_neg h, decide_eq_true (by omega)]
theorem filter_step {l : List En} {p : En → Bool} {j : Nat} (h : j < l.length) : (l.take (j + 1)).filter p = (l.take j).filter p ++ (if p l[j] = true then [l[j]] else []) := by
  rw [List.take_succ_eq_append_getElem h, List.filter_append]
  congr 1
  by_cases hp : p l[j] = true
  · rw [if_pos hp, List.filter_cons, if_pos hp]; rfl
  · rw [if_neg hp, List.filter_cons, if_neg hp]; rfl

set_option maxHeartbeats 2000000 in
theorem reffrom_any {w : World} {v : Value} {l : List En} (r : RdEn w v l) (hk : l.length ≤ 1000) (after : ByteArray) (n : Int) :
    Calls Tryd.prog 73 #[v, .string after, .int .i64 n] w fun e w' => (∃ u, e = .returned (.tuple #[u, .bool (refFrom l after n).2]) ∧ SlEn w' w.heap.size u (refFrom l after n).1) ∧ Below w.heap.size w w' := by
  obtain ⟨sp, cap, rfl, hcap⟩ := RdE.shape r
  have HR := Lib.hid r
  generalize hP : (fun (e : Ending) (w' : World) => (∃ u, e = .returned (.tuple #[u, .bool (refFrom l after n).2]) ∧ SlEn w' w.heap.size u (refFrom l after n).1) ∧ Below w.heap.size w w') = Post
  have HP := Lib.hid hP
  clear r hP
  go_enter Tryd.func73, Tryd.ntmps73
  go_wp2_with fail
  go_loopw [8, 9, 10] (fun v m i wr => ∃ j : Nat, j ≤ l.length ∧ i = .int .i64 j ∧ m = .bool (decide (n.toNat < ((l.take j).filter (behB after)).length)) ∧ Hid (SlEn wr w.heap.size v (((l.take j).filter (behB after)).take n.toNat) ∧ Below w.heap.size w wr)) (fun _ _ i _ => l.length - (intOf i).toNat)
  case atStart => exact ⟨0, Nat.zero_le _, rfl, by simp, Lib.hid ⟨by simpa using SlE.nil _ _ _ _ _, Below.refl _ _⟩⟩
  case round =>
    obtain ⟨j, hj, rfl, rfl, HI⟩ := hrel
    by_cases hlt : j < l.length
    · obtain ⟨h, off, rfl, hh, c0⟩ := elCells HR.out hlt
      have d : ∀ i, i < 3 → wr.cell? ⟨h, off + j * 3 + i, none⟩ = (encEl l[j])[i]? := fun i hi => (HI.out.2.cell (p := ⟨h, off + j * 3 + i, none⟩) hh).trans (c0 i hi)
      have d0 := d 0 (by omega)
      have d1 := d 1 (by omega)
      have d2 := d 2 (by omega)
      have hst := filter_step (p := behB after) hlt
      have hj0 : (0 : Int) ≤ (j : Int) := by omega
      have hj1 : (j : Int) < (l.length : Int) := by omega
      have hpl : ((l.take j).filter (behB after)).length ≤ j := Nat.le_trans (List.length_filter_le _ _) (by rw [List.length_take]; omega)
      clear c0 d
      generalize l[j] = x at *
      obtain ⟨x1, x2, x3⟩ := x
      simp only [encEl, List.getElem?_cons_zero, List.getElem?_cons_succ, Nat.add_zero] at d0 d1 d2
      have hlv := leq_val x1 after
      have hbv : behB after ⟨x1, x2, x3⟩ = decide (after.data.toList < x1.data.toList) := rfl
      rw [← hbv] at hlv
      clear hbv
      generalize hPj : (l.take j).filter (behB after) = Pj at *
      obtain ⟨sq, cq, hv, hcq⟩ := RdE.shape (HI.out.1.rd encEl_len)
      subst hv
      have HST := Lib.hid hst
      clear hst
      by_cases hb : behB after ⟨x1, x2, x3⟩ = true
      · rw [hb] at hlv HST
        simp only [if_true, Bool.not_true] at hlv HST
        by_cases hl : (Pj.take n.toNat).length < n
        · have hlen : Pj.length < n.toNat := by rw [List.length_take] at hl; omega
          have hT : Pj.take n.toNat = Pj := List.take_of_length_le (by omega)
          have HI' : Hid (SlEn wr w.heap.size (.slice sq (Pj.take n.toNat).length cq) Pj ∧ Below w.heap.size w wr) := Lib.hid (by rw [hT] at HI ⊢; exact HI.out)
          have HOWN := Lib.hid (SlE.below HI'.out.1 (bl_alloc (Below.refl _ wr) (.cells #[.string x1, .int .i64 x2, .int .i64 x3] 84)))
          have HROW : Hid (RdEn (wr.alloc (.cells #[.string x1, .int .i64 x2, .int .i64 x3] 84)) (.slice (some ⟨wr.heap.size, 0, none⟩) 1 1) [⟨x1, x2, x3⟩]) := Lib.hid (RdE.one (x := (⟨x1, x2, x3⟩ : En)) (Row.new wr 84 (encEl ⟨x1, x2, x3⟩)))
          have HBS : Hid (w.heap.size ≤ (wr.alloc (.cells #[.string x1, .int .i64 x2, .int .i64 x3] 84)).heap.size) := Lib.hid (Nat.le_trans HI.out.2.size (by simp))
          have hm : decide (n.toNat < Pj.length) = false := decide_eq_false (by omega)
          have HM : Hid (decide (n.toNat < (Pj ++ [(⟨x1, x2, x3⟩ : En)]).length) = false) := Lib.hid (decide_eq_false (by simp; omega))
          have HT2 : Hid ((Pj ++ [(⟨x1, x2, x3⟩ : En)]).take n.toNat = Pj ++ [⟨x1, x2, x3⟩]) := Lib.hid (List.take_of_length_le (by simp; omega))
          have HPL : Hid (Pj.length < 1000) := Lib.hid (by omega)
          clear hT hlen hpl
          generalize (Pj.take n.toNat).length = pl at *
          go_wp2_with (at_builtin; refine wpList_app entT rfl _ _ rfl rfl HOWN.out rfl HROW.out (smallE (by have := HPL.out; simp; omega)) (by have := HPL.out; simp; omega) HBS.out ?_; intro v' w' hs' ht'; have HS' := Lib.hid hs'; have HT' := Lib.hid ht'; clear hs' ht')
          go_roundw
          case rel =>
            refine ⟨j + 1, by omega, by go_num, ?_, Lib.hid ⟨?_, ?_⟩⟩
            · rw [HST.out, HM.out]
            · rw [HST.out, HT2.out]; exact HS'.out
            · exact (bl_alloc HI.out.2 _).trans (HT'.out.below (B := w.heap.size) HBS.out (fun x hx => (SlE.lt HOWN.out x hx).1))
          case measure => simp [intOf]; omega
        · have hlen : n.toNat ≤ Pj.length := by rw [List.length_take] at hl; omega
          have HM : Hid (decide (n.toNat < (Pj ++ [(⟨x1, x2, x3⟩ : En)]).length) = true) := Lib.hid (decide_eq_true (by simp; omega))
          have HT2 : Hid ((Pj ++ [(⟨x1, x2, x3⟩ : En)]).take n.toNat = Pj.take n.toNat) := Lib.hid (by rw [List.take_append_of_le_length hlen])
          have HIS : Hid (SlEn wr w.heap.size (.slice sq (Pj.take n.toNat).length cq) (Pj.take n.toNat)) := Lib.hid HI.out.1
          have HB := Lib.hid HI.out.2
          clear hlen hpl HI
          generalize hpt : Pj.take n.toNat = Pt at *
          go_wp2
          go_roundw
          case rel =>
            refine ⟨j + 1, by omega, by go_num, ?_, Lib.hid ⟨?_, ?_⟩⟩
            · rw [HST.out, HM.out]
            · rw [HST.out, HT2.out]; exact HIS.out
            · exact HB.out
          case measure => simp [intOf]; omega
      · have hb2 : behB after ⟨x1, x2, x3⟩ = false := by simpa using hb
        rw [hb2] at hlv HST
        simp only [Bool.false_eq_true, if_false, List.append_nil, Bool.not_false] at hlv HST
        go_wp2
        go_roundw
        case rel => exact ⟨j + 1, by omega, by go_num, by rw [HST.out], Lib.hid ⟨by rw [HST.out]; exact HI.out.1, HI.out.2⟩⟩
        case measure => simp [intOf]; omega
    · obtain rfl : j = l.length := by omega
      go_wp2
      rw [← HP.out]
      have := HI.out.1
      rw [List.take_length] at this ⊢
      exact ⟨⟨_, rfl, this⟩, HI.out.2⟩
end Go.Proofs.YthominkfjfnkbaaDoor
