/- The walk of the law NameBounds. -/
import Derived.Test.YthominkfjfnkbaaDoorName
import Derived.Test.YthominkfjfnkbaaDoorRow
import Derived.Test.YthominkfjfnkbaaDoorNodeLaw
namespace Go.Proofs.YthominkfjfnkbaaDoor
open Go Go.RowKit
set_option maxRecDepth 100000
set_option linter.unusedSimpArgs false
attribute [local go_sem] giv
variable {E : Nat → Addr} {B : Nat}

/-- The law's row after j rounds. -/
def aRow (N j : Nat) : List Int := List.replicate j 97 ++ List.replicate (N - j) 0
theorem aRow_len {N j : Nat} (h : j ≤ N) : (aRow N j).length = N := by simp [aRow]; omega
theorem aRow_set {N j : Nat} (h : j < N) : ((aRow N j).map (Value.int .u8)).set j (.int .u8 97) = (aRow N (j + 1)).map (Value.int .u8) := by
  apply List.ext_getElem?
  intro i
  rw [List.getElem?_set]
  simp only [aRow, List.length_map, List.length_append, List.length_replicate, List.getElem?_map, List.getElem?_append, List.getElem?_replicate]
  by_cases h1 : j = i
  · subst h1
    simp
    omega
  · rw [if_neg h1]
    by_cases h2 : i < j
    · simp [h2, show i < j + 1 by omega]
    · have h3 : ¬ i < j + 1 := by omega
      have h4 : (i - j < N - j) = (i < N) := by rw [eq_iff_iff]; omega
      have h5 : (i - (j + 1) < N - (j + 1)) = (i < N) := by rw [eq_iff_iff]; omega
      simp only [h2, h3, h4, h5, if_false]
theorem aRow_zero (N : Nat) : (aRow N 0).map (Value.int .u8) = List.replicate N (Value.int .u8 0) := by simp [aRow]
/-- What the law writes at last. -/
def bRow (N k : Nat) (c : Int) : List Int := (List.replicate N 97).set k c
theorem bRow_len (N k : Nat) (c : Int) : (bRow N k c).length = N := by simp [bRow]
theorem bRow_set (N k : Nat) (c : Int) : ((aRow N N).map (Value.int .u8)).set k (.int .u8 c) = (bRow N k c).map (Value.int .u8) := by simp [aRow, bRow]
theorem bRow_mem (N k : Nat) (c : Int) (hk : k < N) (hc : 0 ≤ c ∧ c ≤ 255) (b : UInt8) (hb : b ≠ 97) : (strOfNums (bRow N k c)).data.toList.contains b = decide (c = (b.toNat : Int)) := by
  rw [strOfNums_data, Bool.eq_iff_iff, List.contains_iff_mem, List.mem_map, decide_eq_true_iff]
  constructor
  · rintro ⟨x, hx, rfl⟩
    rcases List.mem_or_eq_of_mem_set hx with h | h
    · obtain ⟨_, rfl⟩ := List.mem_replicate.1 h
      exact absurd rfl hb
    · subst h
      have : x.toNat < 256 := by omega
      simp
      omega
  · intro h
    refine ⟨c, List.mem_iff_getElem.2 ⟨k, by simpa [bRow] using hk, by simp [bRow]⟩, ?_⟩
    subst h
    simp
/-- The law's own answer. -/
def bWant (N : Nat) (c : Int) : Int := if N = 0 then 109 else if 24 < N then 115 else if c = 47 ∨ c = 0 then 114 else 0
theorem bRow_code (N k : Nat) (c : Int) (hk : k < N) (hc : 0 ≤ c ∧ c ≤ 255) : nmCode (strOfNums (bRow N k c)) = bWant N c := by
  have h1 : (strOfNums (bRow N k c)).size = N := by rw [strOfNums_size, bRow_len]
  have h2 : ¬ (strOfNums (bRow N k c)).data.toList = [] := by
    intro h
    have := congrArg List.length h
    rw [strOfNums_data] at this
    simp [bRow_len] at this
    omega
  unfold nmCode bWant
  rw [if_neg h2, h1, if_neg (show ¬ N = 0 by omega), bRow_mem N k c hk hc 47 (by decide), bRow_mem N k c hk hc 0 (by decide)]
  simp
theorem bRow_special (N k : Nat) (c : Int) (hk : k < N) (hc : 0 ≤ c ∧ c ≤ 255) : nmSpecial (strOfNums (bRow N k c)) = (decide (N = 1) && decide (c = 46)) := by
  unfold nmSpecial
  rw [ByteArray.toList_eq, strOfNums_data]
  by_cases h1 : N = 1
  · subst h1
    obtain rfl : k = 0 := by omega
    rw [Bool.eq_iff_iff]
    simp [bRow]
    constructor
    · intro h
      have h2 := congrArg UInt8.toNat h
      simp at h2
      omega
    · rintro rfl
      rfl
  · by_cases h2 : N = 2
    · subst h2
      rw [Bool.eq_iff_iff]
      obtain rfl | rfl : k = 0 ∨ k = 1 := by omega
      · simp [bRow, List.replicate]
      · simp [bRow, List.replicate]
    · have hl : ((bRow N k c).map fun n => UInt8.ofNat n.toNat).length = N := by simp [bRow_len]
      rw [Bool.eq_iff_iff]
      simp only [Bool.or_eq_true, beq_iff_eq, Bool.and_eq_true, decide_eq_true_eq, h1, false_and, iff_false]
      rintro (h | h)
      · rw [h] at hl; simp at hl; omega
      · rw [h] at hl; simp at hl; omega

set_option maxHeartbeats 8000000 in
theorem bounds_any (n at' c : Int) (hc : 0 ≤ c ∧ c ≤ 255) (w : World) (hE : Env E B w) :
    Calls Tryd.prog 7 #[.int .i64 n, .int .i64 at', .int .u8 c] w fun e w' => e = .returned (.bool true) ∧ Below B w w' := by
  have hB := hE.size
  have HE := Lib.hid hE
  clear hE
  go_enter Tryd.func7, Tryd.ntmps7
  go_wp2_with fail
  refine (first11 _ HE.out).mono ?_
  rintro e w1 ⟨rfl, hb1⟩
  have HE1 := Lib.hid (HE.out.below hb1)
  have HB1 := Lib.hid (hb1.mono hB)
  clear hb1 HE
  go_wp2_with fail
  refine (number_any n 40 (by omega) _).mono ?_
  rintro e w2 ⟨rfl, rfl⟩
  obtain ⟨N, hN⟩ : ∃ N : Nat, n % 40 = N := ⟨(n % 40).toNat, by omega⟩
  have hN20 : N < 40 := by omega
  rw [hN]
  clear hN
  go_wp2_with (at_make; refine wpList_mk _ rfl _ _ _ rfl 5 (.int .u8 0) 1 Tryd.underlying50 u8_info rfl N rfl rfl (by omega) (by unfold maxLen; omega) ?_; intro w2 hr hb2)
  have HR2 := Lib.hid hr
  have HE2 := Lib.hid (HE1.out.below hb2)
  have HB2 := Lib.hid (HB1.out.trans (hb2.mono HE1.out.size))
  have hBr : B ≤ w1.heap.size := HE1.out.size
  clear hr hb2 HE1 HB1
  generalize w1.heap.size = br at *
  go_loopw [9] (fun v wr => ∃ j : Nat, j ≤ N ∧ v = .int .i64 j ∧ Row wr br 5 ((aRow N j).map (Value.int .u8)) ∧ Env E B wr ∧ Below B w wr) (fun v _ => N - (intOf v).toNat)
  case atStart => exact ⟨0, Nat.zero_le _, rfl, by rw [aRow_zero]; exact HR2.out, HE2.out, HB2.out⟩
  case round =>
    obtain ⟨j, hj, rfl, hr, he, hb⟩ := hrel
    have HR := Lib.hid hr
    have HEr := Lib.hid he
    have HBr := Lib.hid hb
    clear hr he hb HR2 HE2 HB2
    by_cases hjN : j < N
    · obtain ⟨v, hv⟩ : ∃ v, wr.cell? ⟨br, j, none⟩ = some v := by
        rw [HR.out.cell, List.getElem?_eq_getElem (by simp [aRow_len hj]; omega)]
        exact ⟨_, rfl⟩
      have hf := HR.out.froz j
      go_wp2
      go_roundw
      case rel => exact ⟨j + 1, by omega, by go_num, by rw [← aRow_set hjN]; exact HR.out.set _ _, HEr.out.keep ((Below.refl _ _).setCell hBr _), HBr.out.trans ((Below.refl _ _).setCell hBr _)⟩
      case measure => simp [intOf]; omega
    · obtain rfl : j = N := by omega
      clear hjN hj
      by_cases h0 : j = 0
      · subst h0
        have hcv := row_string HR.out (n := 0) (by simp [aRow])
        have h0 : nmCode (strOfNums (aRow 0 0)) = 109 := by decide
        have h1 : nmSpecial (strOfNums (aRow 0 0)) = false := by simp [nmSpecial, strOfNums, aRow]
        have H1 := Lib.hid h1
        clear h1
        go_wp2_with fail
        refine (nvalid_any _ _ HEr.out).mono ?_
        rintro e w3 ⟨rfl, rfl⟩
        rw [h0]
        go_wp2_with fail
        refine (is_of 109 109 (by omega) _ HEr.out).mono ?_
        rintro e w3 ⟨rfl, hb3⟩
        have hcv3 := row_string (HR.out.below hb3) (n := 0) (by simp [aRow])
        have HB3 := Lib.hid (HBr.out.trans (hb3.mono HEr.out.size))
        clear hb3
        go_wp2_with fail
        refine (special_any _ _).mono ?_
        rintro e w4 ⟨rfl, rfl⟩
        rw [H1.out]
        go_wp2
        go_ret
        exact ⟨rfl, HB3.out⟩
      · obtain ⟨k, hk⟩ : ∃ k : Nat, at' % (j : Int) = k := ⟨(at' % (j : Int)).toNat, by have := Int.emod_nonneg at' (b := (j : Int)) (by omega); omega⟩
        have hkj : k < j := by have := Int.emod_lt_of_pos at' (b := (j : Int)) (by omega); omega
        have hcode := bRow_code j k c hkj hc
        have hspec := bRow_special j k c hkj hc
        obtain ⟨v, hv⟩ : ∃ v, wr.cell? ⟨br, k, none⟩ = some v := by
          rw [HR.out.cell, List.getElem?_eq_getElem (by simp [aRow_len (Nat.le_refl j)]; omega)]
          exact ⟨_, rfl⟩
        have hf := HR.out.froz k
        have hr := HR.out.set k (.int .u8 c)
        rw [bRow_set] at hr
        have hcv := row_string hr (n := j) (bRow_len _ _ _)
        have HR4 := Lib.hid hr
        have HE4 := Lib.hid (HEr.out.keep ((Below.refl B wr).setCell (p := ⟨br, k, none⟩) hBr (.int .u8 c)))
        have HB4 := Lib.hid (HBr.out.trans ((Below.refl B wr).setCell (p := ⟨br, k, none⟩) hBr (.int .u8 c)))
        have HC := Lib.hid hcode
        have HS := Lib.hid hspec
        clear hr hcode hspec HR HEr HBr
        have HK := Lib.hid hk
        have hcc : c = 47 ∨ c = 0 ∨ c = 46 ∨ (c ≠ 47 ∧ c ≠ 0 ∧ c ≠ 46) := by omega
        have hjj : 24 < j ∨ j = 1 ∨ (j ≠ 1 ∧ ¬ 24 < j) := by omega
        clear hk
        rcases hcc with rfl | rfl | rfl | ⟨hc1, hc2, hc3⟩
        · rcases hjj with h24 | h1 | ⟨h1, h24⟩
          · have HW : Hid (bWant j 47 = 115) := Lib.hid (by unfold bWant; rw [if_neg h0, if_pos h24])
            have hj1 : ((j : Int) == 1) = false := by rw [beq_eq_false_iff_ne]; omega
            have HS' : Hid (nmSpecial (strOfNums (bRow j k 47)) = false) := Lib.hid (by rw [HS.out]; simp; try omega)
            clear HS
            go_wp2_with fail
            refine (number_any at' j (by omega) _).mono ?_
            rintro e w3 ⟨rfl, rfl⟩
            rw [HK.out]
            go_wp2_with fail
            refine (nvalid_any _ _ HE4.out).mono ?_
            rintro e w3 ⟨rfl, rfl⟩
            rw [HC.out, HW.out]
            go_wp2_with fail
            refine (is_of _ _ (by omega) _ HE4.out).mono ?_
            rintro e w3 ⟨rfl, hb3⟩
            have hcv3 := row_string (HR4.out.below hb3) (n := j) (bRow_len _ _ _)
            have HB5 := Lib.hid (HB4.out.trans (hb3.mono HE4.out.size))
            clear hb3
            go_wp2_with fail
            refine (special_any _ _).mono ?_
            rintro e w4 ⟨rfl, rfl⟩
            rw [HS'.out]
            go_wp2
            go_ret
            exact ⟨rfl, HB5.out⟩
          · have HW : Hid (bWant j 47 = 114) := Lib.hid (by unfold bWant; rw [if_neg h0, if_neg (show ¬ 24 < j by omega), if_pos (by omega)])
            have hj1 : ((j : Int) == 1) = true := by rw [beq_iff_eq]; omega
            have HS' : Hid (nmSpecial (strOfNums (bRow j k 47)) = false) := Lib.hid (by rw [HS.out]; simp; try omega)
            have h24' : ¬ (24 : Int) < j := by omega
            have H1 := Lib.hid h1
            clear h1
            clear HS
            go_wp2_with fail
            refine (number_any at' j (by omega) _).mono ?_
            rintro e w3 ⟨rfl, rfl⟩
            rw [HK.out]
            go_wp2_with fail
            refine (nvalid_any _ _ HE4.out).mono ?_
            rintro e w3 ⟨rfl, rfl⟩
            rw [HC.out, HW.out]
            go_wp2_with fail
            refine (is_of _ _ (by omega) _ HE4.out).mono ?_
            rintro e w3 ⟨rfl, hb3⟩
            have hcv3 := row_string (HR4.out.below hb3) (n := j) (bRow_len _ _ _)
            have HB5 := Lib.hid (HB4.out.trans (hb3.mono HE4.out.size))
            clear hb3
            go_wp2_with fail
            refine (special_any _ _).mono ?_
            rintro e w4 ⟨rfl, rfl⟩
            rw [HS'.out]
            go_wp2
            go_ret
            exact ⟨rfl, HB5.out⟩
          · have HW : Hid (bWant j 47 = 114) := Lib.hid (by unfold bWant; rw [if_neg h0, if_neg h24, if_pos (by omega)])
            have hj1 : ((j : Int) == 1) = false := by rw [beq_eq_false_iff_ne]; omega
            have HS' : Hid (nmSpecial (strOfNums (bRow j k 47)) = false) := Lib.hid (by rw [HS.out]; simp; try omega)
            have h24' : ¬ (24 : Int) < j := by omega
            clear HS
            go_wp2_with fail
            refine (number_any at' j (by omega) _).mono ?_
            rintro e w3 ⟨rfl, rfl⟩
            rw [HK.out]
            go_wp2_with fail
            refine (nvalid_any _ _ HE4.out).mono ?_
            rintro e w3 ⟨rfl, rfl⟩
            rw [HC.out, HW.out]
            go_wp2_with fail
            refine (is_of _ _ (by omega) _ HE4.out).mono ?_
            rintro e w3 ⟨rfl, hb3⟩
            have hcv3 := row_string (HR4.out.below hb3) (n := j) (bRow_len _ _ _)
            have HB5 := Lib.hid (HB4.out.trans (hb3.mono HE4.out.size))
            clear hb3
            go_wp2_with fail
            refine (special_any _ _).mono ?_
            rintro e w4 ⟨rfl, rfl⟩
            rw [HS'.out]
            go_wp2
            go_ret
            exact ⟨rfl, HB5.out⟩
        · rcases hjj with h24 | h1 | ⟨h1, h24⟩
          · have HW : Hid (bWant j 0 = 115) := Lib.hid (by unfold bWant; rw [if_neg h0, if_pos h24])
            have hj1 : ((j : Int) == 1) = false := by rw [beq_eq_false_iff_ne]; omega
            have HS' : Hid (nmSpecial (strOfNums (bRow j k 0)) = false) := Lib.hid (by rw [HS.out]; simp; try omega)
            clear HS
            go_wp2_with fail
            refine (number_any at' j (by omega) _).mono ?_
            rintro e w3 ⟨rfl, rfl⟩
            rw [HK.out]
            go_wp2_with fail
            refine (nvalid_any _ _ HE4.out).mono ?_
            rintro e w3 ⟨rfl, rfl⟩
            rw [HC.out, HW.out]
            go_wp2_with fail
            refine (is_of _ _ (by omega) _ HE4.out).mono ?_
            rintro e w3 ⟨rfl, hb3⟩
            have hcv3 := row_string (HR4.out.below hb3) (n := j) (bRow_len _ _ _)
            have HB5 := Lib.hid (HB4.out.trans (hb3.mono HE4.out.size))
            clear hb3
            go_wp2_with fail
            refine (special_any _ _).mono ?_
            rintro e w4 ⟨rfl, rfl⟩
            rw [HS'.out]
            go_wp2
            go_ret
            exact ⟨rfl, HB5.out⟩
          · have HW : Hid (bWant j 0 = 114) := Lib.hid (by unfold bWant; rw [if_neg h0, if_neg (show ¬ 24 < j by omega), if_pos (by omega)])
            have hj1 : ((j : Int) == 1) = true := by rw [beq_iff_eq]; omega
            have HS' : Hid (nmSpecial (strOfNums (bRow j k 0)) = false) := Lib.hid (by rw [HS.out]; simp; try omega)
            have h24' : ¬ (24 : Int) < j := by omega
            have H1 := Lib.hid h1
            clear h1
            clear HS
            go_wp2_with fail
            refine (number_any at' j (by omega) _).mono ?_
            rintro e w3 ⟨rfl, rfl⟩
            rw [HK.out]
            go_wp2_with fail
            refine (nvalid_any _ _ HE4.out).mono ?_
            rintro e w3 ⟨rfl, rfl⟩
            rw [HC.out, HW.out]
            go_wp2_with fail
            refine (is_of _ _ (by omega) _ HE4.out).mono ?_
            rintro e w3 ⟨rfl, hb3⟩
            have hcv3 := row_string (HR4.out.below hb3) (n := j) (bRow_len _ _ _)
            have HB5 := Lib.hid (HB4.out.trans (hb3.mono HE4.out.size))
            clear hb3
            go_wp2_with fail
            refine (special_any _ _).mono ?_
            rintro e w4 ⟨rfl, rfl⟩
            rw [HS'.out]
            go_wp2
            go_ret
            exact ⟨rfl, HB5.out⟩
          · have HW : Hid (bWant j 0 = 114) := Lib.hid (by unfold bWant; rw [if_neg h0, if_neg h24, if_pos (by omega)])
            have hj1 : ((j : Int) == 1) = false := by rw [beq_eq_false_iff_ne]; omega
            have HS' : Hid (nmSpecial (strOfNums (bRow j k 0)) = false) := Lib.hid (by rw [HS.out]; simp; try omega)
            have h24' : ¬ (24 : Int) < j := by omega
            clear HS
            go_wp2_with fail
            refine (number_any at' j (by omega) _).mono ?_
            rintro e w3 ⟨rfl, rfl⟩
            rw [HK.out]
            go_wp2_with fail
            refine (nvalid_any _ _ HE4.out).mono ?_
            rintro e w3 ⟨rfl, rfl⟩
            rw [HC.out, HW.out]
            go_wp2_with fail
            refine (is_of _ _ (by omega) _ HE4.out).mono ?_
            rintro e w3 ⟨rfl, hb3⟩
            have hcv3 := row_string (HR4.out.below hb3) (n := j) (bRow_len _ _ _)
            have HB5 := Lib.hid (HB4.out.trans (hb3.mono HE4.out.size))
            clear hb3
            go_wp2_with fail
            refine (special_any _ _).mono ?_
            rintro e w4 ⟨rfl, rfl⟩
            rw [HS'.out]
            go_wp2
            go_ret
            exact ⟨rfl, HB5.out⟩
        · rcases hjj with h24 | h1 | ⟨h1, h24⟩
          · have HW : Hid (bWant j 46 = 115) := Lib.hid (by unfold bWant; rw [if_neg h0, if_pos h24])
            have hj1 : ((j : Int) == 1) = false := by rw [beq_eq_false_iff_ne]; omega
            have HS' : Hid (nmSpecial (strOfNums (bRow j k 46)) = false) := Lib.hid (by rw [HS.out]; simp; try omega)
            clear HS
            go_wp2_with fail
            refine (number_any at' j (by omega) _).mono ?_
            rintro e w3 ⟨rfl, rfl⟩
            rw [HK.out]
            go_wp2_with fail
            refine (nvalid_any _ _ HE4.out).mono ?_
            rintro e w3 ⟨rfl, rfl⟩
            rw [HC.out, HW.out]
            go_wp2_with fail
            refine (is_of _ _ (by omega) _ HE4.out).mono ?_
            rintro e w3 ⟨rfl, hb3⟩
            have hcv3 := row_string (HR4.out.below hb3) (n := j) (bRow_len _ _ _)
            have HB5 := Lib.hid (HB4.out.trans (hb3.mono HE4.out.size))
            clear hb3
            go_wp2_with fail
            refine (special_any _ _).mono ?_
            rintro e w4 ⟨rfl, rfl⟩
            rw [HS'.out]
            go_wp2
            go_ret
            exact ⟨rfl, HB5.out⟩
          · have HW : Hid (bWant j 46 = 0) := Lib.hid (by unfold bWant; rw [if_neg h0, if_neg (show ¬ 24 < j by omega), if_neg (by omega)])
            have hj1 : ((j : Int) == 1) = true := by rw [beq_iff_eq]; omega
            have HS' : Hid (nmSpecial (strOfNums (bRow j k 46)) = true) := Lib.hid (by rw [HS.out]; simp; try omega)
            have h24' : ¬ (24 : Int) < j := by omega
            have H1 := Lib.hid h1
            clear h1
            clear HS
            go_wp2_with fail
            refine (number_any at' j (by omega) _).mono ?_
            rintro e w3 ⟨rfl, rfl⟩
            rw [HK.out]
            go_wp2_with fail
            refine (nvalid_any _ _ HE4.out).mono ?_
            rintro e w3 ⟨rfl, rfl⟩
            rw [HC.out, HW.out]
            go_wp2_with fail
            refine (is_of _ _ (by omega) _ HE4.out).mono ?_
            rintro e w3 ⟨rfl, hb3⟩
            have hcv3 := row_string (HR4.out.below hb3) (n := j) (bRow_len _ _ _)
            have HB5 := Lib.hid (HB4.out.trans (hb3.mono HE4.out.size))
            clear hb3
            go_wp2_with fail
            refine (special_any _ _).mono ?_
            rintro e w4 ⟨rfl, rfl⟩
            rw [HS'.out]
            go_wp2
            go_ret
            exact ⟨rfl, HB5.out⟩
          · have HW : Hid (bWant j 46 = 0) := Lib.hid (by unfold bWant; rw [if_neg h0, if_neg h24, if_neg (by omega)])
            have hj1 : ((j : Int) == 1) = false := by rw [beq_eq_false_iff_ne]; omega
            have HS' : Hid (nmSpecial (strOfNums (bRow j k 46)) = false) := Lib.hid (by rw [HS.out]; simp; try omega)
            have h24' : ¬ (24 : Int) < j := by omega
            clear HS
            go_wp2_with fail
            refine (number_any at' j (by omega) _).mono ?_
            rintro e w3 ⟨rfl, rfl⟩
            rw [HK.out]
            go_wp2_with fail
            refine (nvalid_any _ _ HE4.out).mono ?_
            rintro e w3 ⟨rfl, rfl⟩
            rw [HC.out, HW.out]
            go_wp2_with fail
            refine (is_of _ _ (by omega) _ HE4.out).mono ?_
            rintro e w3 ⟨rfl, hb3⟩
            have hcv3 := row_string (HR4.out.below hb3) (n := j) (bRow_len _ _ _)
            have HB5 := Lib.hid (HB4.out.trans (hb3.mono HE4.out.size))
            clear hb3
            go_wp2_with fail
            refine (special_any _ _).mono ?_
            rintro e w4 ⟨rfl, rfl⟩
            rw [HS'.out]
            go_wp2
            go_ret
            exact ⟨rfl, HB5.out⟩
        · have hd1 : (c == 47) = false := by rw [beq_eq_false_iff_ne]; omega
          have hd2 : (c == 0) = false := by rw [beq_eq_false_iff_ne]; omega
          have hd3 : (c == 46) = false := by rw [beq_eq_false_iff_ne]; omega
          rcases hjj with h24 | h1 | ⟨h1, h24⟩
          · have HW : Hid (bWant j c = 115) := Lib.hid (by unfold bWant; rw [if_neg h0, if_pos h24])
            have hj1 : ((j : Int) == 1) = false := by rw [beq_eq_false_iff_ne]; omega
            have HS' : Hid (nmSpecial (strOfNums (bRow j k c)) = false) := Lib.hid (by rw [HS.out]; simp; try omega)
            clear HS
            go_wp2_with fail
            refine (number_any at' j (by omega) _).mono ?_
            rintro e w3 ⟨rfl, rfl⟩
            rw [HK.out]
            go_wp2_with fail
            refine (nvalid_any _ _ HE4.out).mono ?_
            rintro e w3 ⟨rfl, rfl⟩
            rw [HC.out, HW.out]
            go_wp2_with fail
            refine (is_of _ _ (by omega) _ HE4.out).mono ?_
            rintro e w3 ⟨rfl, hb3⟩
            have hcv3 := row_string (HR4.out.below hb3) (n := j) (bRow_len _ _ _)
            have HB5 := Lib.hid (HB4.out.trans (hb3.mono HE4.out.size))
            clear hb3
            go_wp2_with fail
            refine (special_any _ _).mono ?_
            rintro e w4 ⟨rfl, rfl⟩
            rw [HS'.out]
            go_wp2
            go_ret
            exact ⟨rfl, HB5.out⟩
          · have HW : Hid (bWant j c = 0) := Lib.hid (by unfold bWant; rw [if_neg h0, if_neg (show ¬ 24 < j by omega), if_neg (by omega)])
            have hj1 : ((j : Int) == 1) = true := by rw [beq_iff_eq]; omega
            have HS' : Hid (nmSpecial (strOfNums (bRow j k c)) = false) := Lib.hid (by rw [HS.out]; simp; try omega)
            have h24' : ¬ (24 : Int) < j := by omega
            have H1 := Lib.hid h1
            clear h1
            clear HS
            go_wp2_with fail
            refine (number_any at' j (by omega) _).mono ?_
            rintro e w3 ⟨rfl, rfl⟩
            rw [HK.out]
            go_wp2_with fail
            refine (nvalid_any _ _ HE4.out).mono ?_
            rintro e w3 ⟨rfl, rfl⟩
            rw [HC.out, HW.out]
            go_wp2_with fail
            refine (is_of _ _ (by omega) _ HE4.out).mono ?_
            rintro e w3 ⟨rfl, hb3⟩
            have hcv3 := row_string (HR4.out.below hb3) (n := j) (bRow_len _ _ _)
            have HB5 := Lib.hid (HB4.out.trans (hb3.mono HE4.out.size))
            clear hb3
            go_wp2_with fail
            refine (special_any _ _).mono ?_
            rintro e w4 ⟨rfl, rfl⟩
            rw [HS'.out]
            go_wp2
            go_ret
            exact ⟨rfl, HB5.out⟩
          · have HW : Hid (bWant j c = 0) := Lib.hid (by unfold bWant; rw [if_neg h0, if_neg h24, if_neg (by omega)])
            have hj1 : ((j : Int) == 1) = false := by rw [beq_eq_false_iff_ne]; omega
            have HS' : Hid (nmSpecial (strOfNums (bRow j k c)) = false) := Lib.hid (by rw [HS.out]; simp; try omega)
            have h24' : ¬ (24 : Int) < j := by omega
            clear HS
            go_wp2_with fail
            refine (number_any at' j (by omega) _).mono ?_
            rintro e w3 ⟨rfl, rfl⟩
            rw [HK.out]
            go_wp2_with fail
            refine (nvalid_any _ _ HE4.out).mono ?_
            rintro e w3 ⟨rfl, rfl⟩
            rw [HC.out, HW.out]
            go_wp2_with fail
            refine (is_of _ _ (by omega) _ HE4.out).mono ?_
            rintro e w3 ⟨rfl, hb3⟩
            have hcv3 := row_string (HR4.out.below hb3) (n := j) (bRow_len _ _ _)
            have HB5 := Lib.hid (HB4.out.trans (hb3.mono HE4.out.size))
            clear hb3
            go_wp2_with fail
            refine (special_any _ _).mono ?_
            rintro e w4 ⟨rfl, rfl⟩
            rw [HS'.out]
            go_wp2
            go_ret
            exact ⟨rfl, HB5.out⟩
end Go.Proofs.YthominkfjfnkbaaDoor
