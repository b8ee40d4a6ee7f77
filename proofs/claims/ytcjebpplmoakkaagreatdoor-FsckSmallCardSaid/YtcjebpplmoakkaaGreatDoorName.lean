/- The walks of package name: Valid, Special; errors by their codes. -/
import Derived.Test.YtcjebpplmoakkaaGreatDoorErrs
import Derived.Test.YtcjebpplmoakkaaGreatDoorShelfS
import Derived.Lib.IndexAny
namespace Go.Proofs.YtcjebpplmoakkaaGreatDoor
open Go Go.RowKit
set_option maxRecDepth 100000
set_option linter.unusedSimpArgs false
attribute [local go_sem] giv
variable {E : Nat → Addr} {B : Nat}

/-- The error of a code: 0: none. -/
def errOf (E : Nat → Addr) (c : Int) : Value := if c = 0 then .nilIface else errV E (errs.getD (c - 101).toNat 0)
theorem errOf_zero : errOf E 0 = .nilIface := rfl
theorem errOf_code {g : Nat} (hg : g ∈ errs) : errOf E (codeOf g) = errV E g := by
  have hall : ∀ g ∈ errs, codeOf g ≠ 0 ∧ errs.getD (codeOf g - 101).toNat 0 = g := by decide
  obtain ⟨h1, h2⟩ := hall g hg
  unfold errOf
  rw [if_neg h1, h2]

theorem is_of (c d : Int) (hc : c = 0 ∨ (101 ≤ c ∧ c ≤ 124)) (w : World) (hE : Env E B w) : Calls Tryz.prog 11 #[errOf E c, .int .i64 d] w
    fun e w' => e = .returned (.bool (c == d)) ∧ Below w.heap.size w w' := by
  rcases hc with rfl | ⟨h1, h2⟩
  · exact is_nil d w
  · obtain ⟨k, hk, rfl⟩ : ∃ k : Nat, k < 24 ∧ c = 101 + (k : Int) := ⟨(c - 101).toNat, by omega, by omega⟩
    have hall : ∀ k, k < 24 → errs.getD k 0 ∈ errs ∧ codeOf (errs.getD k 0) = 101 + (k : Int) := by decide
    obtain ⟨h3, h4⟩ := hall k hk
    have h5 : errOf E (101 + (k : Int)) = errV E (errs.getD k 0) := by
      unfold errOf
      rw [if_neg (by omega), show (101 + (k : Int) - 101).toNat = k from by omega]
    rw [h5, ← h4]
    exact is_err h3 d w hE

/-- What is amiss with a name: a code. -/
def nmCode (s : ByteArray) : Int :=
  if s.data.toList = [] then 109 else if 24 < s.size then 115 else if s.data.toList.contains 47 || s.data.toList.contains 0 then 114 else 0
theorem nmCode_ok (s : ByteArray) : nmCode s = 0 ∨ (101 ≤ nmCode s ∧ nmCode s ≤ 124) := by
  unfold nmCode
  split
  · omega
  · split
    · omega
    · split <;> omega

theorem contains_one (s : ByteArray) (c : UInt8) (w : World) : Calls Tryz.prog 97 #[.string s, .string ⟨#[c]⟩] w fun e w' => e = .returned (.bool (s.data.toList.contains c)) ∧ w = w' :=
  (Tryz.strings_Contains_one s c w).mono fun e w' ⟨he, hw⟩ => ⟨by rw [he, Go.Lib.contains_iff_indexByte], hw.symm⟩

theorem nvalid_any (s : ByteArray) (w : World) (hE : Env E B w) :
    Calls Tryz.prog 48 #[.string s] w fun e w' => e = .returned (errOf E (nmCode s)) ∧ w = w' := by
  have e1 := hE.cell 4 (by decide)
  have e2 := hE.cell 5 (by decide)
  have e3 := hE.cell 6 (by decide)
  have c1 : errOf E 109 = errV E 4 := errOf_code (g := 4) (by decide)
  have c2 : errOf E 115 = errV E 5 := errOf_code (g := 5) (by decide)
  have c3 : errOf E 114 = errV E 6 := errOf_code (g := 6) (by decide)
  have l1 : 4 < w.heap.size := Nat.lt_of_lt_of_le (hE.glt _ (by decide)) hE.size
  have l2 : 5 < w.heap.size := Nat.lt_of_lt_of_le (hE.glt _ (by decide)) hE.size
  have l3 : 6 < w.heap.size := Nat.lt_of_lt_of_le (hE.glt _ (by decide)) hE.size
  have C1 := Lib.hid c1
  have C2 := Lib.hid c2
  have C3 := Lib.hid c3
  clear hE c1 c2 c3
  by_cases h0 : s.data.toList = []
  · have hn : nmCode s = 109 := by unfold nmCode; rw [if_pos h0]
    rw [hn, C1.out]
    have h0' : s.toList = [] := by rw [ByteArray.toList_eq]; exact h0
    clear hn h0
    go_enter Tryz.func48, Tryz.ntmps48
    go_wp2
    go_ret
    exact ⟨rfl, rfl⟩
  have h0' : ¬ s.toList = [] := by rw [ByteArray.toList_eq]; exact h0
  have h0'' : s.toList.isEmpty = false := by simpa using h0'
  by_cases h1 : 24 < s.size
  · have hn : nmCode s = 115 := by unfold nmCode; rw [if_neg h0, if_pos h1]
    rw [hn, C2.out]
    clear hn h0
    have h1' : (24 : Int) < s.size := by omega
    go_enter Tryz.func48, Tryz.ntmps48
    go_wp2
    go_ret
    exact ⟨rfl, rfl⟩
  have h1' : ¬ (24 : Int) < s.size := by omega
  obtain ⟨r, hr⟩ : ∃ r, r = nmCode s := ⟨_, rfl⟩
  rw [← hr]
  unfold nmCode at hr
  rw [if_neg h0, if_neg h1] at hr
  have HR := Lib.hid hr
  clear hr h0 h1
  go_enter Tryz.func48, Tryz.ntmps48
  go_wp2_with fail
  refine (contains_one _ _ _).mono ?_
  rintro e w1 ⟨rfl, rfl⟩
  cases ha : s.data.toList.contains 47
  · go_wp2_with fail
    refine (contains_one _ _ _).mono ?_
    rintro e w1 ⟨rfl, rfl⟩
    cases hb : s.data.toList.contains 0
    · have hr : r = 0 := by rw [HR.out, ha, hb]; rfl
      subst hr
      clear HR ha hb
      go_wp2
      go_ret
      exact ⟨rfl, rfl⟩
    · have hr : r = 114 := by rw [HR.out, ha, hb]; rfl
      subst hr
      clear HR ha hb
      go_wp2
      go_ret
      exact ⟨by rw [C3.out]; rfl, rfl⟩
  · have hr : r = 114 := by rw [HR.out, ha]; rfl
    subst hr
    clear HR ha
    go_wp2
    go_ret
    exact ⟨by rw [C3.out]; rfl, rfl⟩

/-- One or two dots. -/
def nmSpecial (s : ByteArray) : Bool := s.toList == [46] || s.toList == [46, 46]
theorem special_any (s : ByteArray) (w : World) :
    Calls Tryz.prog 49 #[.string s] w fun e w' => e = .returned (.bool (nmSpecial s)) ∧ w = w' := by
  cases h1 : (s.toList == [46])
  all_goals
    go_enter Tryz.func49, Tryz.ntmps49
    go_wp2
    go_ret
    exact ⟨ret_bool (by unfold nmSpecial; simp [h1]), rfl⟩

end Go.Proofs.YtcjebpplmoakkaaGreatDoor
