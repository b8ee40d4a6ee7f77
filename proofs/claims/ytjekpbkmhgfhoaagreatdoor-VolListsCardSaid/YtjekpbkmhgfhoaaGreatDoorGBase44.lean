/- Merged texts: VolListsR. -/
import Derived.Test.YtjekpbkmhgfhoaaGreatDoorGBase31
import Derived.Lib.ItoaNum
section
/- What each round of VolLists sees, in plain words. No program in sight. -/
namespace Go.Proofs.YtjekpbkmhgfhoaaGreatDoor
set_option linter.unusedSimpArgs false
set_option linter.unusedVariables false
/-- The volume ahead of round r. -/
def lsV (n r : Nat) : V := bareV (if r ≤ 1 then dS n else dSa n)
theorem listV_eq' (s : V) (x after : ByteArray) (n : Int) : listV s x after n = if (listT s.st x).1 ≠ 0 then ((listT s.st x).1, [], false) else (0, fromL (listT s.st x).2 after n) := rfl
theorem ls_cut {n k size : Nat} (hk : k ≤ n) : (if n - k ≤ size then ((dEnts n).drop k, false) else (((dEnts n).drop k).take size, true)) = (((dEnts n).drop k).take size, decide (size < n - k)) := by
  by_cases h : n - k ≤ size
  · rw [if_pos h, List.take_of_length_le (by rw [List.length_drop, dEnts_len]; exact h), decide_eq_false (by omega)]
  · rw [if_neg h, decide_eq_true (by omega)]
theorem ls_round {n size r k : Nat} (hn : n ≤ 20) (hk : k ≤ n) (h0 : r ≤ 1 ∨ 1 ≤ k) : listV (lsV n r) pD (lsAfter k) size = (0, ((dEnts n).drop k).take size, decide (size < n - k)) := by
  rw [listV_eq']
  unfold lsV
  by_cases hr : r ≤ 1
  · rw [if_pos hr]
    have e1 : (bareV (dS n)).st = dS n := rfl
    rw [e1, ls_list, if_neg (by simp)]
    simp only
    rw [ls_from hn hk, ls_cut hk]
  · rw [if_neg hr]
    have e1 : (bareV (dSa n)).st = dSa n := rfl
    rw [e1, ls_list_a, if_neg (by simp)]
    simp only
    rw [ls_from_a hn (by omega) hk, ls_cut hk]
theorem ls_len {n k size : Nat} : (((dEnts n).drop k).take size).length = min size (n - k) := by
  rw [List.length_take, List.length_drop, dEnts_len]
/-- The one at place i of a round: its name. -/
theorem ls_at {n k size i : Nat} (hi : i < min size (n - k)) : (((dEnts n).drop k).take size)[i]? = some ⟨nm3 (100 + (k + i)), ((3 + (k + i) : Nat) : Int), 2⟩ := by
  rw [List.getElem?_take, if_pos (by omega), List.getElem?_drop, dEnts_get (by omega)]
theorem lsAfter_succ (k : Nat) : lsAfter (k + 1) = nm3 (100 + k) := by
  unfold lsAfter
  rw [if_neg (by omega)]
  rfl
theorem ls_num {i : Nat} (hi : i < 20) : (⟨#[47, 100, 47, 110]⟩ : ByteArray) ++ ⟨(Lib.itoa ((100 + i : Nat) : Int)).toArray⟩ = pN (100 + i) := by
  have h : ∀ i, i < 20 → ((⟨#[47, 100, 47, 110]⟩ : ByteArray) ++ ⟨(Lib.itoa ((100 + i : Nat) : Int)).toArray⟩).data.toList = (pN (100 + i)).data.toList := by decide +kernel
  exact ByteArray.ext (Array.toList_inj.1 (h i hi))
theorem ls_num3 {i : Nat} (hi : i < 20) : (⟨#[110]⟩ : ByteArray) ++ ⟨(Lib.itoa ((100 + i : Nat) : Int)).toArray⟩ = nm3 (100 + i) := by
  have h : ∀ i, i < 20 → ((⟨#[110]⟩ : ByteArray) ++ ⟨(Lib.itoa ((100 + i : Nat) : Int)).toArray⟩).data.toList = (nm3 (100 + i)).data.toList := by decide +kernel
  exact ByteArray.ext (Array.toList_inj.1 (h i hi))
theorem ls_numfit {i : Nat} (hi : i < 20) : (Lib.itoa ((100 + i : Nat) : Int)).length = 3 := by
  have h : ∀ i, i < 20 → (Lib.itoa ((100 + i : Nat) : Int)).length = 3 := by decide +kernel
  exact h i hi
theorem ls_mk1 {n : Nat} (hn : n ≤ 20) : (mkdirV (lsV n 1) pDa).2 = lsV n 2 := by
  have e1 : lsV n 1 = bareV (dS n) := rfl
  have e2 : lsV n 2 = bareV (dSa n) := rfl
  rw [e1, e2, ls_mka hn]
theorem lsV_same {n r : Nat} (h : r ≠ 1) : lsV n (r + 1) = lsV n r := by
  unfold lsV
  by_cases h0 : r = 0
  · rw [h0]; rfl
  · rw [if_neg (by omega), if_neg (by omega)]
end Go.Proofs.YtjekpbkmhgfhoaaGreatDoor
end
