/- Merged texts: PathLaw. -/
import Derived.Test.YtjekpbkmhgfhoaaGreatDoorGBase21
import Derived.Lib.SplitLaws
section
/- Paths in plain words: the pieces between slashes, one by one. -/
namespace Go.Proofs.YtjekpbkmhgfhoaaGreatDoor
open Go
set_option maxRecDepth 100000
set_option linter.unusedSimpArgs false
set_option linter.unusedVariables false

theorem splitK_cuts : ∀ l : List UInt8, Lib.splitK [47] 0 (l.count 47) l = cuts l
  | [] => by simp [Lib.splitK, cuts]
  | c :: l => by
    have ih := splitK_cuts l
    by_cases hc : c = 47
    · subst hc
      have hix : Lib.index (47 :: l) [47] = 0 := by rw [Lib.index]; simp [List.isPrefixOf]
      rw [List.count_cons_self, Lib.splitK, hix, cuts, if_pos rfl]
      simp [ih]
    · have hp : ([47] : List UInt8).isPrefixOf (c :: l) = false := by simp [List.isPrefixOf, Ne.symm hc]
      have hix : Lib.index (c :: l) [47] = if Lib.index l [47] == -1 then -1 else Lib.index l [47] + 1 := by rw [Lib.index, hp]; simp
      rw [List.count_cons_of_ne (by simpa using hc), cuts, if_neg hc]
      cases hk : l.count 47 with
      | zero =>
        rw [hk] at ih
        rw [← ih]
        rfl
      | succ k =>
        rw [hk] at ih
        have hm : Lib.index l [47] ≠ -1 := fun e => by
          have h1 := Lib.count_miss e
          rw [Lib.count_one] at h1
          omega
        have hge := Lib.index_ge l [47]
        obtain ⟨i, hi⟩ : ∃ i : Nat, Lib.index l [47] = i := ⟨(Lib.index l [47]).toNat, by omega⟩
        have hi0 : ((i : Int) == -1) = false := by rw [beq_eq_false_iff_ne]; omega
        have hi1 : ((i : Int) + 1 == -1) = false := by rw [beq_eq_false_iff_ne]; omega
        have ht : ((i : Int) + 1).toNat = i + 1 := by omega
        rw [hi, hi0] at hix
        simp only [Bool.false_eq_true, if_false] at hix
        rw [Lib.splitK, hi, hi0] at ih
        simp only [Bool.false_eq_true, if_false, Int.toNat_natCast, Nat.add_zero, List.length_cons, List.length_nil, Nat.zero_add] at ih
        rw [Lib.splitK, hix, hi1]
        simp only [Bool.false_eq_true, if_false, ht, Nat.add_zero, List.length_cons, List.length_nil, Nat.zero_add, List.take_succ_cons, List.drop_succ_cons]
        rw [← ih]
/-- What strings.Split makes of a text at its slashes. -/
def pcs (s : ByteArray) : List ByteArray := Lib.splitB ⟨#[47]⟩ 0 (Lib.countB s ⟨#[47]⟩) s
theorem pcs_data (s : ByteArray) : (pcs s).map (·.data.toList) = cuts s.data.toList := by
  unfold pcs
  rw [Lib.splitB_data]
  show Lib.splitK [47] 0 (Lib.count s.data.toList [47]) _ = _
  rw [Lib.count_one]
  exact splitK_cuts _
theorem pcs_len (s : ByteArray) : (pcs s).length = Lib.countB s ⟨#[47]⟩ + 1 := Lib.splitB_all ⟨#[47]⟩ (by decide) 0 _ s rfl
theorem pcs_le (s : ByteArray) : (pcs s).length ≤ s.size + 1 := by
  rw [pcs_len]
  have := Lib.countB_le ⟨#[47]⟩ (by decide) s.size s (Nat.le_refl _)
  omega
/-- The parts of pieces. -/
def partsB (l : List ByteArray) : Option (List ByteArray) := partsOf (l.map (·.data.toList))
theorem parts_nil : partsB [] = some [] := rfl
theorem parts_skip {x : ByteArray} {l : List ByteArray} (h : x.data.toList = [] ∨ x.data.toList = [46]) : partsB (x :: l) = partsB l := by
  unfold partsB
  rw [List.map_cons, partsOf, if_pos h]
theorem parts_long {x : ByteArray} {l : List ByteArray} (h : ¬ (x.data.toList = [] ∨ x.data.toList = [46])) (h2 : 24 < x.size) : partsB (x :: l) = none := by
  have h3 : x.data.toList.length = x.size := Array.length_toList
  unfold partsB
  rw [List.map_cons, partsOf, if_neg h, if_pos (by omega)]
theorem parts_cons {x : ByteArray} {l : List ByteArray} (h : ¬ (x.data.toList = [] ∨ x.data.toList = [46])) (h2 : x.size ≤ 24) : partsB (x :: l) = (partsB l).map (x :: ·) := by
  have h3 : x.data.toList.length = x.size := Array.length_toList
  have h4 : (⟨x.data.toList.toArray⟩ : ByteArray) = x := by cases x; rfl
  unfold partsB
  rw [List.map_cons, partsOf, if_neg h, if_neg (by omega), h4]
theorem parseP_pcs {s : ByteArray} (h1 : s.data.toList ≠ []) (h2 : s.size ≤ 256) (h3 : s.data.toList.head? = some 47) (h4 : s.data.toList.contains 0 = false) :
    parseP s = match partsB (pcs s) with | none => (115, noPth) | some ps => (0, ⟨ps, !ps.isEmpty && lastSlash s.data.toList⟩) := by
  unfold parseP partsB
  rw [if_neg h1, if_neg (by omega), if_neg (by simp [h3]; simpa using h4), pcs_data]
  cases partsOf (cuts s.data.toList) <;> rfl
end Go.Proofs.YtjekpbkmhgfhoaaGreatDoor
end
