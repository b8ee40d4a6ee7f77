/- Merged texts: NameLaw. -/
import Derived.Test.YtjmbilbkmcebeaaDoorBase03
import Derived.Lib.SlicesCompact
import Derived.Shelf.Spec.SearchS
import Derived.Sort.Walk0
section
/- Lists of texts that rise: sorted and made single; those behind one. -/
namespace Go.Proofs.YtjmbilbkmcebeaaDoor
open Go Go.Lib
set_option maxRecDepth 100000

theorem nmLt_irrefl (a : ByteArray) : ¬ nmLt a a := fun h => List.lt_irrefl _ h
theorem nmLt_trans {a b c : ByteArray} (h : nmLt a b) (k : nmLt b c) : nmLt a c := List.lt_trans h k
theorem nmLt_tri (a b : ByteArray) : nmLt a b ∨ a = b ∨ nmLt b a := by
  rcases Classical.em (nmLt a b) with h | h
  · exact .inl h
  · rcases Classical.em (nmLt b a) with k | k
    · exact .inr (.inr k)
    · exact .inr (.inl (nm_ext (List.le_antisymm (List.not_lt.1 k) (List.not_lt.1 h))))

theorem nm_nodup {a : List ByteArray} (h : a.Pairwise nmLt) : a.Nodup := h.imp (fun {x y} hh (e : x = y) => by subst e; exact nmLt_irrefl _ hh)
/-- Rising lists of the same texts are the same. -/
theorem rise_ext {a b : List ByteArray} (ha : a.Pairwise nmLt) (hb : b.Pairwise nmLt) (hm : ∀ x, x ∈ a ↔ x ∈ b) : a = b := by
  have hp : a.Perm b := (List.perm_ext_iff_of_nodup (nm_nodup ha) (nm_nodup hb)).2 hm
  exact List.Perm.eq_of_pairwise (le := nmLt) (fun a b _ _ h1 h2 => (nmLt_irrefl _ (nmLt_trans h1 h2)).elim) ha hb hp

section
variable {zs : List (List UInt8)}
theorem comp_mem {x : List UInt8} : x ∈ Lib.compact zs ↔ x ∈ zs := by
  have hg : ∀ j, (h : j < zs.length) → zs.toArray[j]! = zs[j] := fun j h => by simp [h]
  have hs : x ∈ Lib.compact zs ↔ ∃ j, j < zs.length ∧ keeps zs.toArray j = true ∧ zs.toArray[j]! = x := by
    unfold Lib.compact Lib.compactUpTo
    simp only [List.mem_map, List.mem_filter, List.mem_range]
    constructor
    · rintro ⟨j, ⟨h1, h2⟩, h3⟩; exact ⟨j, h1, h2, h3⟩
    · rintro ⟨j, h1, h2, h3⟩; exact ⟨j, ⟨h1, h2⟩, h3⟩
  rw [hs]
  constructor
  · rintro ⟨j, h1, _, rfl⟩
    rw [hg j h1]
    exact List.getElem_mem _
  · intro hx
    have : ∀ n, ∀ j, j ≤ n → (h : j < zs.length) → zs[j] = x → ∃ j, j < zs.length ∧ keeps zs.toArray j = true ∧ zs.toArray[j]! = x := by
      intro n
      induction n with
      | zero =>
        intro j hj h he
        obtain rfl : j = 0 := by omega
        exact ⟨0, h, keeps_lt_one _ 0 (by omega), by rw [hg 0 h]; exact he⟩
      | succ n ih =>
        intro j hj h he
        by_cases hk : keeps zs.toArray j = true
        · exact ⟨j, h, hk, by rw [hg j h]; exact he⟩
        · have h0 : 0 < j := by
            rcases Nat.eq_zero_or_pos j with rfl | h0
            · exact (hk (keeps_lt_one _ 0 (by omega))).elim
            · exact h0
          have heq : zs.toArray[j]! = zs.toArray[j - 1]! := Classical.byContradiction fun hne => hk (keeps_pos hne)
          rw [hg j h, hg (j - 1) (by omega)] at heq
          exact ih (j - 1) (by omega) (by omega) (by rw [← heq]; exact he)
    obtain ⟨j, hj, he⟩ := List.getElem_of_mem hx
    exact this j j (Nat.le_refl _) hj he
theorem comp_rise (h : zs.Pairwise (· ≤ ·)) : (Lib.compact zs).Pairwise (· < ·) := by
  have hg : ∀ j, (h : j < zs.length) → zs.toArray[j]! = zs[j] := fun j h => by simp [h]
  have hp : ((List.range zs.length).filter (keeps zs.toArray)).Pairwise (fun i j => i < j ∧ i < zs.length ∧ j < zs.length ∧ keeps zs.toArray j = true) := by
    have h1 : ((List.range zs.length).filter (keeps zs.toArray)).Pairwise (· < ·) := List.pairwise_lt_range.filter _
    refine h1.imp_of_mem ?_
    intro i j hi hj hij
    simp only [List.mem_filter, List.mem_range] at hi hj
    exact ⟨hij, hi.1, hj.1, hj.2⟩
  unfold Lib.compact Lib.compactUpTo
  rw [List.pairwise_map]
  refine hp.imp ?_
  rintro i j ⟨hij, hi, hj, hk⟩
  rw [hg i hi, hg j hj]
  have h1 : zs[i] ≤ zs[j - 1] := by
    rcases Nat.eq_or_lt_of_le (show i ≤ j - 1 by omega) with he | hlt
    · simp only [he]; exact List.le_refl _
    · exact List.pairwise_iff_getElem.1 h i (j - 1) hi (by omega) hlt
  have h2 : zs[j - 1] ≤ zs[j] := List.pairwise_iff_getElem.1 h (j - 1) j (by omega) hj (by omega)
  have hne : zs[j] ≠ zs[j - 1] := by
    intro he
    have : keeps zs.toArray j = false := keeps_neg (by omega) (by rw [hg j hj, hg (j - 1) (by omega)]; exact he)
    rw [this] at hk
    cases hk
  rcases Classical.em (zs[i] < zs[j]) with h3 | h3
  · exact h3
  · exfalso
    have h4 : zs[j] ≤ zs[i] := List.not_lt.1 h3
    exact hne (List.le_antisymm (List.le_trans h4 h1) h2)
theorem comp_len : (Lib.compact zs).length ≤ zs.length := by
  unfold Lib.compact Lib.compactUpTo
  rw [List.length_map]
  exact Nat.le_trans (List.length_filter_le _ _) (by simp)
end

/-- Texts sorted, each once. -/
def nmSortL (ks : List ByteArray) : List ByteArray := (Lib.compact ((ks.map (·.data.toList)).mergeSort fun x y => decide (x ≤ y))).map nmOf
theorem nmSort_mem (ks : List ByteArray) (x : ByteArray) : x ∈ nmSortL ks ↔ x ∈ ks := by
  unfold nmSortL
  rw [List.mem_map]
  constructor
  · rintro ⟨y, hy, rfl⟩
    rw [comp_mem, List.mem_mergeSort, List.mem_map] at hy
    obtain ⟨k, hk, rfl⟩ := hy
    rw [nmOf_of]; exact hk
  · intro hx
    exact ⟨x.data.toList, by rw [comp_mem, List.mem_mergeSort, List.mem_map]; exact ⟨x, hx, rfl⟩, nmOf_of x⟩
theorem nmSort_rise (ks : List ByteArray) : (nmSortL ks).Pairwise nmLt := by
  unfold nmSortL
  rw [List.pairwise_map]
  have hs := List.pairwise_mergeSort (le := fun x y : List UInt8 => decide (x ≤ y)) (fun a b c h1 h2 => by simp only [decide_eq_true_eq] at *; exact List.le_trans h1 h2) (fun a b => by simp only [Bool.or_eq_true, decide_eq_true_eq]; exact List.le_total a b) (ks.map (·.data.toList))
  refine (comp_rise (hs.imp fun h => by simpa using h)).imp ?_
  intro a b h
  unfold nmLt
  rw [nmOf_data, nmOf_data]
  exact h
theorem nmSort_len (ks : List ByteArray) : (nmSortL ks).length ≤ ks.length := by
  unfold nmSortL
  rw [List.length_map]
  exact Nat.le_trans comp_len (by rw [List.length_mergeSort, List.length_map]; exact Nat.le_refl _)
theorem nmSort_fix {ks : List ByteArray} (h : ks.Pairwise nmLt) : nmSortL ks = ks := rise_ext (nmSort_rise ks) h (nmSort_mem ks)

/-- Those behind a text. -/
def behindL (ks : List ByteArray) (s : ByteArray) : List ByteArray := ks.filter fun k => decide (s.data.toList < k.data.toList)
/-- How many are ahead of a text. -/
def aheadN (ks : List ByteArray) (s : ByteArray) : Nat := (ks.filter fun k => decide (k.data.toList < s.data.toList)).length
theorem ahead_le (ks : List ByteArray) (s : ByteArray) : aheadN ks s ≤ ks.length := List.length_filter_le _ _
theorem ahead_spec {ks : List ByteArray} (h : ks.Pairwise nmLt) (s : ByteArray) : ∀ j, (hj : j < ks.length) → (nmLt ks[j] s ↔ j < aheadN ks s) := by
  induction ks with
  | nil => intro j hj; simp at hj
  | cons k ks ih =>
    obtain ⟨h1, h2⟩ := List.pairwise_cons.1 h
    intro j hj
    by_cases hk : nmLt k s
    · have e : aheadN (k :: ks) s = aheadN ks s + 1 := by
        unfold aheadN
        rw [List.filter_cons, if_pos (by simpa [nmLt] using hk), List.length_cons]
      rw [e]
      cases j with
      | zero => simp [hk]
      | succ j => simp only [List.getElem_cons_succ, Nat.add_lt_add_iff_right]; exact ih h2 j (by simpa using hj)
    · have e : aheadN (k :: ks) s = 0 := by
        unfold aheadN
        rw [List.length_eq_zero_iff, List.filter_eq_nil_iff]
        intro x hx hlt
        have hlt : nmLt x s := by simpa [nmLt] using hlt
        rcases List.mem_cons.1 hx with rfl | hx
        · exact hk hlt
        · exact hk (nmLt_trans (h1 x hx) hlt)
      rw [e]
      constructor
      · intro hlt
        exfalso
        cases j with
        | zero => exact hk hlt
        | succ j => exact hk (nmLt_trans (h1 _ (List.getElem_mem _)) hlt)
      · intro hlt; omega
theorem bs_ahead {ks : List ByteArray} (h : ks.Pairwise nmLt) (s : ByteArray) :
    Lib.bsGo (fun t => Op.bytesLess (ks.getD t s).toList s.toList) ks.length 0 ks.length = aheadN ks s := by
  refine Lib.bsGo_spec _ (aheadN ks s) (fun t ht => ?_) (fun t ht => ?_) _ _ _ (by omega) (by omega) (ahead_le ks s)
  · have hl : t < ks.length := Nat.lt_of_lt_of_le ht (ahead_le ks s)
    rw [bytesLess_eq, Lib.toList_data, Lib.toList_data, decide_eq_true_iff, List.getD_eq_getElem?_getD, List.getElem?_eq_getElem hl]
    exact (ahead_spec h s t hl).2 ht
  · rw [bytesLess_eq, Lib.toList_data, Lib.toList_data, decide_eq_false_iff_not, List.getD_eq_getElem?_getD]
    by_cases hl : t < ks.length
    · rw [List.getElem?_eq_getElem hl]
      intro hlt
      have := (ahead_spec h s t hl).1 hlt
      omega
    · rw [List.getElem?_eq_none (by omega)]
      exact nmLt_irrefl s
/-- Where a text is, or would be, those behind it are the rest. -/
theorem behind_drop {ks : List ByteArray} (h : ks.Pairwise nmLt) (s : ByteArray) :
    ks.drop (if aheadN ks s < ks.length ∧ ks.getD (aheadN ks s) s = s then aheadN ks s + 1 else aheadN ks s) = behindL ks s := by
  have hd : ∀ n, (ks.drop n).Pairwise nmLt := fun n => h.sublist (List.drop_sublist _ _)
  have hb : (behindL ks s).Pairwise nmLt := h.filter _
  refine rise_ext (hd _) hb fun x => ?_
  have hm : ∀ n, x ∈ ks.drop n ↔ ∃ j, ∃ hj : j < ks.length, n ≤ j ∧ ks[j] = x := by
    intro n
    constructor
    · intro hx
      obtain ⟨j, hj, he⟩ := List.getElem_of_mem hx
      rw [List.length_drop] at hj
      rw [List.getElem_drop] at he
      exact ⟨n + j, by omega, by omega, he⟩
    · rintro ⟨j, hj, hn, rfl⟩
      have : ks[j] = (ks.drop n)[j - n]'(by rw [List.length_drop]; omega) := by
        rw [List.getElem_drop]
        congr 1
        omega
      rw [this]
      exact List.getElem_mem _
  have hbm : x ∈ behindL ks s ↔ x ∈ ks ∧ nmLt s x := by simp [behindL, nmLt]
  rw [hm, hbm]
  have sp := ahead_spec h s
  by_cases hc : aheadN ks s < ks.length ∧ ks.getD (aheadN ks s) s = s
  · rw [if_pos hc]
    obtain ⟨c1, c2⟩ := hc
    rw [List.getD_eq_getElem?_getD, List.getElem?_eq_getElem c1, Option.getD_some] at c2
    constructor
    · rintro ⟨j, hj, hn, rfl⟩
      refine ⟨List.getElem_mem _, ?_⟩
      have := List.pairwise_iff_getElem.1 h (aheadN ks s) j c1 hj (by omega)
      rwa [c2] at this
    · rintro ⟨hx, hlt⟩
      obtain ⟨j, hj, rfl⟩ := List.getElem_of_mem hx
      refine ⟨j, hj, ?_, rfl⟩
      rcases Nat.lt_or_ge j (aheadN ks s) with h1 | h1
      · exact (nmLt_irrefl _ (nmLt_trans hlt ((sp j hj).2 h1))).elim
      · rcases Nat.eq_or_lt_of_le h1 with h2 | h2
        · subst h2
          rw [c2] at hlt
          exact (nmLt_irrefl _ hlt).elim
        · exact h2
  · rw [if_neg hc]
    constructor
    · rintro ⟨j, hj, hn, rfl⟩
      refine ⟨List.getElem_mem _, ?_⟩
      have h1 : ¬ nmLt ks[j] s := fun hh => by have := (sp j hj).1 hh; omega
      have hlj : aheadN ks s < ks.length := by omega
      have hne : ks[aheadN ks s] ≠ s := fun he => hc ⟨hlj, by rw [List.getD_eq_getElem?_getD, List.getElem?_eq_getElem hlj]; exact he⟩
      have h2 : ¬ nmLt ks[aheadN ks s] s := fun hh => by have := (sp _ hlj).1 hh; omega
      have h3 : nmLt s ks[aheadN ks s] := by
        rcases nmLt_tri s ks[aheadN ks s] with h | h | h
        · exact h
        · exact (hne h.symm).elim
        · exact (h2 h).elim
      rcases Nat.eq_or_lt_of_le hn with h4 | h4
      · subst h4; exact h3
      · exact nmLt_trans h3 (List.pairwise_iff_getElem.1 h _ _ hlj hj h4)
    · rintro ⟨hx, hlt⟩
      obtain ⟨j, hj, rfl⟩ := List.getElem_of_mem hx
      refine ⟨j, hj, ?_, rfl⟩
      rcases Nat.lt_or_ge j (aheadN ks s) with h1 | h1
      · exact (nmLt_irrefl _ (nmLt_trans hlt ((sp j hj).2 h1))).elim
      · exact h1
/-- Those behind the one at a place. -/
theorem behind_at {ks : List ByteArray} (h : ks.Pairwise nmLt) {j : Nat} (hj : j < ks.length) : behindL ks ks[j] = ks.drop (j + 1) := by
  have h1 : aheadN ks ks[j] = j := by
    have sp := ahead_spec h ks[j]
    rcases Nat.lt_trichotomy (aheadN ks ks[j]) j with h1 | h1 | h1
    · have := (sp (aheadN ks ks[j]) (by omega)).1 (List.pairwise_iff_getElem.1 h _ _ (by omega) hj h1)
      omega
    · exact h1
    · exact (nmLt_irrefl _ ((sp j hj).2 h1)).elim
  rw [← behind_drop h, h1, if_pos ⟨hj, by rw [List.getD_eq_getElem?_getD, List.getElem?_eq_getElem hj]; rfl⟩]
end Go.Proofs.YtjmbilbkmcebeaaDoor
end
