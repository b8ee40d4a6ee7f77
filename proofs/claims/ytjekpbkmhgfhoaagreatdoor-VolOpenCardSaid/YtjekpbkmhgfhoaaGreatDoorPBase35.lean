/- Merged texts: SortCells. -/
import Derived.Test.YtjekpbkmhgfhoaaGreatDoorSortF
import Derived.Test.YtjekpbkmhgfhoaaGreatDoorPBase34
import Derived.Test.YtjekpbkmhgfhoaaGreatDoorPBase09
section
/- slices.SortFunc over a slice of cells. -/
namespace Go.Proofs.YtjekpbkmhgfhoaaGreatDoor
open Go Go.RowKit Go.Shelf Go.Lib Go.Sort
set_option maxRecDepth 100000
set_option linter.unusedSimpArgs false

/-- One cell is ahead of another. -/
def cLt (x y : Cl) : Prop := x.1 < y.1 ∨ (x.1 = y.1 ∧ x.2 < y.2)
instance (x y : Cl) : Decidable (cLt x y) := inferInstanceAs (Decidable (_ ∨ _))
theorem ltC (x y : Cl) : ltOf cmpC x y = decide (cLt x y) := by
  unfold ltOf cmpC orI cmpI cLt
  by_cases h1 : x.1 < y.1
  · have h1' : ¬ x.1 = y.1 := by omega
    simp [h1]
  · by_cases h2 : y.1 < x.1
    · have h1' : ¬ x.1 = y.1 := by omega
      simp [h1, h2, h1']
    · have h3 : x.1 = y.1 := by omega
      simp only [h1, h2, if_false, if_true, h3, true_and, false_or]
      by_cases h4 : x.2 < y.2
      · simp [h4]
      · by_cases h5 : y.2 < x.2 <;> simp [h4, h5]
theorem cLt_trans {a b c : Cl} (h : cLt a b) (k : cLt b c) : cLt a c := by unfold cLt at *; omega
theorem cLt_irrefl (a : Cl) : ¬ cLt a a := by unfold cLt; omega
theorem cLt_tri (a b : Cl) (h : ¬ cLt a b) (k : ¬ cLt b a) : a = b := by
  unfold cLt at *
  obtain ⟨a1, a2⟩ := a
  obtain ⟨b1, b2⟩ := b
  simp only at h k
  obtain rfl : a1 = b1 := by omega
  obtain rfl : a2 = b2 := by omega
  rfl
theorem swoC : SWO (ltOf cmpC) where
  irrefl x := by rw [ltC]; simp [cLt_irrefl]
  trans x y z h1 h2 := by rw [ltC] at *; simp only [decide_eq_true_eq] at *; exact cLt_trans h1 h2
  ntrans x y z h1 h2 := by rw [ltC] at *; simp only [decide_eq_false_iff_not] at *; unfold cLt at *; omega
theorem totC (x y : Cl) (h1 : ltOf cmpC x y = false) (h2 : ltOf cmpC y x = false) : x = y := by
  rw [ltC] at h1 h2
  exact cLt_tri x y (of_decide_eq_false h1) (of_decide_eq_false h2)

/-- A list of cells sorted. -/
def sortC (ks : List Cl) : List Cl := ks.mergeSort fun x y => !(ltOf cmpC) y x
theorem sortC_perm (ks : List Cl) : (sortC ks).Perm ks := List.mergeSort_perm _ _
theorem sortC_rise {ks : List Cl} (h : ks.Nodup) : (sortC ks).Pairwise cLt := by
  have h1 : (sortC ks).Pairwise fun x y => (!(ltOf cmpC) y x) = true := List.pairwise_mergeSort (fun a b c h1 h2 => by
    rw [ltC] at *
    simp only [Bool.not_eq_true', decide_eq_false_iff_not] at *
    unfold cLt at *; omega) (fun a b => by
    rw [ltC, ltC]
    simp only [Bool.or_eq_true, Bool.not_eq_true', decide_eq_false_iff_not]
    unfold cLt; omega) ks
  have h2 : (sortC ks).Nodup := (sortC_perm ks).nodup_iff.2 h
  refine (h1.and h2).imp fun {a b} ⟨h3, h4⟩ => ?_
  rw [ltC] at h3
  simp only [Bool.not_eq_true', decide_eq_false_iff_not] at h3
  exact Classical.byContradiction fun h5 => h4 (cLt_tri _ _ h5 h3)
/-! ### the row -/
theorem flatK_list {α : Type} [Inhabited α] {enc : α → List Value} {k : Nat} (hk : ∀ x, (enc x).length = k) (h0 : 0 < k) (d : List α) : (flatK enc k d.toArray).toList = flat enc d := by
  refine List.ext_getElem? fun t => ?_
  by_cases ht : t < d.length * k
  · have e : t = t / k * k + t % k := by rw [Nat.mul_comm]; exact (Nat.div_add_mod t k).symm
    have h1 : t / k < d.length := Nat.div_lt_of_lt_mul (by rw [Nat.mul_comm]; exact ht)
    have h2 : t % k < k := Nat.mod_lt _ h0
    have h3 : (flatK enc k d.toArray).toList[t]? = some ((flatK enc k d.toArray)[t]!) := by
      rw [Array.getElem?_toList, Array.getElem?_eq_getElem (by simpa using ht)]
      simp [ht]
    rw [h3, get_flatK _ _ _ _ (by simpa using ht)]
    conv => rhs; rw [e]
    rw [flat_get hk d _ _ h1 h2, List.getElem?_eq_getElem h1]
    have h4 : d.toArray[t / k]! = d[t / k] := by simp [h1]
    rw [h4]
    simp only [Option.bind]
    rw [List.getElem?_eq_getElem (by rw [hk]; exact h2)]
    simp [hk, h2]
  · rw [List.getElem?_eq_none (by simp; omega), List.getElem?_eq_none (by rw [flat_len hk]; omega)]

theorem holdsK_of_block {α : Type} [Inhabited α] {enc : α → List Value} {k : Nat} (hk : ∀ x, (enc x).length = k) (h0 : 0 < k) {w : World} {g : Nat} {cur : Array Value} {e : TypeId} {xs : List α} (hb : w.heap[g]? = some (.cells cur e (0, 0)))
    (ht : cur.toList.take (xs.length * k) = flat enc xs) : HoldsK enc k w g 0 xs.toArray := by
  have hl := flatK_list hk h0 xs
  intro j hj
  have hj' : j < xs.length * k := by simpa using hj
  refine ⟨?_, by simp [World.frozen?, hb]⟩
  have h1 : (cur.toList.take (xs.length * k))[j]? = (flat enc xs)[j]? := by rw [ht]
  rw [List.getElem?_take_of_lt hj', ← hl] at h1
  simp only [World.cell?, hb, Nat.zero_add]
  simp only [Option.isSome_none, Bool.false_eq_true, if_false]
  rw [← Array.getElem?_toList, h1, Array.getElem?_toList, Array.getElem?_eq_getElem hj]
  simp [hj']

theorem heap_sortedK {w : World} {g n : Nat} {os : Array Obj} {cur : Array Value} {e : TypeId} {fr : Nat × Nat} (d : Array Value) (hb : w.heap[g]? = some (.cells cur e fr)) :
    (grow (putRow id (Sort.ahead w n) g 0 d) os).heap[g]? = some (.cells (putCells id 0 d cur) e fr) := by
  have hg : g < w.heap.size := (Array.getElem?_eq_some_iff.1 hb).1
  rw [heap_grow_old _ _ (by simpa using hg)]
  simp [putRow, mapBlock, Sort.ahead, Array.getElem?_modify, hb, onCells]
theorem grownBy_sortedK {w : World} {g n : Nat} {os : Array Obj} (d : Array Value) : w.grownBy (grow (putRow id (Sort.ahead w n) g 0 d) os) (some g) := by
  refine ⟨rfl, rfl, rfl, by simp, fun k hk hne => ?_⟩
  rw [heap_grow_old _ _ (by simpa using hk)]
  have : g ≠ k := fun e => hne (by rw [e])
  simp [putRow, mapBlock, Sort.ahead, Array.getElem?_modify, this]
theorem take_putCellsK (cur : Array Value) (ts : List Value) (h : ts.length ≤ cur.size) : (putCells id 0 ts.toArray cur).toList.take ts.length = ts := by
  apply List.ext_getElem?
  intro j
  by_cases hj : j < ts.length
  · rw [List.getElem?_take_of_lt hj, Array.getElem?_toList]
    simp [putCells, hj, show j < cur.size by omega]
  · rw [List.getElem?_take_eq_none (by omega), List.getElem?_eq_none (by omega)]

theorem encK_len (x : Cl) : (encK x).length = 2 := rfl
theorem cmpLays (blk off size : Nat) (w : World) : CmpLays Tryz.prog 83 #[] encK 2 cmpC blk off size w :=
  fun _ _ _ _ x y => (order_any x y _).mono fun _ _ ⟨he, hb⟩ => ⟨he, hb.grow⟩

set_option maxHeartbeats 1000000 in
theorem sortcells_any {w : World} {base : Nat} {v : Value} {xs : List Cl} (h : SlE w base 77 2 encK v xs) (hl : xs.length ≤ 1000000) (hB : base ≤ w.heap.size) :
    Calls Tryz.prog 118 #[v, .func (.func 83) #[] #[]] w fun e w' =>
      e = .returned (.tuple #[]) ∧ SlE w' base 77 2 encK v (sortC xs) ∧ Below base w w' := by
  obtain ⟨hn, ⟨rfl, hz⟩ | ⟨g, cap, cur, rfl, hb, hg, h1, h2, h3, h4⟩⟩ := h
  · have : xs = [] := List.eq_nil_of_length_eq_zero hz
    subst this
    have hcon := AnyF.slices_SortFunc_none { Tryz.sortCells with } none 0 (.func (.func 83) #[] #[]) w
    refine (show Calls Tryz.prog 118 _ _ _ from hcon).mono ?_
    rintro e w' ⟨rfl, rfl⟩
    exact ⟨rfl, by rw [show sortC [] = [] by simp [sortC]]; exact SlE.nil _ _ _ _ _, Below.refl _ _⟩
  · have eg : ∀ args w, (callFunc 83 args).run Tryz.prog w = .ok (.enter 83 args) w := enters_of Tryz.func83 (by kernel_rfl) rfl
    have hgl : g < w.heap.size := (Array.getElem?_eq_some_iff.1 hg).1
    have hH : HoldsK encK 2 w g 0 xs.toArray := holdsK_of_block encK_len (by omega) hg h4
    have hcon := AnyQ.slices_SortFunc_total Tryz.sortCells 2 Tryz.isAgg77 Tryz.sizeOf77 encK encK_len (fun x v hv => by simp [encK] at hv; rcases hv with rfl | rfl <;> rfl) cmpC swoC 83 #[] g 0 cap xs.toArray w eg (cmpLays _ _ _ _) hH hgl (by simp; omega) totC
    simp only [List.size_toArray] at hcon
    refine (show Calls Tryz.prog 118 _ _ _ from hcon).mono ?_
    rintro e w' ⟨rfl, n, os, rfl⟩
    have hf := flatK_list encK_len (by omega) (sortC xs)
    have hfl : (flat encK (sortC xs)).length = xs.length * 2 := by rw [flat_len encK_len, (sortC_perm xs).length_eq]
    have hfa : flatK encK 2 (sortC xs).toArray = (flat encK (sortC xs)).toArray := by rw [← hf]
    refine ⟨rfl, ?_, ?_⟩
    · show (sortWorldK encK 2 w g 0 n (sortC xs).toArray os).ownsRow base 77 2 _ (sortC xs).length (flat encK (sortC xs))
      unfold sortWorldK putRowK
      rw [hfa, (sortC_perm xs).length_eq]
      refine ⟨hfl, .inr ⟨g, cap, _, rfl, hb, heap_sortedK _ hg, h1, h2, by simp [putCells, h3], ?_⟩⟩
      rw [← hfl]
      refine take_putCellsK cur _ ?_
      rw [hfl, h3]
      exact Nat.mul_le_mul_right 2 h1
    · have := grownBy_sortedK (w := w) (g := g) (n := n) (os := os) (flatK encK 2 (sortC xs).toArray)
      exact (Below.refl base w).grown this hB (fun j hj => by cases hj; exact hb)
end Go.Proofs.YtjekpbkmhgfhoaaGreatDoor
end
