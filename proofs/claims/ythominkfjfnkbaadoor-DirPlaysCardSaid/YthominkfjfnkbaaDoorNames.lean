/- Rising names: the keys of a map keyed by strings. -/
import Derived.Test.YthominkfjfnkbaaDoorKeys
namespace Go.Proofs.YthominkfjfnkbaaDoor
open Go Go.Maps Go.Sort
open Go.Proofs (encStr)
set_option maxRecDepth 100000

/-- Go's order of strings. -/
def nmLt (a b : ByteArray) : Prop := a.data.toList < b.data.toList
theorem nm_ext {a b : ByteArray} (h : a.data.toList = b.data.toList) : a = b := by
  cases a; cases b; congr 1; exact Array.toList_inj.1 h

/-- Rising names: the keys of a map. -/
structure SortedNames {V : Type} (g : ByteArray → Option V) (ks : List ByteArray) : Prop where
  rise : ks.Pairwise nmLt
  mem : ∀ k, k ∈ ks ↔ (g k).isSome = true

def nmOf (x : List UInt8) : ByteArray := ⟨x.toArray⟩
theorem nmOf_data (x : List UInt8) : (nmOf x).data.toList = x := by simp [nmOf]
theorem nmOf_of (k : ByteArray) : nmOf k.data.toList = k := nm_ext (by simp [nmOf])

theorem rise_of_sortedS {l : List (List UInt8)} (h : l.Pairwise (· ≤ ·)) (hn : l.Nodup) : (l.map nmOf).Pairwise nmLt := by
  rw [List.pairwise_map]
  refine (h.and hn).imp fun {a b} ⟨h1, h2⟩ => ?_
  unfold nmLt
  rw [nmOf_data, nmOf_data]
  rcases Classical.em (a < b) with h | h
  · exact h
  · exact (h2 (List.le_antisymm h1 (List.not_lt.1 h))).elim

theorem MapAt.ownsS {P : Program} {kt : TypeId} {V : Type} {eV : V → Value} {w : World} {r n : Nat} {g : ByteArray → Option V} (h : MapAt P kt Value.string eV w r g n) (hn : n ≤ maxLen) (hk : P.underlying kt = some .string) :
    ∃ D : DataW Unit, w.ownsMap P kt anyVal r n D ∧ Maps.size D = n ∧ ∀ ss : List (List UInt8), ss.Perm (strKeys D) → SortedNames g ((ss.mergeSort fun x y => decide (x ≤ y)).map nmOf) ∧ ss.length = n := by
  obtain ⟨es, h1, h2, ks, p1, p2, p3, p4⟩ := h.owns hn (fun k => .string k.data.toList) (fun k l hl => by
    obtain ⟨x, e1, e2, _⟩ := Maps.keyOf_str hk hl
    rw [e2]
    unfold encStr at e1
    injection e1 with e1
    rw [e1]) (fun a b h => by cases h; rfl)
  refine ⟨.map es, h1, h2, fun ss hp => ?_⟩
  have hik : (strKeys (.map es)).Perm (ks.map fun k => k.data.toList) := by
    have h3 : strKeys (.map es) = (es.map (·.1)).map Go.strOf := by rw [List.map_map]; rfl
    rw [h3]
    refine (p1.map Go.strOf).trans (List.Perm.of_eq ?_)
    simp [Function.comp_def, Go.strOf]
  have hp2 := hp.trans hik
  have hs := List.mergeSort_perm ss (fun x y => decide (x ≤ y))
  have hnd : (ks.map fun k => k.data.toList).Nodup := List.pairwise_map.2 (p2.imp fun hab he => hab (nm_ext he))
  refine ⟨⟨rise_of_sortedS ?_ ?_, fun k => ?_⟩, by rw [hp2.length_eq, List.length_map, p4]⟩
  · have := List.pairwise_mergeSort (le := fun x y : List UInt8 => decide (x ≤ y)) (fun a b c h1 h2 => by simp only [decide_eq_true_eq] at *; exact List.le_trans h1 h2) (fun a b => by simp only [Bool.or_eq_true, decide_eq_true_eq]; exact List.le_total a b) ss
    exact this.imp fun h => by simpa using h
  · exact (hs.trans hp2).nodup_iff.2 hnd
  · rw [← p3 k, List.mem_map]
    constructor
    · rintro ⟨x, hx, rfl⟩
      have := (hs.trans hp2).mem_iff.1 hx
      obtain ⟨k', hk', he⟩ := List.mem_map.1 this
      rw [← he, nmOf_of]
      exact hk'
    · intro hk'
      exact ⟨k.data.toList, (hs.trans hp2).mem_iff.2 (List.mem_map.2 ⟨k, hk', rfl⟩), nmOf_of k⟩
theorem map_nmOf (l : List (List UInt8)) : l.map encStr = (l.map nmOf).map Value.string := by
  rw [List.map_map]; rfl
end Go.Proofs.YthominkfjfnkbaaDoor
