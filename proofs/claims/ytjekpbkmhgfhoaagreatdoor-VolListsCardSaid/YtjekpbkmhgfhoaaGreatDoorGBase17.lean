/- Merged texts: NameLaw. -/
import Derived.Test.YtjekpbkmhgfhoaaGreatDoorGBase07
import Derived.Lib.SlicesCompact
import Derived.Shelf.Spec.SearchS
import Derived.Sort.Walk0
section
/- Lists of texts that rise: sorted and made single; those behind one. -/
namespace Go.Proofs.YtjekpbkmhgfhoaaGreatDoor
open Go Go.Lib
set_option maxRecDepth 100000

theorem nmLt_irrefl (a : ByteArray) : ¬ nmLt a a := fun h => List.lt_irrefl _ h
theorem nmLt_trans {a b c : ByteArray} (h : nmLt a b) (k : nmLt b c) : nmLt a c := List.lt_trans h k
theorem nmLt_tri (a b : ByteArray) : nmLt a b ∨ a = b ∨ nmLt b a := by
  rcases Classical.em (nmLt a b) with h | h
  · exact .inl h
  · rcases Classical.em (nmLt b a) with k | k
    · exact .inr (.inr k)
    · exact .inr (.inl (nm_ext (List.le_antisymm (List.not_lt.1 k) (List.not_lt.1 h))))

theorem nm_nodup {a : List ByteArray} (h : a.Pairwise nmLt) : a.Nodup := h.imp (fun {x y} hh (e : x = y) => by subst e; exact nmLt_irrefl _ hh)
/-- Rising lists of the same texts are the same. -/
theorem rise_ext {a b : List ByteArray} (ha : a.Pairwise nmLt) (hb : b.Pairwise nmLt) (hm : ∀ x, x ∈ a ↔ x ∈ b) : a = b := by
  have hp : a.Perm b := (List.perm_ext_iff_of_nodup (nm_nodup ha) (nm_nodup hb)).2 hm
  exact List.Perm.eq_of_pairwise (le := nmLt) (fun a b _ _ h1 h2 => (nmLt_irrefl _ (nmLt_trans h1 h2)).elim) ha hb hp

section
variable {zs : List (List UInt8)}
end

/-- Texts sorted, each once. -/
def nmSortL (ks : List ByteArray) : List ByteArray := (Lib.compact ((ks.map (·.data.toList)).mergeSort fun x y => decide (x ≤ y))).map nmOf
/-- Those behind a text. -/
def behindL (ks : List ByteArray) (s : ByteArray) : List ByteArray := ks.filter fun k => decide (s.data.toList < k.data.toList)
/-- How many are ahead of a text. -/
def aheadN (ks : List ByteArray) (s : ByteArray) : Nat := (ks.filter fun k => decide (k.data.toList < s.data.toList)).length
end Go.Proofs.YtjekpbkmhgfhoaaGreatDoor
end
