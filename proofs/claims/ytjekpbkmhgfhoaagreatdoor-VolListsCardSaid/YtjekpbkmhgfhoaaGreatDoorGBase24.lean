/- Merged texts: NameSort NameRef. -/
import Derived.Test.YtjekpbkmhgfhoaaGreatDoorGBase23
import Derived.Test.YtjekpbkmhgfhoaaGreatDoorSortS
import Derived.Test.YtjekpbkmhgfhoaaGreatDoorGBase17
import Derived.Test.YtjekpbkmhgfhoaaGreatDoorGBase16
import Derived.Test.YtjekpbkmhgfhoaaGreatDoorGBase10
import Derived.StillTailTactics
import Derived.IntWalk
section
/- The walks of package name's Sort and After; the reference's SameTexts. -/
namespace Go.Proofs.YtjekpbkmhgfhoaaGreatDoor
open Go Go.RowKit Go.Shelf Go.Sort
open Go.Proofs (encStr)
set_option maxRecDepth 100000
set_option linter.unusedSimpArgs false
attribute [local go_sem] giv
variable {E : Nat → Addr} {B : Nat}

abbrev RdS (w : World) (v : Value) (ks : List ByteArray) : Prop := RdE w 1 encS v ks
abbrev SlS (w : World) (base : Nat) (v : Value) (ks : List ByteArray) : Prop := SlE w base 9 1 encS v ks
theorem strT : ElemT Tryz.prog 118 9 1 16 encS where
  ht := Tryz.underlying118
  info := ⟨.string { data := #[] }, rfl, by kernel_rfl⟩
  len := fun _ => rfl
  one := by intro e u hu; simp only [encS, List.mem_cons, List.not_mem_nil, or_false] at hu; subst hu; rfl
  pos := by omega

theorem sclone_any {w : World} {sp : Option Addr} {n cap : Nat} {ks : List ByteArray} (r : RdS w (.slice sp n cap) ks) (hk : ks.length ≤ 1000000) :
    Calls Tryz.prog 134 #[.slice sp n cap] w fun e w' => (∃ v, e = .returned v ∧ SlS w' w.heap.size v ks) ∧ Below w.heap.size w w' := by
  obtain ⟨sp', cap', he, h1, h2, h3⟩ := r
  injection he with e1 e2 e3
  subst e1 e2 e3
  cases sp with
  | none =>
    have : ks = [] := List.eq_nil_of_length_eq_zero (by have := h2 rfl; omega)
    subst this
    refine (Any.slices_Clone_string_nil Tryz.lays216 _ _ w).mono ?_
    rintro e w' ⟨rfl, rfl⟩
    exact ⟨⟨_, rfl, SlE.nil _ _ _ _ _⟩, Below.refl _ _⟩
  | some a =>
    by_cases hn : ks = []
    · subst hn
      refine (Any.slices_Clone_string_zero Tryz.lays216 a _ w).mono ?_
      rintro e w' ⟨v, rfl, hs, _, hb⟩
      exact ⟨⟨_, rfl, hs⟩, hb⟩
    · obtain ⟨h, off, he, hh, hc⟩ := h3 hn
      cases he
      refine (Any.slices_Clone_string Tryz.lays216 h off ks.length cap ks w (Nat.le_refl _) (by omega) (fun j hj => ?_)).mono ?_
      · have := hc j 0 hj (by omega)
        rw [Nat.mul_one, Nat.add_zero] at this
        rw [this, List.getD_eq_getElem?_getD, List.getElem?_eq_getElem hj]
        rfl
      · rintro e w' ⟨v, rfl, hs, _, hb⟩
        rw [List.take_length] at hs
        exact ⟨⟨_, rfl, by unfold SlS SlE; rw [flat_encS]; exact hs⟩, hb⟩

/-- An element's cell. -/
theorem RdS.cell {w : World} {sp : Option Addr} {n cap : Nat} {ks : List ByteArray} (r : RdS w (.slice sp n cap) ks) {j : Nat} (hj : j < ks.length) :
    ∃ h off, sp = some ⟨h, off, none⟩ ∧ h < w.heap.size ∧ w.cell? ⟨h, off + j, none⟩ = some (.string ks[j]) := by
  obtain ⟨sp', cap', he, _, _, h3⟩ := r
  injection he with e1 e2 e3
  subst e1 e2 e3
  obtain ⟨h, off, h4, h5, h6⟩ := h3 (by rintro rfl; simp at hj)
  refine ⟨h, off, h4, h5, ?_⟩
  have := h6 j 0 hj (by omega)
  rw [Nat.mul_one, Nat.add_zero] at this
  rw [this, List.getElem?_eq_getElem hj]
  rfl
end Go.Proofs.YtjekpbkmhgfhoaaGreatDoor
end

section
/- The walks of the reference's names: Texts, Sort, Name, Special. -/
namespace Go.Proofs.YtjekpbkmhgfhoaaGreatDoor
open Go Go.RowKit Go.WideShapes
set_option maxRecDepth 100000
set_option linter.unusedSimpArgs false
theorem bin_geq (t : TypeId) (a b : ByteArray) : binOp .geq t (.string a) (.string b) = pure (.bool !(Op.bytesLess a.toList b.toList)) := by simp [binOp, Op.stringOp]
theorem bin_leq (t : TypeId) (a b : ByteArray) : binOp .leq t (.string a) (.string b) = pure (.bool (Op.bytesLess a.toList b.toList || a.toList == b.toList)) := by simp [binOp, Op.stringOp]
theorem bin_gtr (t : TypeId) (a b : ByteArray) : binOp .gtr t (.string a) (.string b) = pure (.bool !(Op.bytesLess a.toList b.toList || a.toList == b.toList)) := by simp [binOp, Op.stringOp]
attribute [local go_sem] giv bin_geq bin_leq bin_gtr
variable {E : Nat → Addr} {B : Nat}

theorem small_max {j : Nat} (h : j ≤ 1000000) : j ≤ maxLen := by unfold maxLen; omega

theorem rd_take {w : World} {sp : Option Addr} {n cap m : Nat} {ks : List ByteArray} (r : RdS w (.slice sp n cap) ks) (hm : m ≤ n) : RdS w (.slice sp m cap) (ks.take m) := by
  obtain ⟨sp', cap', he, h1, h2, h3⟩ := r
  injection he with e1 e2 e3
  subst e1 e2 e3
  have hlen : (ks.take m).length = m := by rw [List.length_take]; omega
  refine ⟨sp, cap, by rw [hlen], by omega, h2, fun hne => ?_⟩
  obtain ⟨h, off, h4, h5, h6⟩ := h3 (by rintro rfl; simp at hne)
  refine ⟨h, off, h4, h5, fun i j hi hj => ?_⟩
  rw [hlen] at hi
  rw [h6 i j (by omega) hj, List.getElem?_take, if_pos hi]
/-- A text put into its place. -/
def insAt (out : List ByteArray) (m : Nat) (x : ByteArray) : List ByteArray := out.take m ++ [x] ++ out.drop m
/-- How far a sorted list has come. -/
structure SortedTo (ks : List ByteArray) (j : Nat) (out : List ByteArray) : Prop where
  rise : out.Pairwise nmLt
  mem : ∀ y, y ∈ out ↔ y ∈ ks.take j
  len : out.length ≤ j
end Go.Proofs.YtjekpbkmhgfhoaaGreatDoor
end
