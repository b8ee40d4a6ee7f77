/- Merged texts: NameSort NameRef. -/
import Derived.Test.YtjmbilbkmcebeaaDoorBase21
import Derived.Test.YtjmbilbkmcebeaaDoorSortS
import Derived.Test.YtjmbilbkmcebeaaDoorBase15
import Derived.Test.YtjmbilbkmcebeaaDoorBase14
import Derived.Test.YtjmbilbkmcebeaaDoorBase07
import Derived.StillTailTactics
import Derived.IntWalk
section
/- The walks of package name's Sort and After; the reference's SameTexts. -/
namespace Go.Proofs.YtjmbilbkmcebeaaDoor
open Go Go.RowKit Go.Shelf Go.Sort
open Go.Proofs (encStr)
set_option maxRecDepth 100000
set_option linter.unusedSimpArgs false
attribute [local go_sem] giv
variable {E : Nat → Addr} {B : Nat}

abbrev RdS (w : World) (v : Value) (ks : List ByteArray) : Prop := RdE w 1 encS v ks
abbrev SlS (w : World) (base : Nat) (v : Value) (ks : List ByteArray) : Prop := SlE w base 9 1 encS v ks
theorem strT : ElemT Tryd.prog 66 9 1 16 encS where
  ht := Tryd.underlying66
  info := ⟨.string { data := #[] }, rfl, by kernel_rfl⟩
  len := fun _ => rfl
  one := by intro e u hu; simp only [encS, List.mem_cons, List.not_mem_nil, or_false] at hu; subst hu; rfl
  pos := by omega

/-- A slice cut short. -/
theorem SlE.cut {α : Type} {w : World} {base : Nat} {e : TypeId} {k : Nat} {enc : α → List Value} {sp : Option Addr} {n cap : Nat} {xs : List α} (h : SlE w base e k enc (.slice sp n cap) xs) (hl : ∀ x, (enc x).length = k) {j : Nat} (hj : j ≤ xs.length) :
    SlE w base e k enc (.slice sp j cap) (xs.take j) := by
  have hlen : (xs.take j).length = j := by rw [List.length_take]; omega
  refine ⟨by rw [flat_len hl], ?_⟩
  rcases h.2 with ⟨h3, h4⟩ | ⟨g, cap', cur, h3, h4, h5, h6, h7, h8, h9⟩
  · injection h3 with e1 e2 e3
    subst e1 e3
    have : j = 0 := by omega
    subst this
    exact .inl ⟨by simp, by simp⟩
  · injection h3 with e1 e2 e3
    subst e1 e3
    refine .inr ⟨g, cap, cur, by rw [hlen], h4, h5, by omega, h7, h8, ?_⟩
    have hf : flat enc xs = flat enc (xs.take j) ++ flat enc (xs.drop j) := by rw [← flat_append, List.take_append_drop]
    have h10 := congrArg (List.take (flat enc (xs.take j)).length) h9
    rw [hf] at h10
    rw [List.take_left, List.take_take, flat_len hl, Nat.min_eq_left (Nat.mul_le_mul_right _ (by omega))] at h10
    exact h10

theorem sl_grow0 (W : World) : grow W #[] = W := by simp [grow]

theorem sclone_any {w : World} {sp : Option Addr} {n cap : Nat} {ks : List ByteArray} (r : RdS w (.slice sp n cap) ks) (hk : ks.length ≤ 1000000) :
    Calls Tryd.prog 90 #[.slice sp n cap] w fun e w' => (∃ v, e = .returned v ∧ SlS w' w.heap.size v ks) ∧ Below w.heap.size w w' := by
  obtain ⟨sp', cap', he, h1, h2, h3⟩ := r
  injection he with e1 e2 e3
  subst e1 e2 e3
  cases sp with
  | none =>
    have : ks = [] := List.eq_nil_of_length_eq_zero (by have := h2 rfl; omega)
    subst this
    refine (Any.slices_Clone_string_nil Tryd.lays216 _ _ w).mono ?_
    rintro e w' ⟨rfl, rfl⟩
    exact ⟨⟨_, rfl, SlE.nil _ _ _ _ _⟩, Below.refl _ _⟩
  | some a =>
    by_cases hn : ks = []
    · subst hn
      refine (Any.slices_Clone_string_zero Tryd.lays216 a _ w).mono ?_
      rintro e w' ⟨v, rfl, hs, _, hb⟩
      exact ⟨⟨_, rfl, hs⟩, hb⟩
    · obtain ⟨h, off, he, hh, hc⟩ := h3 hn
      cases he
      refine (Any.slices_Clone_string Tryd.lays216 h off ks.length cap ks w (Nat.le_refl _) (by omega) (fun j hj => ?_)).mono ?_
      · have := hc j 0 hj (by omega)
        rw [Nat.mul_one, Nat.add_zero] at this
        rw [this, List.getD_eq_getElem?_getD, List.getElem?_eq_getElem hj]
        rfl
      · rintro e w' ⟨v, rfl, hs, _, hb⟩
        rw [List.take_length] at hs
        exact ⟨⟨_, rfl, by unfold SlS SlE; rw [flat_encS]; exact hs⟩, hb⟩

theorem rd_none {w : World} {n cap : Nat} {ks : List ByteArray} (r : RdS w (.slice none n cap) ks) : cap = 0 ∧ n = 0 := by
  obtain ⟨sp', cap', he, h1, h2, h3⟩ := r
  injection he with e1 e2 e3
  subst e1 e2 e3
  have := h2 rfl
  omega
theorem rd_drop {w : World} {a : Addr} {n cap l : Nat} {ks : List ByteArray} (r : RdS w (.slice (some a) n cap) ks) (hl : l ≤ n) (hc : ¬ cap = l) : RdS w (.slice (some (a.add l)) (n - l) (cap - l)) (ks.drop l) := by
  have hn := r.len
  have h := RdE.sliced r (l := l) (h := n) hl (by omega)
  rw [List.take_of_length_le (by rw [List.length_drop]; omega)] at h
  unfold Go.sliced at h
  rw [if_neg (by omega), Nat.mul_one] at h
  exact h

theorem wrap_up {j : Nat} (h : j < 1000000) : wrap64 ((j : Int) + 1) = ((j + 1 : Nat) : Int) := by unfold wrap64; omega
/-- An element's cell. -/
theorem RdS.cell {w : World} {sp : Option Addr} {n cap : Nat} {ks : List ByteArray} (r : RdS w (.slice sp n cap) ks) {j : Nat} (hj : j < ks.length) :
    ∃ h off, sp = some ⟨h, off, none⟩ ∧ h < w.heap.size ∧ w.cell? ⟨h, off + j, none⟩ = some (.string ks[j]) := by
  obtain ⟨sp', cap', he, _, _, h3⟩ := r
  injection he with e1 e2 e3
  subst e1 e2 e3
  obtain ⟨h, off, h4, h5, h6⟩ := h3 (by rintro rfl; simp at hj)
  refine ⟨h, off, h4, h5, ?_⟩
  have := h6 j 0 hj (by omega)
  rw [Nat.mul_one, Nat.add_zero] at this
  rw [this, List.getElem?_eq_getElem hj]
  rfl
theorem RdS.val {w : World} {v : Value} {ks : List ByteArray} (r : RdS w v ks) : ∃ sp cap, v = .slice sp ks.length cap ∧ ks.length ≤ cap := by
  obtain ⟨sp, cap, h, h2, _⟩ := r; exact ⟨sp, cap, h, h2⟩

end Go.Proofs.YtjmbilbkmcebeaaDoor
end

section
/- The walks of the reference's names: Texts, Sort, Name, Special. -/
namespace Go.Proofs.YtjmbilbkmcebeaaDoor
open Go Go.RowKit Go.WideShapes
set_option maxRecDepth 100000
set_option linter.unusedSimpArgs false
theorem bin_geq (t : TypeId) (a b : ByteArray) : binOp .geq t (.string a) (.string b) = pure (.bool !(Op.bytesLess a.toList b.toList)) := by simp [binOp, Op.stringOp]
theorem bin_leq (t : TypeId) (a b : ByteArray) : binOp .leq t (.string a) (.string b) = pure (.bool (Op.bytesLess a.toList b.toList || a.toList == b.toList)) := by simp [binOp, Op.stringOp]
theorem bin_gtr (t : TypeId) (a b : ByteArray) : binOp .gtr t (.string a) (.string b) = pure (.bool !(Op.bytesLess a.toList b.toList || a.toList == b.toList)) := by simp [binOp, Op.stringOp]
attribute [local go_sem] giv bin_geq bin_leq bin_gtr
variable {E : Nat → Addr} {B : Nat}

theorem small_max {j : Nat} (h : j ≤ 1000000) : j ≤ maxLen := by unfold maxLen; omega

theorem rd_take {w : World} {sp : Option Addr} {n cap m : Nat} {ks : List ByteArray} (r : RdS w (.slice sp n cap) ks) (hm : m ≤ n) : RdS w (.slice sp m cap) (ks.take m) := by
  obtain ⟨sp', cap', he, h1, h2, h3⟩ := r
  injection he with e1 e2 e3
  subst e1 e2 e3
  have hlen : (ks.take m).length = m := by rw [List.length_take]; omega
  refine ⟨sp, cap, by rw [hlen], by omega, h2, fun hne => ?_⟩
  obtain ⟨h, off, h4, h5, h6⟩ := h3 (by rintro rfl; simp at hne)
  refine ⟨h, off, h4, h5, fun i j hi hj => ?_⟩
  rw [hlen] at hi
  rw [h6 i j (by omega) hj, List.getElem?_take, if_pos hi]
theorem wp_from {P : Program} {c : Code} {Q : Exit → Act → World → Prop} {a : Act} {w : World} (W0 : World) (h : Below W0.heap.size W0 w) (k : ∀ w', Below W0.heap.size W0 w' → c.wp P Q a w') : c.wp P Q a w := k w h

/-- A text put into its place. -/
def insAt (out : List ByteArray) (m : Nat) (x : ByteArray) : List ByteArray := out.take m ++ [x] ++ out.drop m
theorem ins_mem (out : List ByteArray) (m : Nat) (x y : ByteArray) : y ∈ insAt out m x ↔ y ∈ out ∨ y = x := by
  have : y ∈ out ↔ y ∈ out.take m ∨ y ∈ out.drop m := by
    conv => lhs; rw [← List.take_append_drop m out]
    exact List.mem_append
  rw [this]
  unfold insAt
  simp only [List.mem_append, List.mem_singleton]
  constructor
  · rintro ((h | h) | h)
    · exact .inl (.inl h)
    · exact .inr h
    · exact .inl (.inr h)
  · rintro ((h | h) | h)
    · exact .inl (.inl h)
    · exact .inr h
    · exact .inl (.inr h)
theorem ins_len (out : List ByteArray) {m : Nat} (x : ByteArray) (hm : m ≤ out.length) : (insAt out m x).length = out.length + 1 := by
  unfold insAt
  simp only [List.length_append, List.length_take, List.length_drop, List.length_cons, List.length_nil]
  omega
theorem ins_rise {out : List ByteArray} {m : Nat} {x : ByteArray} (h : out.Pairwise nmLt) (h1 : ∀ j y, j < m → out[j]? = some y → nmLt y x) (h2 : ∀ y, out[m]? = some y → ¬ nmLt y x) (h3 : ¬ out[m]? = some x) : (insAt out m x).Pairwise nmLt := by
  have a1 : ∀ y ∈ out.take m, nmLt y x := by
    intro y hy
    obtain ⟨j, hj, rfl⟩ := List.getElem_of_mem hy
    have hj' : j < m ∧ j < out.length := by rw [List.length_take] at hj; omega
    rw [List.getElem_take]
    exact h1 j _ hj'.1 (List.getElem?_eq_getElem hj'.2)
  have a2 : ∀ y ∈ out.drop m, nmLt x y := by
    intro y hy
    obtain ⟨j, hj, rfl⟩ := List.getElem_of_mem hy
    have hj' : m + j < out.length := by rw [List.length_drop] at hj; omega
    rw [List.getElem_drop]
    have hm : m < out.length := by omega
    have h4 : nmLt x out[m] := by
      rcases nmLt_tri x out[m] with h | h | h
      · exact h
      · exact (h3 (by rw [List.getElem?_eq_getElem hm, h])).elim
      · exact (h2 _ (List.getElem?_eq_getElem hm) h).elim
    rcases Nat.eq_zero_or_pos j with rfl | hp
    · exact h4
    · exact nmLt_trans h4 (List.pairwise_iff_getElem.1 h m (m + j) hm hj' (by omega))
  unfold insAt
  rw [List.append_assoc, List.pairwise_append]
  refine ⟨h.sublist (List.take_sublist _ _), ?_, ?_⟩
  · rw [List.singleton_append, List.pairwise_cons]
    exact ⟨a2, h.sublist (List.drop_sublist _ _)⟩
  · intro y hy z hz
    rcases List.mem_append.1 hz with hz | hz
    · rw [List.mem_singleton.1 hz]; exact a1 y hy
    · exact nmLt_trans (a1 y hy) (a2 z hz)

/-- How far a sorted list has come. -/
structure SortedTo (ks : List ByteArray) (j : Nat) (out : List ByteArray) : Prop where
  rise : out.Pairwise nmLt
  mem : ∀ y, y ∈ out ↔ y ∈ ks.take j
  len : out.length ≤ j
theorem SortedTo.zero (ks : List ByteArray) : SortedTo ks 0 [] := ⟨List.Pairwise.nil, fun y => by simp, Nat.le_refl _⟩
theorem SortedTo.same {ks : List ByteArray} {j : Nat} {out : List ByteArray} (h : SortedTo ks j out) (hj : j < ks.length) {m : Nat} (he : out[m]? = some ks[j]) : SortedTo ks (j + 1) out := by
  refine ⟨h.rise, fun y => ?_, by have := h.len; omega⟩
  rw [List.take_succ_eq_append_getElem hj, List.mem_append, List.mem_singleton, ← h.mem]
  constructor
  · exact .inl
  · rintro (h1 | rfl)
    · exact h1
    · exact List.mem_of_getElem? he
theorem SortedTo.ins {ks : List ByteArray} {j : Nat} {out : List ByteArray} (h : SortedTo ks j out) (hj : j < ks.length) {m : Nat} (hm : m ≤ out.length) (h1 : ∀ i y, i < m → out[i]? = some y → nmLt y ks[j]) (h2 : ∀ y, out[m]? = some y → ¬ nmLt y ks[j]) (h3 : ¬ out[m]? = some ks[j]) :
    SortedTo ks (j + 1) (insAt out m ks[j]) := by
  refine ⟨ins_rise h.rise h1 h2 h3, fun y => ?_, by rw [ins_len _ _ hm]; have := h.len; omega⟩
  rw [List.take_succ_eq_append_getElem hj, List.mem_append, List.mem_singleton, ← h.mem, ins_mem]
theorem SortedTo.all {ks out : List ByteArray} (h : SortedTo ks ks.length out) : out = nmSortL ks :=
  rise_ext h.rise (nmSort_rise ks) fun x => by rw [h.mem, nmSort_mem, List.take_length]

theorem byte_mem (s : ByteArray) (j : Nat) (h : j < s.size) : s[j] ∈ s.data.toList := by
  have : s[j] = s.data.toList[j]'(by simpa using h) := rfl
  rw [this]
  exact List.getElem_mem _
theorem byte_take (s : ByteArray) (j : Nat) (h : j < s.size) : s.data.toList.take (j + 1) = s.data.toList.take j ++ [s[j]] := by
  rw [List.take_succ_eq_append_getElem (by simpa using h)]; rfl

end Go.Proofs.YtjmbilbkmcebeaaDoor
end
