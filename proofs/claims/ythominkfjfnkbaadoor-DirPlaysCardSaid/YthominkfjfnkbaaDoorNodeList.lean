/- Law 15's own helpers over slices of nodes: fits, same, at, put. -/
import Derived.Test.YthominkfjfnkbaaDoorEls
import Derived.Test.YthominkfjfnkbaaDoorNodeTab
import Derived.Test.YthominkfjfnkbaaDoorBytes
import Derived.Test.YthominkfjfnkbaaDoorEnts
import Derived.Deep.RegionHeld3
namespace Go.Proofs.YthominkfjfnkbaaDoor
open Go Go.RowKit
set_option maxRecDepth 100000
set_option linter.unusedSimpArgs false
attribute [local go_sem] giv
variable {E : Nat → Addr} {B : Nat}

def encNs (n : Nd) : List Value := [.int .i64 n.id, .int .i64 n.kind, .int .i64 n.links, .int .i64 n.size, .string n.target, .int .i64 n.parent]
theorem encNs_len (e : Nd) : (encNs e).length = 6 := rfl
theorem nodT : ElemT Tryd.prog 70 44 6 56 encNs where
  ht := Tryd.underlying70
  info := ⟨.agg #[.int .i64 0, .int .i64 0, .int .i64 0, .int .i64 0, .string { data := #[] }, .int .i64 0], rfl, by kernel_rfl⟩
  len := encNs_len
  one := by intro e u hu; simp only [encNs, List.mem_cons, List.not_mem_nil, or_false] at hu; rcases hu with rfl | rfl | rfl | rfl | rfl | rfl <;> rfl
  pos := by omega
abbrev RdN (w : World) (v : Value) (xs : List Nd) : Prop := RdE w 6 encNs v xs
abbrev SlN (w : World) (base : Nat) (v : Value) (xs : List Nd) : Prop := SlE w base 44 6 encNs v xs
instance : DecidableEq Nd := fun a b => decidable_of_iff (a.id = b.id ∧ a.kind = b.kind ∧ a.links = b.links ∧ a.size = b.size ∧ a.target = b.target ∧ a.parent = b.parent)
  ⟨fun ⟨h1, h2, h3, h4, h5, h6⟩ => by cases a; cases b; simp_all, fun h => by subst h; exact ⟨rfl, rfl, rfl, rfl, rfl, rfl⟩⟩

theorem str_iff {a b : ByteArray} : a.toList = b.toList ↔ a = b := ⟨str_ext, fun h => by rw [h]⟩
set_option maxHeartbeats 1000000 in
theorem fits_any (n : Nd) (w : World) :
    Calls Tryd.prog 49 #[encN n] w fun e w' => e = .returned (.bool (validB n)) ∧ Below w.heap.size w w' := by
  obtain ⟨i, k, l, s, t, p⟩ := n
  generalize hr : validB ⟨i, k, l, s, t, p⟩ = r
  have HR := Lib.hid hr
  clear hr
  unfold encN
  by_cases hA : (1 ≤ i ∧ i ≤ 16777215) ∧ (1 ≤ k ∧ k ≤ 3) ∧ (0 ≤ l ∧ l ≤ 16) ∧ 0 ≤ s ∧ s ≤ 16384
  · obtain ⟨⟨i1, i2⟩, ⟨k1, k2⟩, ⟨l1, l2⟩, s1, s2⟩ := hA
    have i2' : i < 16777216 := by omega
    have hk : k = 1 ∨ k = 2 ∨ k = 3 := by omega
    have hz : t.toList = [] → t.size = 0 := fun h => by
      rw [ByteArray.toList_eq] at h
      show t.data.size = 0
      rw [← Array.length_toList, h]; rfl
    rcases hk with rfl | rfl | rfl
    · by_cases ht : t.toList = []
      · have hts := hz ht
        have hr : r = (p == 0) := by rw [← HR.out]; simp [validB, idB, kindB, i1, i2, l1, l2, s1, s2, ht, hts]
        subst hr
        clear HR hz i2
        go_enter Tryd.func49, Tryd.ntmps49
        go_wp2
        go_ret
        exact ⟨rfl, bl_alloc (Below.refl _ _) _⟩
      · have hr : r = false := by rw [← HR.out]; simp [validB, ht]
        subst hr
        clear HR hz i2
        go_enter Tryd.func49, Tryd.ntmps49
        go_wp2
        go_ret
        exact ⟨rfl, bl_alloc (Below.refl _ _) _⟩
    · by_cases hs : s = 0
      · subst hs
        by_cases ht : t.toList = []
        · have hts := hz ht
          by_cases hp : 1 ≤ p
          · have hr : r = decide (p < 16777216) := by
              rw [← HR.out]
              simp [validB, idB, kindB, i1, i2, l1, l2, ht, hts, hp]
              omega
            subst hr
            clear HR hz i2
            go_enter Tryd.func49, Tryd.ntmps49
            go_wp2
            go_ret
            exact ⟨rfl, bl_alloc (Below.refl _ _) _⟩
          · have hr : r = false := by rw [← HR.out]; simp [validB, idB, hp]
            have hp' : decide (1 ≤ p) = false := decide_eq_false hp
            subst hr
            clear HR hz i2
            go_enter Tryd.func49, Tryd.ntmps49
            go_wp2
            go_ret
            exact ⟨rfl, bl_alloc (Below.refl _ _) _⟩
        · have hr : r = false := by rw [← HR.out]; simp [validB, ht]
          subst hr
          clear HR hz i2
          go_enter Tryd.func49, Tryd.ntmps49
          go_wp2
          go_ret
          exact ⟨rfl, bl_alloc (Below.refl _ _) _⟩
      · have hr : r = false := by rw [← HR.out]; simp [validB, hs]
        have hs' : (s == 0) = false := by rw [beq_eq_false_iff_ne]; exact hs
        subst hr
        clear HR hz i2
        go_enter Tryd.func49, Tryd.ntmps49
        go_wp2
        go_ret
        exact ⟨rfl, bl_alloc (Below.refl _ _) _⟩
    · by_cases hs : s = 0
      · subst hs
        by_cases ht : t.toList = []
        · have hr : r = false := by rw [← HR.out]; simp [validB, ht]
          subst hr
          clear HR hz i2
          go_enter Tryd.func49, Tryd.ntmps49
          go_wp2
          go_ret
          exact ⟨rfl, bl_alloc (Below.refl _ _) _⟩
        · have ht' : t.toList.isEmpty = false := by simpa using ht
          by_cases hsz : t.size ≤ 88
          · have hsz' : (t.size : Int) ≤ 88 := by omega
            have hr : r = (p == 0) := by rw [← HR.out]; simp [validB, idB, kindB, i1, i2, l1, l2, ht', hsz]
            subst hr
            clear HR hz i2
            go_enter Tryd.func49, Tryd.ntmps49
            go_wp2
            go_ret
            exact ⟨rfl, bl_alloc (Below.refl _ _) _⟩
          · have hsz' : decide ((t.size : Int) ≤ 88) = false := decide_eq_false (by omega)
            have hr : r = false := by rw [← HR.out]; simp [validB, hsz]
            subst hr
            clear HR hz i2
            go_enter Tryd.func49, Tryd.ntmps49
            go_wp2
            go_ret
            exact ⟨rfl, bl_alloc (Below.refl _ _) _⟩
      · have hr : r = false := by rw [← HR.out]; simp [validB, hs]
        have hs' : (s == 0) = false := by rw [beq_eq_false_iff_ne]; exact hs
        subst hr
        clear HR hz i2
        go_enter Tryd.func49, Tryd.ntmps49
        go_wp2
        go_ret
        exact ⟨rfl, bl_alloc (Below.refl _ _) _⟩
  · have hr : r = false := by
      rw [← HR.out]
      cases hv : validB ⟨i, k, l, s, t, p⟩
      · rfl
      · exfalso
        simp only [validB, idB, kindB, Bool.and_eq_true, decide_eq_true_eq] at hv
        exact hA ⟨hv.1, hv.2.1, ⟨hv.2.2.1, hv.2.2.2.1⟩, hv.2.2.2.2.1, hv.2.2.2.2.2.1⟩
    subst hr
    clear HR
    by_cases c0 : i < 1
    · clear hA
      go_enter Tryd.func49, Tryd.ntmps49
      go_wp2
      go_ret
      exact ⟨rfl, bl_alloc (Below.refl _ _) _⟩
    by_cases c1 : 16777216 ≤ i
    · clear hA
      go_enter Tryd.func49, Tryd.ntmps49
      go_wp2
      go_ret
      exact ⟨rfl, bl_alloc (Below.refl _ _) _⟩
    by_cases c2 : k < 1
    · clear hA
      go_enter Tryd.func49, Tryd.ntmps49
      go_wp2
      go_ret
      exact ⟨rfl, bl_alloc (Below.refl _ _) _⟩
    by_cases c3 : 3 < k
    · clear hA
      go_enter Tryd.func49, Tryd.ntmps49
      go_wp2
      go_ret
      exact ⟨rfl, bl_alloc (Below.refl _ _) _⟩
    by_cases c4 : l < 0
    · clear hA
      go_enter Tryd.func49, Tryd.ntmps49
      go_wp2
      go_ret
      exact ⟨rfl, bl_alloc (Below.refl _ _) _⟩
    by_cases c5 : 16 < l
    · clear hA
      go_enter Tryd.func49, Tryd.ntmps49
      go_wp2
      go_ret
      exact ⟨rfl, bl_alloc (Below.refl _ _) _⟩
    by_cases c6 : s < 0
    · clear hA
      go_enter Tryd.func49, Tryd.ntmps49
      go_wp2
      go_ret
      exact ⟨rfl, bl_alloc (Below.refl _ _) _⟩
    by_cases c7 : 16384 < s
    · clear hA
      go_enter Tryd.func49, Tryd.ntmps49
      go_wp2
      go_ret
      exact ⟨rfl, bl_alloc (Below.refl _ _) _⟩
    exact (hA (by omega)).elim

theorem same_any (x y : Nd) (w : World) : Calls Tryd.prog 52 #[encN x, encN y] w fun e w' => e = .returned (.bool (decide (x = y))) ∧ Below w.heap.size w w' := by
  obtain ⟨a1, a2, a3, a4, a5, a6⟩ := x
  obtain ⟨b1, b2, b3, b4, b5, b6⟩ := y
  generalize hr : decide ((⟨a1, a2, a3, a4, a5, a6⟩ : Nd) = ⟨b1, b2, b3, b4, b5, b6⟩) = r
  have HR := Lib.hid hr
  clear hr
  unfold encN
  go_enter Tryd.func52, Tryd.ntmps52
  go_wp2
  all_goals
    go_ret
    refine ⟨?_, by repeat (first | exact Below.refl _ _ | refine bl_alloc ?_ _)⟩
    rw [← HR.out]
    clear HR
    refine ret_bool ?_
    simp_all [str_iff]
    try rfl
end Go.Proofs.YthominkfjfnkbaaDoor
