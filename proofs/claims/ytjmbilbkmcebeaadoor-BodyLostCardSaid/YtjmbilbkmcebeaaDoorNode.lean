/- The walks of package node: Valid, New, Get, Put, Len, over a node table that is a function of its numbers. -/
import Derived.Test.YtjmbilbkmcebeaaDoorErrs
import Derived.Test.YtjmbilbkmcebeaaDoorMap
import Derived.StillTailTactics
import Derived.Deep.DeepMust
import Derived.Outline
import Derived.Deep.QuietTactic
import Derived.BigQuiet
namespace Go.Proofs.YtjmbilbkmcebeaaDoor
open Go Go.RowKit
set_option maxRecDepth 100000
set_option linter.unusedSimpArgs false
attribute [local go_sem] giv
variable {E : Nat → Addr} {B : Nat}

/-- A node. -/
structure Nd where
  id : Int
  kind : Int
  links : Int
  size : Int
  target : ByteArray
  parent : Int

def encN (n : Nd) : Value := .agg #[.int .i64 n.id, .int .i64 n.kind, .int .i64 n.links, .int .i64 n.size, .string n.target, .int .i64 n.parent]

def idB (n : Int) : Bool := decide (1 ≤ n) && decide (n ≤ 16777215)
def kindB (n : Int) : Bool := decide (1 ≤ n) && decide (n ≤ 3)
/-- No text. -/
abbrev noText : ByteArray := { data := #[] }
/-- May a node be? -/
def validB (n : Nd) : Bool :=
  idB n.id && (kindB n.kind && (decide (0 ≤ n.links) && (decide (n.links ≤ 16) && (decide (0 ≤ n.size) && (decide (n.size ≤ 16384) && ((n.kind == 1 || n.size == 0) &&
  (((n.kind == 3) == !n.target.toList.isEmpty) && (decide (n.target.size ≤ 88) && (if n.kind = 2 then idB n.parent else n.parent == 0)))))))))

theorem id_any (p : Int) (w : World) : Calls Tryd.prog 124 #[.int .i64 p] w fun e w' => e = .returned (.bool (idB p)) ∧ w = w' := by
  by_cases h0 : 1 ≤ p
  · go_enter Tryd.func124, Tryd.ntmps124
    go_wp2
    go_ret
    exact ⟨ret_bool (by simp [idB, h0]), rfl⟩
  · have h1 : decide (1 ≤ p) = false := decide_eq_false h0
    go_enter Tryd.func124, Tryd.ntmps124
    go_wp2
    go_ret
    exact ⟨ret_bool (by unfold idB; rw [h1]; rfl), rfl⟩

theorem kind_any (p : Int) (w : World) : Calls Tryd.prog 62 #[.int .i64 p] w fun e w' => e = .returned (.bool (kindB p)) ∧ w = w' := by
  by_cases h0 : 1 ≤ p
  · go_enter Tryd.func62, Tryd.ntmps62
    go_wp2
    go_ret
    exact ⟨ret_bool (by simp [kindB, h0]), rfl⟩
  · have h1 : decide (1 ≤ p) = false := decide_eq_false h0
    go_enter Tryd.func62, Tryd.ntmps62
    go_wp2
    go_ret
    exact ⟨ret_bool (by unfold kindB; rw [h1]; rfl), rfl⟩

/-- What Valid says. -/
def vRes (E : Nat → Addr) (n : Nd) : Value := if validB n then .nilIface else errV E 4
theorem vRes_bad {n : Nd} (h : validB n = false) : Ending.returned (errV E 4) = .returned (vRes E n) := by unfold vRes; rw [h]; rfl
theorem vRes_good {n : Nd} (h : validB n = true) : Ending.returned .nilIface = .returned (vRes E n) := by unfold vRes; rw [h]; rfl

set_option maxHeartbeats 4000000 in
theorem valid_any (n : Nd) (w : World) (hE : Env E B w) :
    Calls Tryd.prog 86 #[encN n] w fun e w' => e = .returned (vRes E n) ∧ Below w.heap.size w w' := by
  obtain ⟨i, k, l, s, t, p⟩ := n
  have he := hE.cell 4 (by decide)
  have hlt : 4 < w.heap.size := Nat.lt_of_lt_of_le (hE.glt 4 (by decide)) hE.size
  clear hE
  unfold encN
  cases hi : idB i
  · go_enter Tryd.func86, Tryd.ntmps86
    go_wp2_with fail
    refine (id_any _ _).mono ?_
    rintro e w1 ⟨rfl, rfl⟩
    rw [hi]
    go_wp2
    go_ret
    exact ⟨vRes_bad (by simp [validB, hi]), by repeat (first | exact Below.refl _ _ | refine bl_alloc ?_ _)⟩
  cases hk : kindB k
  · go_enter Tryd.func86, Tryd.ntmps86
    go_wp2_with fail
    refine (id_any _ _).mono ?_
    rintro e w1 ⟨rfl, rfl⟩
    rw [hi]
    go_wp2_with fail
    refine (kind_any _ _).mono ?_
    rintro e w1 ⟨rfl, rfl⟩
    rw [hk]
    go_wp2
    go_ret
    exact ⟨vRes_bad (by simp [validB, hk]), by repeat (first | exact Below.refl _ _ | refine bl_alloc ?_ _)⟩
  · go_enter Tryd.func86, Tryd.ntmps86
    go_wp2_with fail
    refine (id_any _ _).mono ?_
    rintro e w1 ⟨rfl, rfl⟩
    rw [hi]
    go_wp2_with fail
    refine (kind_any _ _).mono ?_
    rintro e w1 ⟨rfl, rfl⟩
    rw [hk]
    go_wp2
    all_goals
      go_ret
      refine ⟨?_, by repeat (first | exact Below.refl _ _ | refine bl_alloc ?_ _)⟩
      clear he
      first
        | exact vRes_good (by simp_all [validB, idB]; try omega)
        | exact vRes_bad (by simp_all [validB, idB]; try omega)
end Go.Proofs.YtjmbilbkmcebeaaDoor
