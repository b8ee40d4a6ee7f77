/- Merged texts: QErrs. -/
import Derived.Test.YthhipeceeagpnaaGreatDoorQYBase01
import Derived.Test.YthhipeceeagpnaaGreatDoorProg
import Derived.WalkKit
import Derived.Lib.Hide
import Derived.LaidEql
section
/- The package variables of api (the errors) as the law's world holds them, and the walks of breviarysee: Is of nil, Is of one of api's errors. -/
namespace Go.Proofs.YthhipeceeagpnaaGreatDoor
open Go.RowKit
set_option maxRecDepth 100000

/-- The numbers of api's errors, in the order of 'sentinels'. -/
def errs : List Nat := [15, 16, 7, 8, 17, 18, 5, 19, 0, 13, 11, 1, 20, 3, 10, 14, 9, 2, 6, 4, 12, 21, 22, 23]

/-- The errors that the rows list. -/
def errsL : List Nat := [7, 8, 5, 0, 13, 11, 1, 3, 10, 14, 2, 6, 4, 12]
/-- The value of error g. -/
abbrev errV (E : Nat → Addr) (g : Nat) : Value := .iface 257 (.pointer (some (E g)))

/-- Below block B the world holds api's errors: each its own pointer. -/
structure Env (E : Nat → Addr) (B : Nat) (w : World) : Prop where
  size : B ≤ w.heap.size
  glt : ∀ g ∈ errsL, g < B
  elt : ∀ g ∈ errsL, (E g).block < B
  cell : ∀ g ∈ errsL, w.cell? ⟨g, 0, none⟩ = some (errV E g)
  blk : ∀ g ∈ errsL, ∃ c t, w.heap[(E g).block]? = some (.cells c t (0, 0))
  inj : ∀ g ∈ errsL, ∀ h ∈ errsL, E g = E h → g = h

variable {E : Nat → Addr} {B : Nat}

theorem Env.keep {w w' : World} (h : Env E B w) (hb : Below B w w') : Env E B w' :=
  ⟨Nat.le_trans h.size hb.size, h.glt, h.elt, fun g hg => (hb.cell (p := ⟨g, 0, none⟩) (h.glt g hg)).trans (h.cell g hg),
    fun g hg => by obtain ⟨c, t, e⟩ := h.blk g hg; exact ⟨c, t, (hb.block _ (h.elt g hg)).trans e⟩, h.inj⟩
theorem Env.below {w w' : World} (h : Env E B w) (hb : Below w.heap.size w w') : Env E B w' := h.keep (hb.mono h.size)
theorem Env.alloc {w : World} (h : Env E B w) (o : Obj) : Env E B (w.alloc o) := h.keep ((Below.refl _ _).alloc h.size o)
theorem bl_alloc {a w : World} (h : Below a.heap.size a w) (o : Obj) : Below a.heap.size a (w.alloc o) := h.alloc h.size o
theorem bl_trans {a w w1 : World} (h : Below a.heap.size a w) (k : Below w.heap.size w w1) : Below a.heap.size a w1 := h.trans (k.mono h.size)
theorem bcell {W w1 : World} (hb : Below W.heap.size W w1) : (∀ b o, b < W.heap.size → w1.cell? ⟨b, o, none⟩ = W.cell? ⟨b, o, none⟩) ∧ W.heap.size ≤ w1.heap.size :=
  ⟨fun b o h => hb.cell (p := ⟨b, o, none⟩) h, hb.size⟩
theorem ret_int {k : IntKind} {a b : Int} (h : a = b) : Ending.returned (.int k a) = .returned (.int k b) := by rw [h]
theorem ret_bool {a b : Bool} (h : a = b) : Ending.returned (.bool a) = .returned (.bool b) := by rw [h]

/-- A slice that a call made: its cells are these. -/
def SlAt (xs : Array Value) (n : Nat) (v : Value) (w : World) : Prop := ∃ b, v = .slice (some ⟨b, 0, none⟩) n n ∧ b < w.heap.size ∧ ∀ i, w.cell? ⟨b, i, none⟩ = xs[i]?
theorem run_eql_err_same (a : Addr) (w : World) : (binOp .eql 27 (.iface 257 (.pointer (some a))) (.iface 257 (.pointer (some a)))).run Tryz.prog w = .ok (.bool true) w := by
  have hi : ∃ i, Tryz.prog.info? 257 = some i ∧ i.comparable = true := by
    have h : (Tryz.prog.info? 257).map (·.comparable) = some true := by kernel_rfl
    cases h1 : Tryz.prog.info? 257 with
    | none => rw [h1] at h; cases h
    | some i => rw [h1] at h; exact ⟨i, rfl, by simpa using h⟩
  have hj : ∃ j, Tryz.prog.info? 273 = some j := by
    have h : (Tryz.prog.info? 273).isSome = true := by kernel_rfl
    exact Option.isSome_iff_exists.1 h
  obtain ⟨i, h1, h2⟩ := hi
  obtain ⟨j, h3⟩ := hj
  exact run_eql_iface_ptr_same w a Tryz.underlying27 Tryz.underlying257 h1 h2 h3

def RetSl (xs : Array Value) (n : Nat) (w : World) (e : Ending) (w' : World) : Prop := ∃ b, e = .returned (.slice (some ⟨b, 0, none⟩) n n) ∧ w.heap.size ≤ b ∧ b < w'.heap.size ∧ (∀ i, w'.cell? ⟨b, i, none⟩ = xs[i]?) ∧ Below w.heap.size w w'

attribute [local go_sem] giv

/-- Error g's number as plain data. -/
def codeOf (g : Nat) : Int := 101 + (errs.idxOf g : Nat)

end Go.Proofs.YthhipeceeagpnaaGreatDoor
end
