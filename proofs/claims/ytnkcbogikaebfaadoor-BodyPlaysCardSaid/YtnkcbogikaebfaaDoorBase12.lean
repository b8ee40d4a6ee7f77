/- Merged texts: Node NodeTab NodeNew NodeLaw NodeDel. -/
import Derived.Test.YtnkcbogikaebfaaDoorBase03
import Derived.Test.YtnkcbogikaebfaaDoorBase02
import Derived.StillTailTactics
import Derived.Deep.DeepMust
import Derived.Outline
import Derived.Deep.QuietTactic
import Derived.BigQuiet
import Derived.Test.YtnkcbogikaebfaaDoorBase04
section
/- The walks of package node: Valid, New, Get, Put, Len, over a node table that is a function of its numbers. -/
namespace Go.Proofs.YtnkcbogikaebfaaDoor
open Go Go.RowKit
set_option maxRecDepth 100000
set_option linter.unusedSimpArgs false
attribute [local go_sem] giv
variable {E : Nat → Addr} {B : Nat}

/-- A node. -/
structure Nd where
  id : Int
  kind : Int
  links : Int
  size : Int
  target : ByteArray
  parent : Int

def encN (n : Nd) : Value := .agg #[.int .i64 n.id, .int .i64 n.kind, .int .i64 n.links, .int .i64 n.size, .string n.target, .int .i64 n.parent]

def idB (n : Int) : Bool := decide (1 ≤ n) && decide (n ≤ 16777215)
def kindB (n : Int) : Bool := decide (1 ≤ n) && decide (n ≤ 3)
/-- No text. -/
abbrev noText : ByteArray := { data := #[] }
/-- May a node be? -/
def validB (n : Nd) : Bool :=
  idB n.id && (kindB n.kind && (decide (0 ≤ n.links) && (decide (n.links ≤ 16) && (decide (0 ≤ n.size) && (decide (n.size ≤ 16384) && ((n.kind == 1 || n.size == 0) &&
  (((n.kind == 3) == !n.target.toList.isEmpty) && (decide (n.target.size ≤ 88) && (if n.kind = 2 then idB n.parent else n.parent == 0)))))))))

/-- What Valid says. -/
def vRes (E : Nat → Addr) (n : Nd) : Value := if validB n then .nilIface else errV E 0
theorem vRes_bad {n : Nd} (h : validB n = false) : Ending.returned (errV E 0) = .returned (vRes E n) := by unfold vRes; rw [h]; rfl
theorem vRes_good {n : Nd} (h : validB n = true) : Ending.returned .nilIface = .returned (vRes E n) := by unfold vRes; rw [h]; rfl

end Go.Proofs.YtnkcbogikaebfaaDoor
end

section
/- The walks of package node's table: Len, Get, Put, New, over a table that is a function of its numbers. -/
namespace Go.Proofs.YtnkcbogikaebfaaDoor
open Go Go.RowKit
set_option maxRecDepth 100000
set_option linter.unusedSimpArgs false
attribute [local go_sem] giv
variable {E : Nat → Addr} {B : Nat}

theorem kdInt : Maps.Keyed Tryd.prog 3 := Maps.int_keyed Tryd.underlying3
theorem inj64 : ∀ a b : Int, Value.int .i64 a = Value.int .i64 b → a = b := fun _ _ h => by cases h; rfl
theorem fit64 {a : Int} (h : -9223372036854775808 ≤ a ∧ a ≤ 9223372036854775807) : (Lit.int .i64 a).wf = true := by
  simp [Lit.wf, IntKind.min, IntKind.max, IntKind.signed, IntKind.bits]; omega
theorem keyI {a : Int} (h : -9223372036854775808 ≤ a ∧ a ≤ 9223372036854775807) : keyOf Tryd.prog 3 (.int .i64 a) = some (.int .i64 a) := Maps.keyOf_int_mk Tryd.underlying3 (fit64 h)

/-- The nothing of nodes. -/
def noNd : Nd := ⟨0, 0, 0, 0, noText, 0⟩
abbrev NMap (w : World) (r : Nat) (g : Int → Option Nd) (n : Nat) : Prop := MapAt Tryd.prog 3 (Value.int .i64) encN w r g n

/-- The block b holds a node table: its map's block m (none: not made), what it has, how many, the last number. -/
structure NodesAt (w : World) (b : Nat) (m : Option Nat) (g : Int → Option Nd) (n : Nat) (last : Int) : Prop where
  map : w.cell? ⟨b, 0, none⟩ = some (.map m)
  last : w.cell? ⟨b, 1, none⟩ = some (.int .i64 last)
  fmap : w.frozen? ⟨b, 0, none⟩ = false
  flast : w.frozen? ⟨b, 1, none⟩ = false
  lt : b < w.heap.size
  made : match m with
    | none => n = 0 ∧ ∀ k, g k = none
    | some r => r ≠ b ∧ NMap w r g n

/-- The blocks of a table. -/
def OwnN (b : Nat) (m : Option Nat) : Nat → Prop := fun x => x = b ∨ m = some x

section
variable {w w' : World} {b : Nat} {m : Option Nat} {g : Int → Option Nd} {n : Nat} {last : Int}
theorem NodesAt.touch {S : Nat → Prop} (h : NodesAt w b m g n last) (ht : Touch S w w') (hn : ∀ x, OwnN b m x → ¬ S x) : NodesAt w' b m g n last := by
  obtain ⟨h1, h2, h3, h4, h5, h6⟩ := h
  have hb := hn b (.inl rfl)
  refine ⟨(ht.cell (p := ⟨b, 0, none⟩) h5 hb).trans h1, (ht.cell (p := ⟨b, 1, none⟩) h5 hb).trans h2, (ht.frozen (p := ⟨b, 0, none⟩) h5 hb).trans h3, (ht.frozen (p := ⟨b, 1, none⟩) h5 hb).trans h4, Nat.lt_of_lt_of_le h5 ht.size, ?_⟩
  cases m with
  | none => exact h6
  | some r => exact ⟨h6.1, h6.2.touch ht (hn r (.inr rfl))⟩
theorem NodesAt.below (h : NodesAt w b m g n last) (hb : Below w.heap.size w w') : NodesAt w' b m g n last := h.touch (Touch.of_below hb NoB) (fun _ _ h => h)
theorem NodesAt.own_lt (h : NodesAt w b m g n last) : ∀ x, OwnN b m x → x < w.heap.size := by
  rintro x (rfl | hx)
  · exact h.lt
  · subst hx; exact h.made.2.lt
/-- Behind a write into the table's map. -/
theorem NodesAt.turned {r n' : Nat} {g' : Int → Option Nd} (h : NodesAt w b (some r) g n last) (hm : NMap w' r g' n') (ht : w.mapTurned w' r) : NodesAt w' b (some r) g' n' last := by
  obtain ⟨h1, h2, h3, h4, h5, h6, _⟩ := h
  obtain ⟨c1, c2, c3⟩ := turned_cell ht
  exact ⟨(c1 _ _ (Ne.symm h6)).trans h1, (c1 _ _ (Ne.symm h6)).trans h2, (c2 _ _ (Ne.symm h6)).trans h3, (c2 _ _ (Ne.symm h6)).trans h4, by omega, h6, hm⟩

end

/-- A length at a guarded operation. -/
theorem wpList_glen {P : Program} {w : World} {ops : Array Oper} {rest : List Oper} {o : Oper} {a : Act} {Q : Exit → Act → World → Prop} (hg : Region.wanted o (yielded ops a.tmps) = true) (m : Operand) (t : TypeId) (hop : o.op = Op.call { callee := Callee.builtin Builtin.len, args := #[m], argTypes := #[t] }) {v : Value}
    (hrun : (Builtin.len_ #[t] o.type #[a.eval m]).run P w = .ok v w) (hK : wpList P ops Q rest (a.put o.dst v) w) : wpList P ops Q (o :: rest) a w := by
  refine wpList_step fun K' hK' => ?_
  rw [if_pos hg]
  unfold Oper.wp
  simp [execOp, hop, resolve, invoke, builtin, hrun, Result.andThen]
  exact hK' _ _ hK

theorem vRes_is {n : Nd} (h : validB n = true) : vRes E n = .nilIface := by unfold vRes; rw [h]; rfl
theorem vRes_no {n : Nd} (h : validB n = false) : vRes E n = errV E 0 := by unfold vRes; rw [h]; rfl

theorem NodesAt.setLast {w : World} {b : Nat} {m : Option Nat} {g : Int → Option Nd} {n : Nat} {last : Int} (h : NodesAt w b m g n last) (v : Int) : NodesAt (w.setCell ⟨b, 1, none⟩ (.int .i64 v)) b m g n v := by
  obtain ⟨h1, h2, h3, h4, h5, h6⟩ := h
  refine ⟨by go_simp, by go_simp, by go_simp, by go_simp, by simpa using h5, ?_⟩
  cases m with
  | none => exact h6
  | some r => exact ⟨h6.1, h6.2.setCell h6.1 _⟩

/-- What an operation that writes leaves: the table, its blocks. -/
def NodesOut (b : Nat) (m : Option Nat) (g' : Int → Option Nd) (n' : Nat) (last' : Int) (w w' : World) : Prop :=
  ∃ m', NodesAt w' b m' g' n' last' ∧ Touch (OwnN b m) w w' ∧ ∀ x, OwnN b m' x → OwnN b m x ∨ w.heap.size ≤ x

end Go.Proofs.YtnkcbogikaebfaaDoor
end

section
/- The walk of package node's New. -/
namespace Go.Proofs.YtnkcbogikaebfaaDoor
open Go Go.RowKit
set_option maxRecDepth 100000
set_option linter.unusedSimpArgs false
attribute [local go_sem] giv
variable {E : Nat → Addr} {B : Nat}

/-- A new node. -/
def newNd (i k : Int) : Nd := ⟨i, k, 0, 0, if k = 3 then { data := #[47] } else noText, if k = 2 then 1 else 0⟩

theorem NodesOut.trans {w w1 w2 : World} {b : Nat} {m m1 : Option Nat} {g2 : Int → Option Nd} {n2 : Nat} {l2 : Int}
    (ht : Touch (OwnN b m) w w1) (ho : ∀ x, OwnN b m1 x → OwnN b m x ∨ w.heap.size ≤ x) (k : NodesOut b m1 g2 n2 l2 w1 w2) : NodesOut b m g2 n2 l2 w w2 := by
  obtain ⟨m2, h1, h2, h3⟩ := k
  refine ⟨m2, h1, ht.trans h2 (fun x hx hlt => (ho x hx).resolve_right (by omega)), fun x hx => ?_⟩
  rcases h3 x hx with h | h
  · exact ho x h
  · exact .inr (Nat.le_trans ht.size h)

theorem below_drewN (w : World) (n : Nat) : Below w.heap.size w (w.drewN n) := ⟨rfl, rfl, rfl, Nat.le_refl _, fun _ _ => rfl⟩

theorem newNd_valid {i k : Int} (hi : 1 ≤ i ∧ i ≤ 16777215) (hk : k = 1 ∨ k = 2 ∨ k = 3) : validB (newNd i k) = true := by
  rcases hk with rfl | rfl | rfl
  · simp [validB, newNd, idB, kindB, hi]; decide
  · simp [validB, newNd, idB, kindB, hi]; decide
  · simp [validB, newNd, idB, kindB, hi]; decide

theorem NodesOut.refl' {w w' : World} {b : Nat} {m : Option Nat} {g : Int → Option Nd} {n : Nat} {last : Int} (h : NodesAt w b m g n last) (hb : Below w.heap.size w w') : NodesOut b m g n last w w' :=
  ⟨m, h.below hb, Touch.of_below hb _, fun _ h => .inl h⟩

end Go.Proofs.YtnkcbogikaebfaaDoor
end

section
/- A law's own node table beside its own blocks; the law's small helpers (first, Number). -/
namespace Go.Proofs.YtnkcbogikaebfaaDoor
open Go Go.RowKit
set_option maxRecDepth 100000
set_option linter.unusedSimpArgs false
attribute [local go_sem] giv
variable {E : Nat → Addr} {B : Nat}

/-- A law's own table: its blocks are from B on and not among L. -/
def NB (B : Nat) (L : List Nat) (w : World) (b : Nat) (g : Int → Option Nd) (n : Nat) (last : Int) : Prop :=
  B ≤ w.heap.size ∧ (∀ x ∈ L, x < w.heap.size) ∧ ∃ m, NodesAt w b m g n last ∧ ∀ x, OwnN b m x → B ≤ x ∧ x ∉ L

section
variable {L : List Nat} {w w' : World} {b n : Nat} {g : Int → Option Nd} {last : Int}
theorem NB.below (h : NB B L w b g n last) (hb : Below w.heap.size w w') : NB B L w' b g n last ∧ Kept B L w w' := by
  obtain ⟨h1, h2, m, h3, h4⟩ := h
  exact ⟨⟨Nat.le_trans h1 hb.size, fun x hx => Nat.lt_of_lt_of_le (h2 x hx) hb.size, m, h3.below hb, h4⟩, Kept.of_below hb h1 h2⟩
/-- A new block of the law's own beside the table. -/
theorem NB.loc (h : NB B L w b g n last) (o : Obj) : NB B (w.heap.size :: L) (w.alloc o) b g n last := by
  obtain ⟨h1, h2, m, h3, h4⟩ := h
  refine ⟨by simp; omega, fun x hx => ?_, m, h3.below (bl_alloc (Below.refl _ _) _), fun x hx => ⟨(h4 x hx).1, fun hl => ?_⟩⟩
  · rcases List.mem_cons.1 hx with rfl | hx
    · simp
    · have := h2 x hx; simp; omega
  · rcases List.mem_cons.1 hl with rfl | hl
    · exact absurd (h3.own_lt _ hx) (Nat.lt_irrefl _)
    · exact (h4 x hx).2 hl
/-- A block of the law's own is written. -/
theorem NB.set (h : NB B L w b g n last) {p : Addr} (hp : p.block ∈ L) (u : Value) : NB B L (w.setCell p u) b g n last := by
  obtain ⟨h1, h2, m, h3, h4⟩ := h
  refine ⟨by simpa using h1, fun x hx => by simpa using h2 x hx, m, h3.touch (S := fun x => x = p.block) (Touch.setCell (S := fun x => x = p.block) (Touch.refl _ _) (.inl rfl) _) ?_, h4⟩
  rintro x hx rfl
  exact (h4 _ hx).2 hp
theorem NB.out {m : Option Nat} {g' : Int → Option Nd} {n' : Nat} {last' : Int} (hB : B ≤ w.heap.size) (hL : ∀ x ∈ L, x < w.heap.size) (ho : ∀ x, OwnN b m x → B ≤ x ∧ x ∉ L)
    (h : NodesOut b m g' n' last' w w') : NB B L w' b g' n' last' ∧ Kept B L w w' := by
  obtain ⟨m', h1, h2, h3⟩ := h
  refine ⟨⟨Nat.le_trans hB h2.size, fun x hx => Nat.lt_of_lt_of_le (hL x hx) h2.size, m', h1, fun x hx => ?_⟩, Kept.of_touch h2 hB hL ho⟩
  rcases h3 x hx with h | h
  · exact ho x h
  · exact ⟨Nat.le_trans hB h, fun hl => by have := hL x hl; omega⟩

end

theorem Env.top {w : World} (h : Env E B w) : Env E w.heap.size w :=
  ⟨Nat.le_refl _, fun g hg => Nat.lt_of_lt_of_le (h.glt g hg) h.size, fun g hg => Nat.lt_of_lt_of_le (h.elt g hg) h.size, h.cell, h.blk, h.inj⟩

end Go.Proofs.YtnkcbogikaebfaaDoor
end

section
/- The walks of package node's table: Put where there are too many, Del. -/
namespace Go.Proofs.YtnkcbogikaebfaaDoor
open Go Go.RowKit
set_option maxRecDepth 100000
set_option linter.unusedSimpArgs false
attribute [local go_sem] giv
variable {E : Nat → Addr} {B : Nat}

section
variable {L : List Nat} {w w' : World} {b n : Nat} {g : Int → Option Nd} {last : Int}
end
end Go.Proofs.YtnkcbogikaebfaaDoor
end
