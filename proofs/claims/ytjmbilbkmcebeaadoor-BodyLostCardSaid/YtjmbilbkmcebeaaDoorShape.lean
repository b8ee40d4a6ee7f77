/- A relation between worlds for drawn regions that make a block and write it: below a base nothing is written, and each block of cells keeps its shape. -/
import Derived.Test.YtjmbilbkmcebeaaDoorErrs
import Derived.Test.YtjmbilbkmcebeaaDoorMap
namespace Go.Proofs.YtjmbilbkmcebeaaDoor
open Go Go.RowKit
set_option maxRecDepth 100000

/-- Block c is k cells, none frozen. -/
def IsBlk (k : Nat) (w : World) (c : Nat) : Prop := ∃ cs t, cs.size = k ∧ w.heap[c]? = some (.cells cs t (0, 0))
/-- From w to w': nothing below base is written; blocks of cells stay such. -/
structure Shp (base : Nat) (w w' : World) : Prop where
  bel : Below base w w'
  blk : ∀ c k, IsBlk k w c → IsBlk k w' c

variable {base : Nat} {a w w' : World}
theorem Shp.refl (base : Nat) (w : World) : Shp base w w := ⟨Below.refl _ _, fun _ _ h => h⟩
theorem Shp.trans {b : World} (h : Shp base a b) (k : Shp base b w) : Shp base a w := ⟨h.bel.trans k.bel, fun c n hc => k.blk c n (h.blk c n hc)⟩
theorem IsBlk.lt {k c : Nat} (h : IsBlk k w c) : c < w.heap.size := by
  obtain ⟨cs, t, _, h⟩ := h
  exact (Array.getElem?_eq_some_iff.1 h).1
theorem Shp.of_below (hb : Below w.heap.size w w') (h : base ≤ w.heap.size) : Shp base w w' :=
  ⟨hb.mono h, fun c k hc => by obtain ⟨cs, t, h1, h2⟩ := hc; exact ⟨cs, t, h1, (hb.block c (IsBlk.lt ⟨cs, t, h1, h2⟩)).trans h2⟩⟩
theorem Shp.alloc (h : Shp base a w) (hB : base ≤ a.heap.size) (o : Obj) : Shp base a (w.alloc o) :=
  h.trans (Shp.of_below (bl_alloc (Below.refl _ _) o) (Nat.le_trans hB h.bel.size))
theorem IsBlk.new (w : World) (cs : Array Value) (t : TypeId) : IsBlk cs.size (w.alloc (.cells cs t)) w.heap.size := ⟨cs, t, rfl, by show (w.heap.push _)[w.heap.size]? = _; rw [Array.getElem?_push]; simp⟩
theorem IsBlk.new' (w : World) (cs : Array Value) (t : TypeId) {k : Nat} (h : cs.size = k) : IsBlk k (w.alloc (.cells cs t)) w.heap.size := h ▸ IsBlk.new w cs t
theorem IsBlk.setCell {k c : Nat} (h : IsBlk k w c) (p : Addr) (u : Value) : IsBlk k (w.setCell p u) c := by
  obtain ⟨cs, t, h1, h2⟩ := h
  by_cases hc : c = p.block
  · subst hc
    refine ⟨if p.spot.isSome then cs else cs.setIfInBounds p.off u, t, by split <;> simp [h1], ?_⟩
    simp [World.setCell, Array.getElem?_modify, h2]
  · exact ⟨cs, t, h1, (Below.heap_setCell _ _ _ _ hc).trans h2⟩
theorem Shp.setCell (h : Shp base a w) {p : Addr} (hp : base ≤ p.block) (u : Value) : Shp base a (w.setCell p u) :=
  ⟨h.bel.setCell hp u, fun c k hc => (h.blk c k hc).setCell p u⟩
theorem Shp.drew (h : Shp base a w) : Shp base a w.drew := ⟨h.bel.drew, h.blk⟩
theorem IsBlk.cell {k c : Nat} (h : IsBlk k w c) {i : Nat} (hi : i < k) : ∃ v, w.cell? ⟨c, i, none⟩ = some v := by
  obtain ⟨cs, t, h1, h2⟩ := h
  exact ⟨cs[i]'(by omega), by simp [World.cell?, h2, h1, hi]⟩
theorem IsBlk.froz {k c : Nat} (h : IsBlk k w c) (i : Nat) : w.frozen? ⟨c, i, none⟩ = false := by
  obtain ⟨cs, t, _, h2⟩ := h
  simp [World.frozen?, h2]

/-- A pointer to a block of k cells from base on. -/
def PtBlk (base k : Nat) (v : Value) (w : World) : Prop := ∃ c, v = .pointer (some ⟨c, 0, none⟩) ∧ base ≤ c ∧ IsBlk k w c
theorem ptBlk_keep {base k : Nat} (v : Value) (w w' : World) (h : PtBlk base k v w) (hs : Shp base w w') : PtBlk base k v w' := by
  obtain ⟨c, h1, h2, h3⟩ := h
  exact ⟨c, h1, h2, hs.blk c k h3⟩

theorem giv_look {P : Program} {o : Oper} {a : Act} {w : World} {R : Value → World → Prop} (m x : Operand) (t : TypeId) (c : Bool) (hop : o.op = Op.lookup t m x c) {v : Value}
    (hrun : (Instr.lookup t (a.eval m) (a.eval x) c).run P w = .ok v w) (hR : R v w) : giv P o a w R := by
  unfold giv
  simp [execOp, hop, hrun, Result.andThen]
  exact hR
theorem giv_len {P : Program} {o : Oper} {a : Act} {w : World} {R : Value → World → Prop} (m : Operand) (t : TypeId) (hop : o.op = Op.call { callee := Callee.builtin Builtin.len, args := #[m], argTypes := #[t] }) {v : Value}
    (hrun : (Builtin.len_ #[t] o.type #[a.eval m]).run P w = .ok v w) (hR : R v w) : giv P o a w R := by
  unfold giv
  simp [execOp, hop, resolve, invoke, builtin, hrun, Result.andThen]
  exact hR
end Go.Proofs.YtjmbilbkmcebeaaDoor
