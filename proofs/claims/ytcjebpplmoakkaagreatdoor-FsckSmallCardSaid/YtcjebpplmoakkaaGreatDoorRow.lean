/- Rows: a block that is known whole, as a list of cells; made, read, written; bytes. -/
import Derived.Test.YtcjebpplmoakkaaGreatDoorMap
import Derived.Test.YtcjebpplmoakkaaGreatDoorErrs
import Derived.OwnWalk
import Derived.Laws.BytesArg
namespace Go.Proofs.YtcjebpplmoakkaaGreatDoor
open Go Go.RowKit
set_option maxRecDepth 100000

/-- Block h is the cells cs, none frozen. -/
def Row (w : World) (h : Nat) (t : TypeId) (cs : List Value) : Prop := w.heap[h]? = some (.cells cs.toArray t (0, 0))
section
variable {w w' : World} {h : Nat} {t : TypeId} {cs : List Value}
theorem Row.lt (r : Row w h t cs) : h < w.heap.size := (Array.getElem?_eq_some_iff.1 r).1
theorem Row.keep (r : Row w h t cs) (hb : w'.heap[h]? = w.heap[h]?) : Row w' h t cs := hb.trans r
theorem Row.below (r : Row w h t cs) (hb : Below w.heap.size w w') : Row w' h t cs := r.keep (hb.block h r.lt)
theorem Row.touch {S : Nat → Prop} (r : Row w h t cs) (ht : Touch S w w') (hn : ¬ S h) : Row w' h t cs := r.keep (ht.block h r.lt hn)
theorem Row.alloc (r : Row w h t cs) (o : Obj) : Row (w.alloc o) h t cs := r.below (bl_alloc (Below.refl _ _) o)
theorem Row.drew (r : Row w h t cs) : Row w.drew h t cs := r
theorem Row.new (w : World) (t : TypeId) (cs : List Value) : Row (w.alloc (.cells cs.toArray t)) w.heap.size t cs := by
  show (w.heap.push _)[w.heap.size]? = _
  rw [Array.getElem?_push]; simp
theorem Row.cell (r : Row w h t cs) (i : Nat) : w.cell? ⟨h, i, none⟩ = cs[i]? := by
  simp [World.cell?, show w.heap[h]? = some (.cells cs.toArray t (0, 0)) from r]
theorem Row.cell' (r : Row w h t cs) {i : Nat} {v : Value} (hv : cs[i]? = some v) : w.cell? ⟨h, i, none⟩ = some v := (r.cell i).trans hv
theorem Row.froz (r : Row w h t cs) (i : Nat) : w.frozen? ⟨h, i, none⟩ = false := by
  simp [World.frozen?, show w.heap[h]? = some (.cells cs.toArray t (0, 0)) from r]
theorem Row.set (r : Row w h t cs) (i : Nat) (v : Value) : Row (w.setCell ⟨h, i, none⟩ v) h t (cs.set i v) := by
  simp [Row, World.setCell, Array.getElem?_modify, show w.heap[h]? = some (.cells cs.toArray t (0, 0)) from r]
theorem Row.other (r : Row w h t cs) {p : Addr} (hp : h ≠ p.block) (v : Value) : Row (w.setCell p v) h t cs := r.keep (Below.heap_setCell _ _ _ _ hp)
theorem Row.of_owns {base n : Nat} {xs : List Value} (ho : w.ownsRow base t 1 (.slice (some ⟨h, 0, none⟩) n n) n xs) : Row w h t xs := by
  obtain ⟨_, ⟨hv, _⟩ | ⟨g, cap, cur, hv, _, hb, _, _, hs, hx⟩⟩ := ho
  · cases hv
  · cases hv
    rw [List.take_of_length_le (by simp [hs])] at hx
    show _ = _
    rw [hb, ← hx]
end

theorem madeCells_one (z : Value) (n : Nat) : (madeCells #[z] n).toList = List.replicate n z := by
  apply List.ext_getElem?
  intro i
  by_cases hi : i < n
  · simp [madeCells, hi, Nat.mod_one]
  · simp [madeCells, hi]

/-- 'make([]T, n)' at elements of one cell. -/
theorem wpList_mk {P : Program} (w : World) {ops : Array Oper} {rest : List Oper} {o : Oper} {a : Act} {Q : Exit → Act → World → Prop}
    (hg : o.guard = none) (l c : Operand) (t : TypeId) (hop : o.op = Op.makeSlice t l c) (e : TypeId) (z : Value) (bytes : Nat) (h1 : P.underlying t = some (.slice e))
    (hi : (P.info? e).map (fun i => (i.zero, i.size, i.bytes)) = some (some z, 1, bytes)) (hz : z.cells = #[z]) (n : Nat) (hl : a.eval l = .int .i64 n) (hc : a.eval c = .int .i64 n) (b2 : bytes * n ≤ 281474976710656) (b3 : n ≤ maxLen)
    (hK : ∀ w', Row w' w.heap.size e (List.replicate n z) → Below w.heap.size w w' → wpList P ops Q rest (a.put o.dst (.slice (some ⟨w.heap.size, 0, none⟩) n n)) w') :
    wpList P ops Q (o :: rest) a w := by
  obtain ⟨i, hi0, hi1, hi2, hi3⟩ := info_parts hi
  refine wpList_make_full w hg l c t hop w.heap.size e i z 1 h1 hi0 hi1 hi2 .i64 .i64 n n n hl hc rfl rfl (by rw [hi3]; exact b2) b3 (Nat.le_refl _) fun w' r1 r2 => ?_
  refine hK w' ?_ ((Below.refl _ _).grown r2 (Nat.le_refl _) (fun _ h => by cases h))
  rw [hz, Nat.mul_one, madeCells_one] at r1
  exact Row.of_owns r1

/-- Block h begins with xs, has cap cells, none frozen. -/
def Buf (w : World) (h : Nat) (t : TypeId) (cap : Nat) (xs : List Value) : Prop := ∃ cur, w.heap[h]? = some (.cells cur t (0, 0)) ∧ cur.size = cap ∧ cur.toList.take xs.length = xs
section
variable {w w' : World} {h cap : Nat} {t : TypeId} {xs : List Value}
theorem Row.buf (r : Row w h t xs) : Buf w h t xs.length xs := ⟨_, r, by simp, by simp⟩
theorem Buf.lt (r : Buf w h t cap xs) : h < w.heap.size := by obtain ⟨_, h1, _⟩ := r; exact (Array.getElem?_eq_some_iff.1 h1).1
theorem Buf.keep (r : Buf w h t cap xs) (hb : w'.heap[h]? = w.heap[h]?) : Buf w' h t cap xs := by obtain ⟨c, h1, h2⟩ := r; exact ⟨c, hb.trans h1, h2⟩
theorem Buf.below (r : Buf w h t cap xs) (hb : Below w.heap.size w w') : Buf w' h t cap xs := r.keep (hb.block h r.lt)
theorem Buf.touch {S : Nat → Prop} (r : Buf w h t cap xs) (ht : Touch S w w') (hn : ¬ S h) : Buf w' h t cap xs := r.keep (ht.block h r.lt hn)
theorem Buf.len (r : Buf w h t cap xs) : xs.length ≤ cap := by
  obtain ⟨c, _, h2, h3⟩ := r
  have := congrArg List.length h3
  simp at this
  omega
theorem Buf.cell (r : Buf w h t cap xs) {i : Nat} (hi : i < xs.length) : w.cell? ⟨h, i, none⟩ = xs[i]? := by
  obtain ⟨c, h1, h2, h3⟩ := r
  have h4 : xs[i]? = c[i]? := by
    have h5 := congrArg (fun l : List Value => l[i]?) h3
    simp only [List.getElem?_take, if_pos hi, Array.getElem?_toList] at h5
    exact h5.symm
  rw [h4]
  simp [World.cell?, h1]
theorem Buf.froz (r : Buf w h t cap xs) (i : Nat) : w.frozen? ⟨h, i, none⟩ = false := by
  obtain ⟨c, h1, _⟩ := r
  simp [World.frozen?, h1]
theorem Buf.set (r : Buf w h t cap xs) (i : Nat) (v : Value) : Buf (w.setCell ⟨h, i, none⟩ v) h t cap (xs.set i v) := by
  obtain ⟨c, h1, h2, h3⟩ := r
  refine ⟨c.setIfInBounds i v, by simp [World.setCell, Array.getElem?_modify, h1], by simp [h2], ?_⟩
  rw [List.length_set, Array.toList_setIfInBounds, List.take_set, h3]
theorem Buf.other (r : Buf w h t cap xs) {p : Addr} (hp : h ≠ p.block) (v : Value) : Buf (w.setCell p v) h t cap xs := r.keep (Below.heap_setCell _ _ _ _ hp)
end
/-- What append leaves. -/
def SlBuf (w : World) (base : Nat) (t : TypeId) (v : Value) (xs : List Value) : Prop :=
  (v = .slice none 0 0 ∧ xs = []) ∨ ∃ h cap, v = .slice (some ⟨h, 0, none⟩) xs.length cap ∧ base ≤ h ∧ Buf w h t cap xs ∧ cap ≤ maxLen
theorem SlBuf.of_owns {w : World} {base : Nat} {t : TypeId} {v : Value} {n : Nat} {xs : List Value} (h : w.ownsRow base t 1 v n xs) : SlBuf w base t v xs := by
  obtain ⟨hl, ⟨rfl, rfl⟩ | ⟨g, cap, cur, rfl, hb, hg, hn, hc, hs, hx⟩⟩ := h
  · exact .inl ⟨rfl, List.eq_nil_of_length_eq_zero (by omega)⟩
  · rw [Nat.mul_one] at hl hx hs
    subst hl
    exact .inr ⟨g, cap, rfl, hb, ⟨cur, hg, hs, hx⟩, hc⟩
theorem SlBuf.owns {w : World} {base : Nat} {t : TypeId} {v : Value} {xs : List Value} (h : SlBuf w base t v xs) : w.ownsRow base t 1 v xs.length xs := by
  rcases h with ⟨rfl, rfl⟩ | ⟨g, cap, rfl, hb, hbuf, hc⟩
  · exact ⟨rfl, .inl ⟨rfl, rfl⟩⟩
  · have hl := hbuf.len
    obtain ⟨cur, h1, h2, h3⟩ := hbuf
    exact ⟨by simp, .inr ⟨g, cap, cur, rfl, hb, h1, hl, hc, by simpa using h2, by simpa using h3⟩⟩

theorem u8_info : (Tryz.prog.info? 5).map (fun i => (i.zero, i.size, i.bytes)) = some (some (.int .u8 0), 1, 1) := by kernel_rfl

/-- A row of bytes as a string. -/
theorem row_string {w : World} {h n : Nat} {xs : List Int} (r : Row w h 5 (xs.map (Value.int .u8))) (hn : xs.length = n) :
    (convert 44 9 (.slice (some ⟨h, 0, none⟩) n n)).run Tryz.prog w = .ok (.string (strOfNums xs)) w :=
  run_convert_bytes_arg w 44 5 Tryz.underlying44 Tryz.underlying5 h 0 n n xs hn (fun i hi => by
    rw [Nat.zero_add, r.cell]
    simp [List.getD, List.getElem?_eq_getElem (show i < xs.length by omega)]) 9 Tryz.underlying9
end Go.Proofs.YtcjebpplmoakkaaGreatDoor
