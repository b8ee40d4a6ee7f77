/- Merged texts: Row Shape Reg. -/
import Derived.Test.YtjekpbkmhgfhoaaGreatDoorGBase06
import Derived.Test.YtjekpbkmhgfhoaaGreatDoorGBase03
import Derived.OwnWalk
import Derived.Laws.BytesArg
section
/- Rows: a block that is known whole, as a list of cells; made, read, written; bytes. -/
namespace Go.Proofs.YtjekpbkmhgfhoaaGreatDoor
open Go Go.RowKit
set_option maxRecDepth 100000

/-- Block h is the cells cs, none frozen. -/
def Row (w : World) (h : Nat) (t : TypeId) (cs : List Value) : Prop := w.heap[h]? = some (.cells cs.toArray t (0, 0))
section
variable {w w' : World} {h : Nat} {t : TypeId} {cs : List Value}
theorem Row.lt (r : Row w h t cs) : h < w.heap.size := (Array.getElem?_eq_some_iff.1 r).1
theorem Row.keep (r : Row w h t cs) (hb : w'.heap[h]? = w.heap[h]?) : Row w' h t cs := hb.trans r
theorem Row.below (r : Row w h t cs) (hb : Below w.heap.size w w') : Row w' h t cs := r.keep (hb.block h r.lt)
theorem Row.touch {S : Nat → Prop} (r : Row w h t cs) (ht : Touch S w w') (hn : ¬ S h) : Row w' h t cs := r.keep (ht.block h r.lt hn)
theorem Row.alloc (r : Row w h t cs) (o : Obj) : Row (w.alloc o) h t cs := r.below (bl_alloc (Below.refl _ _) o)
theorem Row.new (w : World) (t : TypeId) (cs : List Value) : Row (w.alloc (.cells cs.toArray t)) w.heap.size t cs := by
  show (w.heap.push _)[w.heap.size]? = _
  rw [Array.getElem?_push]; simp
theorem Row.cell (r : Row w h t cs) (i : Nat) : w.cell? ⟨h, i, none⟩ = cs[i]? := by
  simp [World.cell?, show w.heap[h]? = some (.cells cs.toArray t (0, 0)) from r]
theorem Row.cell' (r : Row w h t cs) {i : Nat} {v : Value} (hv : cs[i]? = some v) : w.cell? ⟨h, i, none⟩ = some v := (r.cell i).trans hv
theorem Row.froz (r : Row w h t cs) (i : Nat) : w.frozen? ⟨h, i, none⟩ = false := by
  simp [World.frozen?, show w.heap[h]? = some (.cells cs.toArray t (0, 0)) from r]
theorem Row.set (r : Row w h t cs) (i : Nat) (v : Value) : Row (w.setCell ⟨h, i, none⟩ v) h t (cs.set i v) := by
  simp [Row, World.setCell, Array.getElem?_modify, show w.heap[h]? = some (.cells cs.toArray t (0, 0)) from r]
theorem Row.other (r : Row w h t cs) {p : Addr} (hp : h ≠ p.block) (v : Value) : Row (w.setCell p v) h t cs := r.keep (Below.heap_setCell _ _ _ _ hp)
theorem Row.of_owns {base n : Nat} {xs : List Value} (ho : w.ownsRow base t 1 (.slice (some ⟨h, 0, none⟩) n n) n xs) : Row w h t xs := by
  obtain ⟨_, ⟨hv, _⟩ | ⟨g, cap, cur, hv, _, hb, _, _, hs, hx⟩⟩ := ho
  · cases hv
  · cases hv
    rw [List.take_of_length_le (by simp [hs])] at hx
    show _ = _
    rw [hb, ← hx]
end

theorem madeCells_one (z : Value) (n : Nat) : (madeCells #[z] n).toList = List.replicate n z := by
  apply List.ext_getElem?
  intro i
  by_cases hi : i < n
  · simp [madeCells, hi, Nat.mod_one]
  · simp [madeCells, hi]

/-- 'make([]T, n)' at elements of one cell. -/
theorem wpList_mk {P : Program} (w : World) {ops : Array Oper} {rest : List Oper} {o : Oper} {a : Act} {Q : Exit → Act → World → Prop}
    (hg : o.guard = none) (l c : Operand) (t : TypeId) (hop : o.op = Op.makeSlice t l c) (e : TypeId) (z : Value) (bytes : Nat) (h1 : P.underlying t = some (.slice e))
    (hi : (P.info? e).map (fun i => (i.zero, i.size, i.bytes)) = some (some z, 1, bytes)) (hz : z.cells = #[z]) (n : Nat) (hl : a.eval l = .int .i64 n) (hc : a.eval c = .int .i64 n) (b2 : bytes * n ≤ 281474976710656) (b3 : n ≤ maxLen)
    (hK : ∀ w', Row w' w.heap.size e (List.replicate n z) → Below w.heap.size w w' → wpList P ops Q rest (a.put o.dst (.slice (some ⟨w.heap.size, 0, none⟩) n n)) w') :
    wpList P ops Q (o :: rest) a w := by
  obtain ⟨i, hi0, hi1, hi2, hi3⟩ := info_parts hi
  refine wpList_make_full w hg l c t hop w.heap.size e i z 1 h1 hi0 hi1 hi2 .i64 .i64 n n n hl hc rfl rfl (by rw [hi3]; exact b2) b3 (Nat.le_refl _) fun w' r1 r2 => ?_
  refine hK w' ?_ ((Below.refl _ _).grown r2 (Nat.le_refl _) (fun _ h => by cases h))
  rw [hz, Nat.mul_one, madeCells_one] at r1
  exact Row.of_owns r1

/-- Block h begins with xs, has cap cells, none frozen. -/
def Buf (w : World) (h : Nat) (t : TypeId) (cap : Nat) (xs : List Value) : Prop := ∃ cur, w.heap[h]? = some (.cells cur t (0, 0)) ∧ cur.size = cap ∧ cur.toList.take xs.length = xs
section
variable {w w' : World} {h cap : Nat} {t : TypeId} {xs : List Value}
theorem Row.buf (r : Row w h t xs) : Buf w h t xs.length xs := ⟨_, r, by simp, by simp⟩
theorem Buf.lt (r : Buf w h t cap xs) : h < w.heap.size := by obtain ⟨_, h1, _⟩ := r; exact (Array.getElem?_eq_some_iff.1 h1).1
end
/-- What append leaves. -/
def SlBuf (w : World) (base : Nat) (t : TypeId) (v : Value) (xs : List Value) : Prop :=
  (v = .slice none 0 0 ∧ xs = []) ∨ ∃ h cap, v = .slice (some ⟨h, 0, none⟩) xs.length cap ∧ base ≤ h ∧ Buf w h t cap xs ∧ cap ≤ maxLen
theorem SlBuf.of_owns {w : World} {base : Nat} {t : TypeId} {v : Value} {n : Nat} {xs : List Value} (h : w.ownsRow base t 1 v n xs) : SlBuf w base t v xs := by
  obtain ⟨hl, ⟨rfl, rfl⟩ | ⟨g, cap, cur, rfl, hb, hg, hn, hc, hs, hx⟩⟩ := h
  · exact .inl ⟨rfl, List.eq_nil_of_length_eq_zero (by omega)⟩
  · rw [Nat.mul_one] at hl hx hs
    subst hl
    exact .inr ⟨g, cap, rfl, hb, ⟨cur, hg, hs, hx⟩, hc⟩
theorem u8_info : (Tryz.prog.info? 5).map (fun i => (i.zero, i.size, i.bytes)) = some (some (.int .u8 0), 1, 1) := by kernel_rfl

end Go.Proofs.YtjekpbkmhgfhoaaGreatDoor
end

section
/- A relation between worlds for drawn regions that make a block and write it: below a base nothing is written, and each block of cells keeps its shape. -/
namespace Go.Proofs.YtjekpbkmhgfhoaaGreatDoor
open Go Go.RowKit
set_option maxRecDepth 100000

/-- Block c is k cells, none frozen. -/
def IsBlk (k : Nat) (w : World) (c : Nat) : Prop := ∃ cs t, cs.size = k ∧ w.heap[c]? = some (.cells cs t (0, 0))
/-- From w to w': nothing below base is written; blocks of cells stay such. -/
structure Shp (base : Nat) (w w' : World) : Prop where
  bel : Below base w w'
  blk : ∀ c k, IsBlk k w c → IsBlk k w' c

variable {base : Nat} {a w w' : World}
theorem Shp.refl (base : Nat) (w : World) : Shp base w w := ⟨Below.refl _ _, fun _ _ h => h⟩
theorem Shp.trans {b : World} (h : Shp base a b) (k : Shp base b w) : Shp base a w := ⟨h.bel.trans k.bel, fun c n hc => k.blk c n (h.blk c n hc)⟩
theorem IsBlk.lt {k c : Nat} (h : IsBlk k w c) : c < w.heap.size := by
  obtain ⟨cs, t, _, h⟩ := h
  exact (Array.getElem?_eq_some_iff.1 h).1
theorem Shp.of_below (hb : Below w.heap.size w w') (h : base ≤ w.heap.size) : Shp base w w' :=
  ⟨hb.mono h, fun c k hc => by obtain ⟨cs, t, h1, h2⟩ := hc; exact ⟨cs, t, h1, (hb.block c (IsBlk.lt ⟨cs, t, h1, h2⟩)).trans h2⟩⟩
theorem Shp.alloc (h : Shp base a w) (hB : base ≤ a.heap.size) (o : Obj) : Shp base a (w.alloc o) :=
  h.trans (Shp.of_below (bl_alloc (Below.refl _ _) o) (Nat.le_trans hB h.bel.size))
theorem IsBlk.new (w : World) (cs : Array Value) (t : TypeId) : IsBlk cs.size (w.alloc (.cells cs t)) w.heap.size := ⟨cs, t, rfl, by show (w.heap.push _)[w.heap.size]? = _; rw [Array.getElem?_push]; simp⟩
theorem IsBlk.new' (w : World) (cs : Array Value) (t : TypeId) {k : Nat} (h : cs.size = k) : IsBlk k (w.alloc (.cells cs t)) w.heap.size := h ▸ IsBlk.new w cs t
theorem IsBlk.setCell {k c : Nat} (h : IsBlk k w c) (p : Addr) (u : Value) : IsBlk k (w.setCell p u) c := by
  obtain ⟨cs, t, h1, h2⟩ := h
  by_cases hc : c = p.block
  · subst hc
    refine ⟨if p.spot.isSome then cs else cs.setIfInBounds p.off u, t, by split <;> simp [h1], ?_⟩
    simp [World.setCell, Array.getElem?_modify, h2]
  · exact ⟨cs, t, h1, (Below.heap_setCell _ _ _ _ hc).trans h2⟩
theorem Shp.setCell (h : Shp base a w) {p : Addr} (hp : base ≤ p.block) (u : Value) : Shp base a (w.setCell p u) :=
  ⟨h.bel.setCell hp u, fun c k hc => (h.blk c k hc).setCell p u⟩
theorem Shp.drew (h : Shp base a w) : Shp base a w.drew := ⟨h.bel.drew, h.blk⟩
theorem IsBlk.cell {k c : Nat} (h : IsBlk k w c) {i : Nat} (hi : i < k) : ∃ v, w.cell? ⟨c, i, none⟩ = some v := by
  obtain ⟨cs, t, h1, h2⟩ := h
  exact ⟨cs[i]'(by omega), by simp [World.cell?, h2, h1, hi]⟩
theorem IsBlk.froz {k c : Nat} (h : IsBlk k w c) (i : Nat) : w.frozen? ⟨c, i, none⟩ = false := by
  obtain ⟨cs, t, _, h2⟩ := h
  simp [World.frozen?, h2]

/-- A pointer to a block of k cells from base on. -/
def PtBlk (base k : Nat) (v : Value) (w : World) : Prop := ∃ c, v = .pointer (some ⟨c, 0, none⟩) ∧ base ≤ c ∧ IsBlk k w c
theorem ptBlk_keep {base k : Nat} (v : Value) (w w' : World) (h : PtBlk base k v w) (hs : Shp base w w') : PtBlk base k v w' := by
  obtain ⟨c, h1, h2, h3⟩ := h
  exact ⟨c, h1, h2, hs.blk c k h3⟩

theorem giv_look {P : Program} {o : Oper} {a : Act} {w : World} {R : Value → World → Prop} (m x : Operand) (t : TypeId) (c : Bool) (hop : o.op = Op.lookup t m x c) {v : Value}
    (hrun : (Instr.lookup t (a.eval m) (a.eval x) c).run P w = .ok v w) (hR : R v w) : giv P o a w R := by
  unfold giv
  simp [execOp, hop, hrun, Result.andThen]
  exact hR
end Go.Proofs.YtjekpbkmhgfhoaaGreatDoor
end

section
/- A relation between worlds for drawn regions that ask for a value of several cells and lay it into a new block: below a base nothing is written, blocks keep their shape, and a block that holds the value keeps it. -/
namespace Go.Proofs.YtjekpbkmhgfhoaaGreatDoor
open Go Go.RowKit
set_option maxRecDepth 100000
set_option linter.unusedSimpArgs false
set_option linter.unusedVariables false

/-- Block c is k cells of type t, none frozen. -/
def TyB (k : Nat) (t : TypeId) (w : World) (c : Nat) : Prop := ∃ cs : Array Value, cs.size = k ∧ w.heap[c]? = some (.cells cs t (0, 0))
structure ShH (base : Nat) (vals : List Value) (t : TypeId) (w w' : World) : Prop where
  bel : Below base w w'
  blk : ∀ c, TyB vals.length t w c → TyB vals.length t w' c
  hold : ∀ c, Row w c t vals → Row w' c t vals
variable {base : Nat} {vals : List Value} {t : TypeId} {a w w' : World}
theorem ShH.refl (base : Nat) (vals : List Value) (t : TypeId) (w : World) : ShH base vals t w w := ⟨Below.refl _ _, fun _ h => h, fun _ h => h⟩
theorem ShH.trans {b : World} (h : ShH base vals t a b) (k : ShH base vals t b w) : ShH base vals t a w := ⟨h.bel.trans k.bel, fun c hc => k.blk c (h.blk c hc), fun c hc => k.hold c (h.hold c hc)⟩
theorem ShH.drew (h : ShH base vals t a w) : ShH base vals t a w.drew := ⟨h.bel.drew, h.blk, h.hold⟩
theorem TyB.lt {k c : Nat} (h : TyB k t w c) : c < w.heap.size := by
  obtain ⟨cs, _, h⟩ := h
  exact (Array.getElem?_eq_some_iff.1 h).1
theorem ShH.of_below (hb : Below w.heap.size w w') (h : base ≤ w.heap.size) : ShH base vals t w w' :=
  ⟨hb.mono h, fun c hc => by obtain ⟨cs, h1, h2⟩ := hc; exact ⟨cs, h1, (hb.block c (TyB.lt ⟨cs, h1, h2⟩)).trans h2⟩, fun c hc => hc.below hb⟩
theorem TyB.new (w : World) (cs : Array Value) (t : TypeId) {k : Nat} (h : cs.size = k) : TyB k t (w.alloc (.cells cs t)) w.heap.size := ⟨cs, h, by show (w.heap.push _)[w.heap.size]? = _; rw [Array.getElem?_push]; simp⟩
theorem TyB.cell {k c : Nat} (h : TyB k t w c) {i : Nat} (hi : i < k) : ∃ v, w.cell? ⟨c, i, none⟩ = some v := by
  obtain ⟨cs, h1, h2⟩ := h
  exact ⟨cs[i]'(by omega), by simp [World.cell?, h2, h1, hi]⟩
theorem TyB.froz {k c : Nat} (h : TyB k t w c) (i : Nat) : w.frozen? ⟨c, i, none⟩ = false := by
  obtain ⟨cs, _, h2⟩ := h
  simp [World.frozen?, h2]
/-- A block's cells written, from one on. -/
def setAll (w : World) (c : Nat) : Nat → List Value → World
  | _, [] => w
  | i, v :: l => setAll (w.setCell ⟨c, i, none⟩ v) c (i + 1) l
def putAll (cs : Array Value) : Nat → List Value → Array Value
  | _, [] => cs
  | i, v :: l => putAll (cs.setIfInBounds i v) (i + 1) l
theorem setAll_heap {c : Nat} : ∀ (l : List Value) (w : World) (cs : Array Value) (i : Nat), w.heap[c]? = some (.cells cs t (0, 0)) → (setAll w c i l).heap[c]? = some (.cells (putAll cs i l) t (0, 0))
  | [], _, _, _, h => h
  | v :: l, w, cs, i, h => setAll_heap l _ _ _ (by simp [World.setCell, Array.getElem?_modify, h])
theorem setAll_other {c x : Nat} (hx : x ≠ c) : ∀ (l : List Value) (w : World) (i : Nat), (setAll w c i l).heap[x]? = w.heap[x]?
  | [], _, _ => rfl
  | v :: l, w, i => (setAll_other hx l _ _).trans (Below.heap_setCell _ _ _ _ hx)
theorem setAll_below {c : Nat} (hc : base ≤ c) : ∀ (l : List Value) (w : World) (i : Nat), Below base w (setAll w c i l)
  | [], _, _ => Below.refl _ _
  | v :: l, w, i => (Below.setCell (Below.refl _ _) hc v).trans (setAll_below hc l _ _)
theorem putAll_list : ∀ (l : List Value) (cs : Array Value) (i : Nat), i + l.length = cs.size → (putAll cs i l).toList = cs.toList.take i ++ l
  | [], cs, i, h => by
    show cs.toList = _
    rw [List.take_of_length_le (by simp at h ⊢; omega)]; simp
  | v :: l, cs, i, h => by
    have hl : i < cs.toList.length := by simp at h ⊢; omega
    show (putAll (cs.setIfInBounds i v) (i + 1) l).toList = _
    rw [putAll_list l _ _ (by simp at h ⊢; omega), Array.toList_setIfInBounds, List.take_succ_eq_append_getElem (by simpa using hl), List.take_set_of_le (Nat.le_refl _)]
    simp
theorem setAll_row {c : Nat} (h : TyB vals.length t w c) : Row (setAll w c 0 vals) c t vals := by
  obtain ⟨cs, h1, h2⟩ := h
  have h3 := setAll_heap vals w cs 0 h2
  have h4 := putAll_list vals cs 0 (by omega)
  show _ = _
  rw [h3]
  have h5 : (putAll cs 0 vals).toList = vals := by simpa using h4
  have h6 : putAll cs 0 vals = vals.toArray := Array.toList_inj.1 (by rw [h5])
  rw [h6]
theorem ShH.setAll {c : Nat} (h : TyB vals.length t w c) (hc : base ≤ c) : ShH base vals t w (setAll w c 0 vals) := by
  refine ⟨setAll_below hc _ _ _, fun x hx => ?_, fun x hx => ?_⟩
  · by_cases he : x = c
    · subst he
      obtain ⟨cs, h1, h2⟩ := hx
      exact ⟨vals.toArray, by simp, setAll_row h⟩
    · obtain ⟨cs, h1, h2⟩ := hx
      exact ⟨cs, h1, (setAll_other he _ _ _).trans h2⟩
  · by_cases he : x = c
    · subst he; exact setAll_row h
    · exact hx.keep (setAll_other he _ _ _)
/-- A pointer to a block of k cells from base on. -/
def PtTy (base k : Nat) (t : TypeId) (v : Value) (w : World) : Prop := ∃ c, v = .pointer (some ⟨c, 0, none⟩) ∧ base ≤ c ∧ TyB k t w c
theorem ptTy_keep (v : Value) (w w' : World) (h : PtTy base vals.length t v w) (hs : ShH base vals t w w') : PtTy base vals.length t v w' := by
  obtain ⟨c, h1, h2, h3⟩ := h
  exact ⟨c, h1, h2, hs.blk c h3⟩
/-- .. that holds the value. -/
def PtRow (base : Nat) (vals : List Value) (t : TypeId) (p : Value) (w : World) : Prop := ∃ c, p = .pointer (some ⟨c, 0, none⟩) ∧ base ≤ c ∧ Row w c t vals
theorem ptRow_keep (p : Value) (w w' : World) (h : PtRow base vals t p w) (hs : ShH base vals t w w') : PtRow base vals t p w' := by
  obtain ⟨c, h1, h2, h3⟩ := h
  exact ⟨c, h1, h2, hs.hold c h3⟩
theorem ptRow_mk {c : Nat} (h : TyB vals.length t w c) (hc : base ≤ c) : PtRow base vals t (.pointer (some ⟨c, 0, none⟩)) (Go.Proofs.YtjekpbkmhgfhoaaGreatDoor.setAll w c 0 vals) := ⟨c, rfl, hc, setAll_row h⟩
end Go.Proofs.YtjekpbkmhgfhoaaGreatDoor
end
