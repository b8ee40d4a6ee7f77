/- Slices whose elements are several cells each: what the call's own appends leave, what can be read; slicing; append as one law. -/
import Derived.Test.YtcjebpplmoakkaaGreatDoorRow
import Derived.Laws.AppendOwn
import Derived.Laws.AppendOwnNone
namespace Go.Proofs.YtcjebpplmoakkaaGreatDoor
open Go Go.RowKit
set_option maxRecDepth 100000

/-- The slice type t has elements of type e, k cells each, encoded by enc. -/
structure ElemT {α : Type} (P : Program) (t e : TypeId) (k bytes : Nat) (enc : α → List Value) : Prop where
  ht : P.underlying t = some (.slice e)
  info : ∃ z : Value, z.cells.size = k ∧ (P.info? e).map (fun i => (i.zero, i.size, i.bytes)) = some (some z, k, bytes)
  len : ∀ x, (enc x).length = k
  one : ∀ x, ∀ u ∈ enc x, u.oneCell' = true
  pos : 0 < k

def flat {α : Type} (enc : α → List Value) (xs : List α) : List Value := xs.flatMap enc

section
variable {α : Type} {enc : α → List Value} {k : Nat}
theorem flat_nil : flat enc ([] : List α) = [] := rfl
theorem flat_cons (x : α) (xs : List α) : flat enc (x :: xs) = enc x ++ flat enc xs := rfl
theorem flat_append (xs ys : List α) : flat enc (xs ++ ys) = flat enc xs ++ flat enc ys := List.flatMap_append
theorem flat_len (h : ∀ x, (enc x).length = k) (xs : List α) : (flat enc xs).length = xs.length * k := by
  induction xs with
  | nil => simp [flat]
  | cons x xs ih => rw [flat_cons, List.length_append, ih, h, List.length_cons, Nat.add_mul]; omega
theorem flat_get (h : ∀ x, (enc x).length = k) : ∀ (xs : List α) (i j : Nat), i < xs.length → j < k → (flat enc xs)[i * k + j]? = xs[i]?.bind fun x => (enc x)[j]?
  | [], i, j, hi, _ => by simp at hi
  | x :: xs, 0, j, _, hj => by
    rw [flat_cons, Nat.zero_mul, Nat.zero_add, List.getElem?_append_left (by rw [h]; exact hj)]
    rfl
  | x :: xs, i + 1, j, hi, hj => by
    have hi' : i < xs.length := by simpa using hi
    rw [flat_cons, List.getElem?_append_right (by rw [h, Nat.add_mul]; omega), h, show (i + 1) * k + j - k = i * k + j by rw [Nat.add_mul]; omega, flat_get h xs i j hi' hj]
    rfl
theorem flat_set (h : ∀ x, (enc x).length = k) : ∀ (xs : List α) (i j : Nat) (x y : α) (u : Value), xs[i]? = some x → j < k → enc y = (enc x).set j u → (flat enc xs).set (i * k + j) u = flat enc (xs.set i y)
  | [], i, j, x, y, u, hi, _, _ => by simp at hi
  | x' :: xs, 0, j, x, y, u, hi, hj, he => by
    obtain rfl : x' = x := by simpa using hi
    rw [List.set_cons_zero, flat_cons, flat_cons, Nat.zero_mul, Nat.zero_add, List.set_append_left _ _ (by rw [h]; exact hj), he]
  | x' :: xs, i + 1, j, x, y, u, hi, hj, he => by
    have hi' : xs[i]? = some x := by simpa using hi
    rw [List.set_cons_succ, flat_cons, flat_cons, List.set_append_right _ _ (by rw [h, Nat.add_mul]; omega), h, show (i + 1) * k + j - k = i * k + j by rw [Nat.add_mul]; omega, flat_set h xs i j x y u hi' hj he]
end

/-- v holds xs, in a block of the call's own from base on (or nil). -/
def SlE {α : Type} (w : World) (base : Nat) (e : TypeId) (k : Nat) (enc : α → List Value) (v : Value) (xs : List α) : Prop := w.ownsRow base e k v xs.length (flat enc xs)

/-- v reads as xs. -/
def RdE {α : Type} (w : World) (k : Nat) (enc : α → List Value) (v : Value) (xs : List α) : Prop :=
  ∃ sp cap, v = .slice sp xs.length cap ∧ xs.length ≤ cap ∧ (sp = none → cap = 0) ∧
    (xs ≠ [] → ∃ h off, sp = some ⟨h, off, none⟩ ∧ h < w.heap.size ∧ ∀ i j, i < xs.length → j < k → w.cell? ⟨h, off + i * k + j, none⟩ = xs[i]?.bind fun x => (enc x)[j]?)

section
variable {α : Type} {w w' : World} {base : Nat} {e : TypeId} {k : Nat} {enc : α → List Value} {v : Value} {xs : List α}

theorem SlE.nil (w : World) (base : Nat) (e : TypeId) (k : Nat) (enc : α → List Value) : SlE w base e k enc (.slice none 0 0) [] := World.ownsRow_nil w base e k
theorem SlE.mono {base' : Nat} (h : SlE w base e k enc v xs) (hb : base' ≤ base) : SlE w base' e k enc v xs := by
  obtain ⟨h1, h2⟩ := h
  refine ⟨h1, ?_⟩
  rcases h2 with h | ⟨g, cap, cur, h3, h4, h5⟩
  · exact .inl h
  · exact .inr ⟨g, cap, cur, h3, Nat.le_trans hb h4, h5⟩
theorem SlE.lt (h : SlE w base e k enc v xs) : ∀ x, v.ownBlock = some x → base ≤ x ∧ x < w.heap.size := World.ownsRow.lt h
/-- Its shape. -/
theorem SlE.cases (h : SlE w base e k enc v xs) : (v = .slice none 0 0 ∧ xs = []) ∨ ∃ g cap, v = .slice (some ⟨g, 0, none⟩) xs.length cap ∧ base ≤ g ∧ g < w.heap.size ∧ xs.length ≤ cap ∧ cap ≤ maxLen := by
  obtain ⟨h1, h2⟩ := h
  rcases h2 with ⟨h3, h4⟩ | ⟨g, cap, cur, h3, h4, h5, h6, h7, _⟩
  · exact .inl ⟨h3, List.eq_nil_of_length_eq_zero h4⟩
  · exact .inr ⟨g, cap, h3, h4, (Array.getElem?_eq_some_iff.1 h5).1, h6, h7⟩
theorem SlE.touch {S : Nat → Prop} (h : SlE w base e k enc v xs) (ht : Touch S w w') (hn : ∀ x, v.ownBlock = some x → ¬ S x) : SlE w' base e k enc v xs := by
  obtain ⟨h1, h2⟩ := h
  refine ⟨h1, ?_⟩
  rcases h2 with h | ⟨g, cap, cur, rfl, h4, h5, h6⟩
  · exact .inl h
  · exact .inr ⟨g, cap, cur, rfl, h4, (ht.block g (Array.getElem?_eq_some_iff.1 h5).1 (hn g rfl)).trans h5, h6⟩
theorem SlE.below (h : SlE w base e k enc v xs) (hb : Below w.heap.size w w') : SlE w' base e k enc v xs := h.touch (Touch.of_below hb NoB) (fun _ _ h => h)
theorem SlE.rd (h : SlE w base e k enc v xs) (hl : ∀ x, (enc x).length = k) : RdE w k enc v xs := by
  have h0 := h
  obtain ⟨h1, h2⟩ := h
  rcases h2 with ⟨rfl, h4⟩ | ⟨g, cap, cur, rfl, h4, h5, h6, h7, h8, h9⟩
  · have : xs = [] := List.eq_nil_of_length_eq_zero h4
    subst this
    exact ⟨none, 0, rfl, Nat.le_refl _, fun _ => rfl, fun h => (h rfl).elim⟩
  · refine ⟨_, cap, rfl, h6, fun h => (by cases h), fun _ => ⟨g, 0, rfl, (Array.getElem?_eq_some_iff.1 h5).1, fun i j hi hj => ?_⟩⟩
    rw [Nat.zero_add, ← flat_get hl xs i j hi hj]
    have hlt : i * k + j < (flat enc xs).length := by
      rw [flat_len hl]
      calc i * k + j < i * k + k := by omega
        _ = (i + 1) * k := by rw [Nat.add_mul]; omega
        _ ≤ xs.length * k := Nat.mul_le_mul_right _ hi
    have := World.ownsRow.cells h0 (g := g) rfl (i * k + j) ((flat enc xs)[i * k + j]) (List.getElem?_eq_getElem hlt)
    rw [show (⟨g, 0, none⟩ : Addr).add (i * k + j) = ⟨g, i * k + j, none⟩ by unfold Addr.add; split <;> simp_all] at this
    rw [this, List.getElem?_eq_getElem hlt]
theorem SlE.froz (h : SlE w base e k enc v xs) {g : Nat} (hg : v.ownBlock = some g) (o : Nat) : w.frozen? ⟨g, o, none⟩ = false := by
  rcases h.2 with ⟨rfl, _⟩ | ⟨g', cap, cur, rfl, _, h5, _⟩
  · simp [Value.ownBlock] at hg
  · simp [Value.ownBlock] at hg
    subst hg
    simp [World.frozen?, h5]
/-- An element's cell written. -/
theorem SlE.set (h : SlE w base e k enc v xs) (hl : ∀ x, (enc x).length = k) {g : Nat} (hg : v.ownBlock = some g) {i j : Nat} {x y : α} {u : Value} (hi : xs[i]? = some x) (hj : j < k) (he : enc y = (enc x).set j u) :
    SlE (w.setCell ⟨g, i * k + j, none⟩ u) base e k enc v (xs.set i y) := by
  obtain ⟨h1, h2⟩ := h
  have hf := flat_set hl xs i j x y u hi hj he
  refine ⟨by rw [flat_len hl], ?_⟩
  rcases h2 with ⟨rfl, _⟩ | ⟨g', cap, cur, rfl, h4, h5, h6, h7, h8, h9⟩
  · simp [Value.ownBlock] at hg
  · simp [Value.ownBlock] at hg
    subst hg
    refine .inr ⟨g', cap, cur.setIfInBounds (i * k + j) u, by simp, h4, by simp [World.setCell, Array.getElem?_modify, h5], by simpa using h6, h7, by simpa using h8, ?_⟩
    rw [Array.toList_setIfInBounds, List.length_set, List.take_set, h9, hf]
/-- A block of the call's own that is one element. -/
theorem RdE.one {h : Nat} {t : TypeId} {x : α} (r : Row w h t (enc x)) : RdE w k enc (.slice (some ⟨h, 0, none⟩) 1 1) [x] := by
  refine ⟨_, 1, rfl, Nat.le_refl _, fun h => (by cases h), fun _ => ⟨h, 0, rfl, r.lt, fun i j hi _ => ?_⟩⟩
  have : i = 0 := by simpa using hi
  subst this
  simp [r.cell]
/-- A block of the call's own that is some elements. -/
theorem RdE.ofRow {h : Nat} {t : TypeId} (r : Row w h t (flat enc xs)) (hl : ∀ x, (enc x).length = k) : RdE w k enc (.slice (some ⟨h, 0, none⟩) xs.length xs.length) xs := by
  refine ⟨_, _, rfl, Nat.le_refl _, fun h => (by cases h), fun _ => ⟨h, 0, rfl, r.lt, fun i j hi hj => ?_⟩⟩
  rw [Nat.zero_add, r.cell, flat_get hl xs i j hi hj]
theorem RdE.touch {S : Nat → Prop} (r : RdE w k enc v xs) (ht : Touch S w w') (hn : ∀ x, v.ownBlock = some x → ¬ S x) : RdE w' k enc v xs := by
  obtain ⟨sp, cap, rfl, h1, h2, h3⟩ := r
  refine ⟨sp, cap, rfl, h1, h2, fun hx => ?_⟩
  obtain ⟨h, off, rfl, h5, h6⟩ := h3 hx
  have hb := ht.block h h5 (hn h rfl)
  exact ⟨h, off, rfl, Nat.lt_of_lt_of_le h5 ht.size, fun i j hi hj => (World.cell?_of_block (w := w) hb).trans (h6 i j hi hj)⟩
theorem RdE.below (r : RdE w k enc v xs) (hb : Below w.heap.size w w') : RdE w' k enc v xs := r.touch (Touch.of_below hb NoB) (fun _ _ h => h)
theorem RdE.sliced {sp : Option Addr} {n cap : Nat} (r : RdE w k enc (.slice sp n cap) xs) {l h : Nat} (hlh : l ≤ h) (hh : h ≤ xs.length) : RdE w k enc (Go.sliced sp l h cap k) ((xs.drop l).take (h - l)) := by
  obtain ⟨sp', cap', he, h1, h2, h3⟩ := r
  injection he with e1 e2 e3
  subst e1 e2 e3
  have hlen : ((xs.drop l).take (h - l)).length = h - l := by simp; omega
  refine ⟨_, cap - l, by rw [hlen]; rfl, by rw [hlen]; omega, fun hn => ?_, fun hx => ?_⟩
  · cases sp with
    | none => rw [h2 rfl]; omega
    | some a => split at hn <;> simp at hn
  · have hne : xs ≠ [] := by rintro rfl; simp at hx
    have hlt : l < h := by
      rcases Nat.lt_or_ge l h with h' | h'
      · exact h'
      · exfalso; apply hx; rw [show h - l = 0 by omega, List.take_zero]
    obtain ⟨b, off, rfl, h5, h6⟩ := h3 hne
    refine ⟨b, off + l * k, ?_, h5, fun i j hi hj => ?_⟩
    · rw [if_neg (by omega)]
      simp only [Option.map_some, Addr.add]
      split
      · rename_i h0; rw [h0]; rfl
      · rfl
    · rw [hlen] at hi
      have := h6 (l + i) j (by omega) hj
      rw [Nat.add_mul, ← Nat.add_assoc] at this
      rw [this, List.getElem?_take, if_pos hi, List.getElem?_drop]
theorem RdE.len {sp : Option Addr} {n cap : Nat} (r : RdE w k enc (.slice sp n cap) xs) : n = xs.length ∧ n ≤ cap := by
  obtain ⟨sp', cap', he, h1, h2, h3⟩ := r
  injection he with e1 e2 e3
  subst e1 e2 e3
  exact ⟨rfl, h1⟩
end

theorem Touch.of_grown {w w' : World} {row : Option Nat} (h : w.grownBy w' row) : Touch (fun x => row = some x) w w' := ⟨h.os, h.tape, h.output, h.size, fun x hx hn => h.block x hx (fun e => hn e.symm)⟩

/-- 'append(s, x...)'. -/
theorem wpList_app {α : Type} {P : Program} {w : World} {ops : Array Oper} {rest : List Oper} {o : Oper} {a : Act} {Q : Exit → Act → World → Prop} {t e : TypeId} {k bytes : Nat} {enc : α → List Value} (E : ElemT P t e k bytes enc) (hgd : o.guard = none) (s x : Operand)
    (ho : o.op = .call { callee := .builtin .append, args := #[s, x], argTypes := #[t, t] }) {base : Nat} {v u : Value} {xs ys : List α} (hs : a.eval s = v) (hown : SlE w base e k enc v xs) (hx : a.eval x = u) (hrd : RdE w k enc u ys)
    (hm : xs.length + ys.length ≤ maxLen) (hn : (xs.length + ys.length) * bytes ≤ 140737488355328) (hbase : base ≤ w.heap.size)
    (h : ∀ v' w', SlE w' base e k enc v' (xs ++ ys) → Touch (fun x => v.ownBlock = some x) w w' → wpList P ops Q rest (a.put o.dst v') w') : wpList P ops Q (o :: rest) a w := by
  obtain ⟨z, hz, hinf⟩ := E.info
  obtain ⟨i, i1, i2, i3, i4⟩ := info_parts hinf
  obtain ⟨sp, cap, rfl, h1, h2, h3⟩ := hrd
  cases sp with
  | none =>
    have hc := h2 rfl
    subst hc
    have hy : ys = [] := List.eq_nil_of_length_eq_zero (by omega)
    subst hy
    refine wpList_append_own_none hgd s x t ho base e i k E.ht i1 v xs.length (flat enc xs) hs hown hx (h v w ?_ (Touch.refl _ _))
    rw [List.append_nil]
    exact hown
  | some ad =>
    refine wpList_append_own w hgd s x t ho base e i z k bytes E.ht i1 i2 i3 i4 hz E.pos v xs.length (flat enc xs) hs hown ad ys.length cap (flat enc ys) hx (flat_len E.len ys) ?_ ?_ hm hn hbase ?_
    · intro j y hj
      have hjl : j < ys.length * k := by
        rw [← flat_len E.len ys]
        exact (List.getElem?_eq_some_iff.1 hj).1
      have hyn : ys ≠ [] := by rintro rfl; simp at hjl
      obtain ⟨b, off, hsp, h5, h6⟩ := h3 hyn
      cases hsp
      have hk := E.pos
      have hd : j / k < ys.length := (Nat.div_lt_iff_lt_mul hk).2 hjl
      have hmod : j % k < k := Nat.mod_lt _ hk
      have hj2 : j / k * k + j % k = j := by rw [Nat.mul_comm]; exact Nat.div_add_mod j k
      rw [show (⟨b, off, none⟩ : Addr).add j = ⟨b, off + j, none⟩ by unfold Addr.add; split <;> simp_all]
      have := h6 (j / k) (j % k) hd hmod
      rw [Nat.add_assoc, hj2, ← flat_get E.len ys _ _ hd hmod, hj2] at this
      rw [this, hj]
    · intro y hy
      obtain ⟨x, _, hx⟩ := List.mem_flatMap.1 hy
      exact E.one x y hx
    · intro v' w' h7 h8 _
      refine h v' w' ?_ (Touch.of_grown h8)
      show w'.ownsRow base e k v' (xs ++ ys).length (flat enc (xs ++ ys))
      rw [flat_append, List.length_append]
      exact h7
/-- 'make([]T, 0, n)'. -/
theorem wpList_mk0 {α : Type} {P : Program} {w : World} {ops : Array Oper} {rest : List Oper} {o : Oper} {a : Act} {Q : Exit → Act → World → Prop} {t e : TypeId} {k bytes : Nat} {enc : α → List Value} (E : ElemT P t e k bytes enc) (hgd : o.guard = none) (l c : Operand)
    (hop : o.op = Op.makeSlice t l c) (n : Nat) (hl : a.eval l = .int .i64 0) (hc : a.eval c = .int .i64 n) (b2 : bytes * n ≤ 281474976710656) (b3 : n ≤ maxLen) {base : Nat} (hb : base ≤ w.heap.size)
    (h : ∀ w', SlE w' base e k enc (.slice (some ⟨w.heap.size, 0, none⟩) 0 n) [] → Below w.heap.size w w' → wpList P ops Q rest (a.put o.dst (.slice (some ⟨w.heap.size, 0, none⟩) 0 n)) w') : wpList P ops Q (o :: rest) a w := by
  obtain ⟨z, hz, hinf⟩ := E.info
  obtain ⟨i, i1, i2, i3, i4⟩ := info_parts hinf
  exact wpList_make_own w hgd l c t hop base e i z k E.ht i1 i2 i3 .i64 .i64 n n hl hc rfl (by rw [i4]; exact b2) b3 hb fun w' r1 r2 => h w' r1 ((Below.refl _ _).grown r2 (Nat.le_refl _) (fun _ h => by cases h))
end Go.Proofs.YtcjebpplmoakkaaGreatDoor
