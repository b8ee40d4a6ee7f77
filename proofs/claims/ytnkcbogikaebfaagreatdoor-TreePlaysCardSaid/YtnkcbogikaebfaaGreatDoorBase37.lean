/- Merged texts: DocPut DocAdd DocGone DocApp. -/
import Derived.Test.YtnkcbogikaebfaaGreatDoorBase33
import Derived.Test.YtnkcbogikaebfaaGreatDoorBase27
import Derived.Test.YtnkcbogikaebfaaGreatDoorBase22
import Derived.Test.YtnkcbogikaebfaaGreatDoorBase14
import Derived.Test.YtnkcbogikaebfaaGreatDoorBase17
section
/- The document's tree: what its writes leave: a node's cell written, blocks more, the last number; append with its place. -/
namespace Go.Proofs.YtnkcbogikaebfaaGreatDoor
open Go Go.RowKit
set_option maxRecDepth 100000
set_option linter.unusedSimpArgs false
set_option linter.unusedVariables false
attribute [local go_sem] giv
variable {E : Nat → Addr} {B : Nat}
theorem slShape3 {α : Type} {w : World} {base : Nat} {e : TypeId} {k : Nat} {enc : α → List Value} {v : Value} {xs : List α} (h : SlE w base e k enc v xs) : ∃ sp n cap, v = .slice sp n cap := by
  obtain ⟨sp, cap, h⟩ := slShape h
  exact ⟨_, _, _, h⟩
/-- 'append(s, x...)': where its answer lies: where s did, or in a new block. -/
theorem run_app_place {α : Type} {P : Program} {w : World} {t e ty : TypeId} {k bytes : Nat} {enc : α → List Value} (E : ElemT P t e k bytes enc) {base : Nat} {v u : Value} {xs ys : List α} (hown : SlE w base e k enc v xs) (hrd : RdE w k enc u ys)
    (hm : xs.length + ys.length ≤ maxLen) (hn : (xs.length + ys.length) * bytes ≤ 140737488355328) (hbase : base ≤ w.heap.size) :
    ∃ v' w', (Builtin.append_ #[t, t] ty #[v, u]).run P w = .ok v' w' ∧ SlE w' base e k enc v' (xs ++ ys) ∧ Touch (fun x => v.ownBlock = some x) w w' ∧ ∀ x, v'.ownBlock = some x → v.ownBlock = some x ∨ w.heap.size ≤ x := by
  obtain ⟨z, hz, hinf⟩ := E.info
  obtain ⟨i, i1, i2, i3, i4⟩ := info_parts hinf
  have hlx := flat_len E.len xs
  have hly := flat_len E.len ys
  obtain ⟨sp, cap, rfl, h1, h2, h3⟩ := hrd
  cases sp with
  | none =>
    have hc := h2 rfl
    subst hc
    have hy : ys = [] := List.eq_nil_of_length_eq_zero (by omega)
    subst hy
    exact ⟨_, _, run_append_owned_none (P := P) (w := w) base t ty e i k E.ht i1 _ xs.length (flat enc xs) hown, by rw [List.append_nil]; exact hown, Touch.refl _ _, fun x hx => .inl hx⟩
  | some ad =>
    have hnews : ∀ j y, (flat enc ys)[j]? = some y → w.cell? (ad.add j) = some y := by
      intro j y hj
      have hjl : j < ys.length * k := by
        rw [← flat_len E.len ys]
        exact (List.getElem?_eq_some_iff.1 hj).1
      have hyn : ys ≠ [] := by rintro rfl; simp at hjl
      obtain ⟨b, off, hsp, h5, h6⟩ := h3 hyn
      cases hsp
      have hk := E.pos
      have hd : j / k < ys.length := (Nat.div_lt_iff_lt_mul hk).2 hjl
      have hmod : j % k < k := Nat.mod_lt _ hk
      have hj2 : j / k * k + j % k = j := by rw [Nat.mul_comm]; exact Nat.div_add_mod j k
      rw [show (⟨b, off, none⟩ : Addr).add j = ⟨b, off + j, none⟩ by unfold Addr.add; split <;> simp_all]
      have := h6 (j / k) (j % k) hd hmod
      rw [Nat.add_assoc, hj2, ← flat_get E.len ys _ _ hd hmod, hj2] at this
      rw [this, hj]
    have hone : ∀ y ∈ flat enc ys, y.oneCell' = true := by
      intro y hy
      obtain ⟨x, _, hx⟩ := List.mem_flatMap.1 hy
      exact E.one x y hx
    obtain ⟨v', w', hr, g1, g2, _⟩ := run_append_own (P := P) w base t ty e i z k bytes E.ht i1 i2 i3 i4 hz E.pos v xs.length (flat enc xs) hown ad ys.length cap (flat enc ys) hly hnews hone hm hn hbase
    refine ⟨v', w', hr, ?_, Touch.of_grown g2, fun x hx => ?_⟩
    · show w'.ownsRow base e k v' (xs ++ ys).length (flat enc (xs ++ ys))
      rw [flat_append, List.length_append]
      exact g1
    · have hsx : xs.length + ys.length ≤ 9223372036854775807 := by unfold maxLen at hm; omega
      rcases SlE.cases hown with ⟨rfl, rfl⟩ | ⟨g, cp, rfl, hbg, hgl, hnc, hcm⟩
      · by_cases hy0 : ys.length = 0
        · have hy : ys = [] := List.eq_nil_of_length_eq_zero hy0
          subst hy
          exfalso
          obtain ⟨_, h9⟩ := g1
          have hr2 : (Builtin.append_ #[t, t] ty #[.slice none 0 0, .slice (some ad) 0 cap]).run P w = .ok (.slice none 0 0) w := by
            simp [Builtin.append_, run_underlying E.ht, sizeOf, typeInfo, i1, Builtin.lenOf, Builtin.firstCells, loadCells, loadCellsFrom]
          have hr3 := hr.symm.trans hr2
          injection hr3 with e1 e2
          subst e1
          simp [Value.ownBlock] at hx
        · have hr2 := run_append_nil (P := P) w t ty e i z E.ht i1 i2 ad ys.length cap (flat enc ys) (by rw [i3]; exact hly) hnews (by omega) (by omega) (by rw [i4]; have hb := hn; simp only [List.length_nil, Nat.zero_add] at hb; omega)
          have hr3 := hr.symm.trans hr2
          injection hr3 with e1 e2
          subst e1
          simp [Value.ownBlock] at hx
          exact .inr (by omega)
      · obtain ⟨cur, hcur, hcs⟩ : ∃ cur, w.heap[g]? = some (.cells cur e (0, 0)) ∧ cur.size = cp * k := by
          obtain ⟨_, ⟨h9, _⟩ | ⟨g', cap', cur, h9, _, h10, _, _, h11, _⟩⟩ := hown
          · cases h9
          · cases h9
            exact ⟨cur, h10, h11⟩
        by_cases hroom : xs.length + ys.length ≤ cp
        · have hfit : xs.length * i.size + (flat enc ys).length ≤ cur.size := by rw [hly, hcs, i3, ← Nat.add_mul]; exact Nat.mul_le_mul_right _ hroom
          have hr2 := run_append_room (P := P) w t ty e i E.ht i1 g xs.length cp cur hcur ad ys.length cap (flat enc ys) (by rw [i3]; exact hly) hnews hone hroom hfit
          have hr3 := hr.symm.trans hr2
          injection hr3 with e1 e2
          subst e1
          exact .inl (by simpa [Value.ownBlock] using hx)
        · have holds : ∀ j u, (flat enc xs)[j]? = some u → w.cell? ((⟨g, 0, none⟩ : Addr).add j) = some u := World.ownsRow.cells hown (g := g) rfl
          have hr2 := run_append_grow (P := P) w t ty e i z E.ht i1 i2 ⟨g, 0, none⟩ xs.length cp (flat enc xs) (by rw [i3]; exact hlx) holds ad ys.length cap (flat enc ys) (by rw [i3]; exact hly) hnews (by omega) (by omega) (growslice_fits (by omega) (by rw [i4]; exact hn))
          have hr3 := hr.symm.trans hr2
          injection hr3 with e1 e2
          subst e1
          simp [Value.ownBlock] at hx
          exact .inr (by omega)
theorem wpList_appP {α : Type} {P : Program} {w : World} {ops : Array Oper} {rest : List Oper} {o : Oper} {a : Act} {Q : Exit → Act → World → Prop} {t e : TypeId} {k bytes : Nat} {enc : α → List Value} (E : ElemT P t e k bytes enc) (hgd : o.guard = none) (s x : Operand)
    (ho : o.op = .call { callee := .builtin .append, args := #[s, x], argTypes := #[t, t] }) {base : Nat} {v u : Value} {xs ys : List α} (hs : a.eval s = v) (hown : SlE w base e k enc v xs) (hx : a.eval x = u) (hrd : RdE w k enc u ys)
    (hm : xs.length + ys.length ≤ maxLen) (hn : (xs.length + ys.length) * bytes ≤ 140737488355328) (hbase : base ≤ w.heap.size)
    (h : ∀ v' w', SlE w' base e k enc v' (xs ++ ys) → Touch (fun x => v.ownBlock = some x) w w' → (∀ x, v'.ownBlock = some x → v.ownBlock = some x ∨ w.heap.size ≤ x) → wpList P ops Q rest (a.put o.dst v') w') : wpList P ops Q (o :: rest) a w := by
  obtain ⟨v', w', hr, h2, h3, h4⟩ := run_app_place (ty := o.type) E hown hrd hm hn hbase
  refine wpList_plain hgd fun K hK => ?_
  unfold Oper.wp execOp
  simp only [ho, resolve, invoke, builtin, Sem.run_bind, Sem.run_pure, Result.andThen_ok, List.map_toArray, List.map_cons, List.map_nil, hs, hx, hr]
  exact hK _ _ (h v' w' h2 h3 h4)
/-- 'append(s, x...)' where there is room: it lies where s did. -/
theorem wpList_app_room {α : Type} {P : Program} {w : World} {ops : Array Oper} {rest : List Oper} {o : Oper} {a : Act} {Q : Exit → Act → World → Prop} {t e : TypeId} {k bytes : Nat} {enc : α → List Value} (E : ElemT P t e k bytes enc) (hgd : o.guard = none) (s x : Operand)
    (ho : o.op = .call { callee := .builtin .append, args := #[s, x], argTypes := #[t, t] }) {base g cp n : Nat} {u : Value} {xs ys : List α} (hs : a.eval s = .slice (some ⟨g, 0, none⟩) n cp) (hown : SlE w base e k enc (.slice (some ⟨g, 0, none⟩) n cp) xs) (hx : a.eval x = u) (hrd : RdE w k enc u ys)
    (hne : ys ≠ []) (hroom : n + ys.length ≤ cp) (hm : xs.length + ys.length ≤ maxLen) (hn : (xs.length + ys.length) * bytes ≤ 140737488355328) (hbase : base ≤ w.heap.size)
    (h : ∀ w', SlE w' base e k enc (.slice (some ⟨g, 0, none⟩) (n + ys.length) cp) (xs ++ ys) → Touch (fun x => x = g) w w' → wpList P ops Q rest (a.put o.dst (.slice (some ⟨g, 0, none⟩) (n + ys.length) cp)) w') : wpList P ops Q (o :: rest) a w := by
  obtain ⟨z, hz, hinf⟩ := E.info
  obtain ⟨i, i1, i2, i3, i4⟩ := info_parts hinf
  have hly := flat_len E.len ys
  obtain ⟨v', w', hr, h2, h3, h4⟩ := run_app_place (ty := o.type) E hown hrd hm hn hbase
  obtain ⟨sp, cap, rfl, h5, h6, h7⟩ := hrd
  obtain ⟨b, off, rfl, h8, h9⟩ := h7 hne
  have hnews : ∀ j y, (flat enc ys)[j]? = some y → w.cell? ((⟨b, off, none⟩ : Addr).add j) = some y := by
    intro j y hj
    have hjl : j < ys.length * k := by
      rw [← hly]
      exact (List.getElem?_eq_some_iff.1 hj).1
    have hk := E.pos
    have hd : j / k < ys.length := (Nat.div_lt_iff_lt_mul hk).2 hjl
    have hmod : j % k < k := Nat.mod_lt _ hk
    have hj2 : j / k * k + j % k = j := by rw [Nat.mul_comm]; exact Nat.div_add_mod j k
    rw [show (⟨b, off, none⟩ : Addr).add j = ⟨b, off + j, none⟩ by unfold Addr.add; split <;> simp_all]
    have := h9 (j / k) (j % k) hd hmod
    rw [Nat.add_assoc, hj2, ← flat_get E.len ys _ _ hd hmod, hj2] at this
    rw [this, hj]
  have hone : ∀ y ∈ flat enc ys, y.oneCell' = true := by
    intro y hy
    obtain ⟨x, _, hx⟩ := List.mem_flatMap.1 hy
    exact E.one x y hx
  obtain ⟨hnx, cur, hcur, hcs⟩ : n = xs.length ∧ ∃ cur, w.heap[g]? = some (.cells cur e (0, 0)) ∧ cur.size = cp * k := by
    obtain ⟨_, ⟨h9, _⟩ | ⟨g', cap', cur, h9, _, h10, _, _, h11, _⟩⟩ := hown
    · cases h9
    · cases h9
      exact ⟨rfl, cur, h10, h11⟩
  have hfit : n * i.size + (flat enc ys).length ≤ cur.size := by rw [hly, hcs, i3, ← Nat.add_mul]; exact Nat.mul_le_mul_right _ hroom
  have hr2 := run_append_room (P := P) w t o.type e i E.ht i1 g n cp cur hcur ⟨b, off, none⟩ ys.length cap (flat enc ys) (by rw [i3]; exact hly) hnews hone hroom hfit
  have hr3 := hr.symm.trans hr2
  injection hr3 with e1 e2
  subst e1
  refine wpList_plain hgd fun K hK => ?_
  unfold Oper.wp execOp
  simp only [ho, resolve, invoke, builtin, Sem.run_bind, Sem.run_pure, Result.andThen_ok, List.map_toArray, List.map_cons, List.map_nil, hs, hx, hr]
  refine hK _ _ (h w' h2 (h3.mono fun x hx _ => ?_))
  simpa [Value.ownBlock] using hx.symm
section
variable {T S : Nat → Prop} {w w' : World} {m : Nat} {st : St} {v : Value} {ms : List MN}
/-- Blocks more. -/
theorem DW.grow (h : DW B T w m st v ms) (hb : Below w.heap.size w w') {T' : Nat → Prop} (h1 : ∀ x, T x → T' x) (h2 : ∀ x, T' x → T x ∨ (w.heap.size ≤ x ∧ x < w'.heap.size)) : DW B T' w' m st v ms := by
  have h' := h.below hb
  refine ⟨h'.eq, h'.c1, h'.c2, h'.f1, h'.f2, h'.sl, fun x hx => ⟨h1 x (h'.own x hx).1, (h'.own x hx).2⟩, fun x hx => ⟨(h'.ents x hx).1, fun y hy => ⟨h1 y ((h'.ents x hx).2 y hy).1, ((h'.ents x hx).2 y hy).2⟩⟩, h1 m h'.tm, fun x hx => ?_, h'.hB, h'.ism⟩
  rcases h2 x hx with hx | hx
  · exact h'.lt x hx
  · exact ⟨Nat.le_trans h.hB hx.1, hx.2⟩
/-- A node's cell is written. -/
theorem DW.put (h : DW B T w m st v ms) {g cap n k j : Nat} (hv : v = .slice (some ⟨g, 0, none⟩) n cap) {x y : MN} {u : Value} (hx : ms[k]? = some x) (hj : j < 199) (he : encM y = (encM x).set j u)
    (hy : RdEn w y.ev y.nr.ents ∧ ∀ z, y.ev.ownBlock = some z → T z ∧ z ≠ m ∧ v.ownBlock ≠ some z) {st' : St} (hst : (ms.set k y).map MN.nr = st'.ns) (hl : st'.last = st.last) :
    DW B T (w.setCell ⟨g, k * 199 + j, none⟩ u) m st' v (ms.set k y) ∧ Touch (fun x => x = g) w (w.setCell ⟨g, k * 199 + j, none⟩ u) := by
  have hown : v.ownBlock = some g := by rw [hv]; rfl
  have hg := h.own g hown
  have ht : Touch (fun x => x = g) w (w.setCell ⟨g, k * 199 + j, none⟩ u) := Touch.setCell (S := fun x => x = g) (p := ⟨g, k * 199 + j, none⟩) (Touch.refl _ _) (.inl rfl) _
  have hml := (h.lt m h.tm).2
  have hmg : ¬ m = g := fun e => hg.2 e.symm
  refine ⟨⟨hst, (ht.cell (p := ⟨m, 1, none⟩) hml hmg).trans (h.c1.trans (by rw [hl])), (ht.cell (p := ⟨m, 2, none⟩) hml hmg).trans h.c2, (ht.frozen (p := ⟨m, 1, none⟩) hml hmg).trans h.f1, (ht.frozen (p := ⟨m, 2, none⟩) hml hmg).trans h.f2,
    h.sl.set encM_len hown hx hj he, h.own, fun z hz => ?_, h.tm, fun z hz => ⟨(h.lt z hz).1, Nat.lt_of_lt_of_le (h.lt z hz).2 ht.size⟩, Nat.le_trans h.hB ht.size, h.ism.same (ht.block m hml hmg)⟩, ht⟩
  have key : RdEn w z.ev z.nr.ents ∧ ∀ q, z.ev.ownBlock = some q → T q ∧ q ≠ m ∧ v.ownBlock ≠ some q := by
    rcases List.mem_or_eq_of_mem_set hz with hz | rfl
    · exact h.ents z hz
    · exact hy
  exact ⟨key.1.touch ht (fun q hq e => (key.2 q hq).2.2 (by rw [hown, e])), key.2⟩
/-- The last number is written. -/
theorem DW.setLast (h : DW B T w m st v ms) (n : Int) : DW B T (w.setCell ⟨m, 1, none⟩ (.int .i64 n)) m ⟨n, st.ns⟩ v ms ∧ Touch (fun x => x = m) w (w.setCell ⟨m, 1, none⟩ (.int .i64 n)) := by
  have ht : Touch (fun x => x = m) w (w.setCell ⟨m, 1, none⟩ (.int .i64 n)) := Touch.setCell (S := fun x => x = m) (p := ⟨m, 1, none⟩) (Touch.refl _ _) (.inl rfl) _
  exact ⟨⟨h.eq, World.cell?_setCell_same _ _ _ h.c1, (World.cell?_setCell_other _ _ _ _ (by intro e; cases e)).trans h.c2, by simpa using h.f1, by simpa using h.f2, h.sl.touch ht (fun y hy => (h.own y hy).2), h.own,
    fun x hx => ⟨(h.ents x hx).1.touch ht (fun y hy => ((h.ents x hx).2 y hy).2.1), (h.ents x hx).2⟩, h.tm, fun x hx => ⟨(h.lt x hx).1, Nat.lt_of_lt_of_le (h.lt x hx).2 ht.size⟩, Nat.le_trans h.hB ht.size, h.ism.set 1 rfl⟩, ht⟩
end
/-! ### M in memory, its nodes' place hidden -/
def NewT (T : Nat → Prop) (w w' : World) : Nat → Prop := fun x => T x ∨ (w.heap.size ≤ x ∧ x < w'.heap.size)
/-- M is in memory as st, its blocks are T. -/
def MW (B : Nat) (T : Nat → Prop) (w : World) (m : Nat) (st : St) : Prop := ∃ v ms, DW B T w m st v ms
/-- What a turn of M leaves. -/
def MO (B : Nat) (T : Nat → Prop) (m : Nat) (st' : St) (w w' : World) : Prop := MW B (NewT T w w') w' m st' ∧ Touch T w w'
section
variable {T T' : Nat → Prop} {w w' w1 w2 : World} {m : Nat} {st st1 st2 : St} {v : Value} {ms : List MN}
theorem DW.wide (h : DW B T w m st v ms) (h1 : ∀ x, T x → T' x) (h2 : ∀ x, T' x → B ≤ x ∧ x < w.heap.size) : DW B T' w m st v ms :=
  ⟨h.eq, h.c1, h.c2, h.f1, h.f2, h.sl, fun x hx => ⟨h1 x (h.own x hx).1, (h.own x hx).2⟩, fun x hx => ⟨(h.ents x hx).1, fun y hy => ⟨h1 y ((h.ents x hx).2 y hy).1, ((h.ents x hx).2 y hy).2⟩⟩, h1 m h.tm, h2, h.hB, h.ism⟩
theorem MW.lt (h : MW B T w m st) : ∀ x, T x → B ≤ x ∧ x < w.heap.size := by obtain ⟨v, ms, h⟩ := h; exact h.lt
theorem MW.hB (h : MW B T w m st) : B ≤ w.heap.size := by obtain ⟨v, ms, h⟩ := h; exact h.hB
theorem MW.wide (h : MW B T w m st) (h1 : ∀ x, T x → T' x) (h2 : ∀ x, T' x → B ≤ x ∧ x < w.heap.size) : MW B T' w m st := by
  obtain ⟨v, ms, h⟩ := h
  exact ⟨v, ms, h.wide h1 h2⟩
theorem MW.touch {S : Nat → Prop} (h : MW B T w m st) (ht : Touch S w w') (hS : ∀ x, T x → ¬ S x) : MW B T w' m st := by
  obtain ⟨v, ms, h⟩ := h
  exact ⟨v, ms, h.touch ht hS⟩
theorem MW.below (h : MW B T w m st) (hb : Below w.heap.size w w') : MW B T w' m st := by
  obtain ⟨v, ms, h⟩ := h
  exact ⟨v, ms, h.below hb⟩
theorem NewT.lt (hB : B ≤ w.heap.size) (h : ∀ x, T x → B ≤ x ∧ x < w.heap.size) (hs : w.heap.size ≤ w'.heap.size) : ∀ x, NewT T w w' x → B ≤ x ∧ x < w'.heap.size := by
  rintro x (hx | hx)
  · exact ⟨(h x hx).1, Nat.lt_of_lt_of_le (h x hx).2 hs⟩
  · exact ⟨Nat.le_trans hB hx.1, hx.2⟩
theorem MO.still (h : MW B T w m st) (hb : Below w.heap.size w w') : MO B T m st w w' :=
  ⟨(h.below hb).wide (fun x hx => .inl hx) (NewT.lt h.hB h.lt hb.size), Touch.of_below hb _⟩
theorem MO.of_dw (h : DW B (NewT T w w') w' m st v ms) (ht : Touch T w w') : MO B T m st w w' := ⟨⟨v, ms, h⟩, ht⟩
theorem MO.trans (h : MO B T m st1 w w1) (k : MO B (NewT T w w1) m st2 w1 w2) : MO B T m st2 w w2 := by
  obtain ⟨h1, h2⟩ := h
  obtain ⟨k1, k2⟩ := k
  refine ⟨k1.wide (fun x hx => ?_) (fun x hx => ?_), h2.trans k2 (fun x hx hl => ?_)⟩
  · rcases hx with (hx | hx) | hx
    · exact .inl hx
    · exact .inr ⟨hx.1, Nat.lt_of_lt_of_le hx.2 k2.size⟩
    · exact .inr ⟨Nat.le_trans h2.size hx.1, hx.2⟩
  · refine k1.lt x ?_
    rcases hx with hx | hx
    · exact .inl (.inl hx)
    · by_cases hlt : x < w1.heap.size
      · exact .inl (.inr ⟨hx.1, hlt⟩)
      · exact .inr ⟨by omega, hx.2⟩
  · rcases hx with hx | hx
    · exact hx
    · omega
theorem MO.pre (h : MW B T w m st) (hb : Below w.heap.size w w1) (k : MO B T m st2 w1 w2) : MO B T m st2 w w2 := by
  refine ⟨k.1.wide (fun x hx => ?_) (NewT.lt h.hB h.lt (Nat.le_trans hb.size k.2.size)), (Touch.of_below hb T).trans k.2 (fun x hx _ => hx)⟩
  rcases hx with hx | hx
  · exact .inl hx
  · exact .inr ⟨Nat.le_trans hb.size hx.1, hx.2⟩
end
end Go.Proofs.YtnkcbogikaebfaaGreatDoor
end

section
/- The document's add and del. -/
namespace Go.Proofs.YtnkcbogikaebfaaGreatDoor
open Go Go.RowKit
set_option maxRecDepth 100000
set_option linter.unusedSimpArgs false
set_option linter.unusedVariables false
attribute [local go_sem] giv
variable {E : Nat → Addr} {B : Nat}
theorem smallB {j : Nat} (h : j ≤ 1000000) : j ≤ maxLen := by unfold maxLen; omega

set_option maxHeartbeats 1000000 in
theorem entrys_big {w : World} {v : Value} {ks : List En} (r : RdEn w v ks) (hk : ks.length ≤ 100000) :
    Calls Tryz.prog 40 #[v] w fun e w' => (∃ u, e = .returned u ∧ SlEn w' w.heap.size u ks) ∧ Below w.heap.size w w' := by
  obtain ⟨sp, cap, rfl, hcap⟩ := RdE.shape r
  have HR := Lib.hid r
  clear r
  go_enter Tryz.func40, Tryz.ntmps40
  go_wp2_with (at_make; refine wpList_mk0 entT rfl _ _ rfl ks.length rfl rfl (by omega) (smallB (by omega)) (Nat.le_refl _) ?_; intro w2 hs2 hb2; have HS2 := Lib.hid hs2; have HB2 := Lib.hid hb2; clear hs2 hb2)
  go_loopw [3, 4] (fun v i wr => ∃ j : Nat, j ≤ ks.length ∧ i = .int .i64 j ∧ Hid (SlEn wr w.heap.size v (ks.take j) ∧ Below w.heap.size w wr)) (fun _ i _ => ks.length - (intOf i).toNat)
  case atStart => exact ⟨0, Nat.zero_le _, rfl, Lib.hid ⟨HS2.out, HB2.out⟩⟩
  case round =>
    obtain ⟨j, hj, rfl, HI⟩ := hrel
    by_cases hlt : j < ks.length
    · obtain ⟨h, off, rfl, hh, c0⟩ := elCells HR.out hlt
      have d : ∀ i, i < 3 → wr.cell? ⟨h, off + j * 3 + i, none⟩ = (encEl ks[j])[i]? := fun i hi => (HI.out.2.cell (p := ⟨h, off + j * 3 + i, none⟩) hh).trans (c0 i hi)
      have d0 := d 0 (by omega)
      have d1 := d 1 (by omega)
      have d2 := d 2 (by omega)
      have HT : Hid (ks.take (j + 1) = ks.take j ++ [ks[j]]) := Lib.hid (List.take_succ_eq_append_getElem hlt)
      have hj0 : (0 : Int) ≤ (j : Int) := by omega
      have hj1 : (j : Int) < (ks.length : Int) := by omega
      have HJL : Hid ((ks.take j).length = j) := Lib.hid (by rw [List.length_take]; omega)
      have HJ := Lib.hid hlt
      have HKK := Lib.hid hk
      clear c0 d
      generalize ks[j] = x at *
      obtain ⟨x1, x2, x3⟩ := x
      simp only [encEl, List.getElem?_cons_zero, List.getElem?_cons_succ, Nat.add_zero] at d0 d1 d2
      have HOWN := Lib.hid (SlE.below HI.out.1 (bl_alloc (Below.refl _ wr) (.cells #[.string x1, .int .i64 x2, .int .i64 x3] 48)))
      have HROW : Hid (RdEn (wr.alloc (.cells #[.string x1, .int .i64 x2, .int .i64 x3] 48)) (.slice (some ⟨wr.heap.size, 0, none⟩) 1 1) [⟨x1, x2, x3⟩]) := Lib.hid (RdE.one (x := (⟨x1, x2, x3⟩ : En)) (Row.new wr 48 (encEl ⟨x1, x2, x3⟩)))
      have HBS : Hid (w.heap.size ≤ (wr.alloc (.cells #[.string x1, .int .i64 x2, .int .i64 x3] 48)).heap.size) := Lib.hid (Nat.le_trans HI.out.2.size (by simp))
      go_wp2_with (at_builtin; refine wpList_app entT rfl _ _ rfl rfl HOWN.out rfl HROW.out (by rw [HJL.out]; exact smallB (by have := HJ.out; have := HKK.out; simp; omega)) (by rw [HJL.out]; have := HJ.out; have := HKK.out; simp; omega) HBS.out ?_; intro v' w' hs' ht'; have HS' := Lib.hid hs'; have HT' := Lib.hid ht'; clear hs' ht')
      go_roundw
      case rel =>
        refine ⟨j + 1, by omega, by go_num, Lib.hid ⟨?_, ?_⟩⟩
        · rw [HT.out]; exact HS'.out
        · exact (bl_alloc HI.out.2 _).trans (HT'.out.below (B := w.heap.size) HBS.out (fun x hx => (SlE.lt HOWN.out x hx).1))
      case measure => simp [intOf]; omega
    · obtain rfl : j = ks.length := by omega
      go_wp2
      go_ret
      have := HI.out.1
      rw [List.take_length] at this
      exact ⟨⟨_, rfl, this⟩, HI.out.2⟩

/-- Entrys answers a slice that is full. -/
theorem row_full {w : World} {base H n : Nat} {ks : List En} (h : SlEn w base (.slice (some ⟨H, 0, none⟩) n n) ks) : n = ks.length ∧ base ≤ H ∧ Row w H 48 (flat encEl ks) := by
  obtain ⟨h1, ⟨h9, _⟩ | ⟨g', cap', cur, h9, hb, h10, _, _, h11, h12⟩⟩ := h
  · cases h9
  · cases h9
    refine ⟨rfl, hb, ?_⟩
    have hle : cur.toList.length ≤ ks.length * 3 := by rw [Array.length_toList, h11]; exact Nat.le_refl _
    have e : cur.toList = flat encEl ks := (List.take_of_length_le hle).symm.trans h12
    show _ = _
    rw [h10, ← e]
set_option maxHeartbeats 1000000 in
theorem entrys_full {w : World} {v : Value} {ks : List En} (r : RdEn w v ks) (hk : ks.length ≤ 100000) :
    Calls Tryz.prog 40 #[v] w fun e w' => (∃ H, e = .returned (.slice (some ⟨H, 0, none⟩) ks.length ks.length) ∧ w.heap.size ≤ H ∧ Row w' H 48 (flat encEl ks)) ∧ Below w.heap.size w w' := by
  obtain ⟨sp, cap, rfl, hcap⟩ := RdE.shape r
  have HR := Lib.hid r
  clear r
  go_enter Tryz.func40, Tryz.ntmps40
  go_wp2_with (at_make; refine wpList_mk0 entT rfl _ _ rfl ks.length rfl rfl (by omega) (smallB (by omega)) (Nat.le_refl _) ?_; intro w2 hs2 hb2; have HS2 := Lib.hid hs2; have HB2 := Lib.hid hb2; clear hs2 hb2)
  go_loopw [3, 4] (fun v i wr => ∃ j : Nat, j ≤ ks.length ∧ i = .int .i64 j ∧ v = .slice (some ⟨w.heap.size, 0, none⟩) j ks.length ∧ Hid (SlEn wr w.heap.size (.slice (some ⟨w.heap.size, 0, none⟩) j ks.length) (ks.take j) ∧ Below w.heap.size w wr)) (fun _ i _ => ks.length - (intOf i).toNat)
  case atStart => exact ⟨0, Nat.zero_le _, rfl, rfl, Lib.hid ⟨HS2.out, HB2.out⟩⟩
  case round =>
    obtain ⟨j, hj, rfl, rfl, HI⟩ := hrel
    by_cases hlt : j < ks.length
    · obtain ⟨h, off, rfl, hh, c0⟩ := elCells HR.out hlt
      have d : ∀ i, i < 3 → wr.cell? ⟨h, off + j * 3 + i, none⟩ = (encEl ks[j])[i]? := fun i hi => (HI.out.2.cell (p := ⟨h, off + j * 3 + i, none⟩) hh).trans (c0 i hi)
      have d0 := d 0 (by omega)
      have d1 := d 1 (by omega)
      have d2 := d 2 (by omega)
      have HT : Hid (ks.take (j + 1) = ks.take j ++ [ks[j]]) := Lib.hid (List.take_succ_eq_append_getElem hlt)
      have hj0 : (0 : Int) ≤ (j : Int) := by omega
      have hj1 : (j : Int) < (ks.length : Int) := by omega
      have HJL : Hid ((ks.take j).length = j) := Lib.hid (by rw [List.length_take]; omega)
      have HJ := Lib.hid hlt
      have HKK := Lib.hid hk
      clear c0 d
      generalize ks[j] = x at *
      obtain ⟨x1, x2, x3⟩ := x
      simp only [encEl, List.getElem?_cons_zero, List.getElem?_cons_succ, Nat.add_zero] at d0 d1 d2
      have HOWN := Lib.hid (SlE.below HI.out.1 (bl_alloc (Below.refl _ wr) (.cells #[.string x1, .int .i64 x2, .int .i64 x3] 48)))
      have HROW : Hid (RdEn (wr.alloc (.cells #[.string x1, .int .i64 x2, .int .i64 x3] 48)) (.slice (some ⟨wr.heap.size, 0, none⟩) 1 1) [⟨x1, x2, x3⟩]) := Lib.hid (RdE.one (x := (⟨x1, x2, x3⟩ : En)) (Row.new wr 48 (encEl ⟨x1, x2, x3⟩)))
      have HBS : Hid (w.heap.size ≤ (wr.alloc (.cells #[.string x1, .int .i64 x2, .int .i64 x3] 48)).heap.size) := Lib.hid (Nat.le_trans HI.out.2.size (by simp))
      go_wp2_with (at_builtin; refine wpList_app_room entT rfl _ _ rfl rfl HOWN.out rfl HROW.out (by simp) (by have := HJ.out; simp; omega) (by rw [HJL.out]; exact smallB (by have := HJ.out; have := HKK.out; simp; omega)) (by rw [HJL.out]; have := HJ.out; have := HKK.out; simp; omega) HBS.out ?_; intro w' hs' ht'; have HS' := Lib.hid hs'; have HT' := Lib.hid ht'; clear hs' ht')
      go_roundw
      case rel =>
        refine ⟨j + 1, by omega, by go_num, rfl, Lib.hid ⟨?_, ?_⟩⟩
        · rw [HT.out]; exact HS'.out
        · exact (bl_alloc HI.out.2 _).trans (HT'.out.below (B := w.heap.size) HBS.out (fun x hx => by rw [hx]; exact Nat.le_refl _))
      case measure => simp [intOf]; omega
    · obtain rfl : j = ks.length := by omega
      go_wp2
      go_ret
      have h9 := HI.out.1
      rw [List.take_length] at h9
      obtain ⟨_, h7, h8⟩ := row_full h9
      exact ⟨⟨_, rfl, h7, h8⟩, HI.out.2⟩

section
variable {T : Nat → Prop} {w : World} {m : Nat} {st : St} {v : Value} {ms : List MN}
/-- What add and del leave: one node's entries put anew. -/
def DEnt (B : Nat) (T : Nat → Prop) (w : World) (m : Nat) (st : St) (v : Value) (ms : List MN) (k : Nat) (x : MN) (l : List En) (w' : World) : Prop :=
  ∃ y : MN, y.nr = ⟨x.nr.nd, l⟩ ∧ y.rest = x.rest ∧ DW B (NewT T w w') w' m ⟨st.last, (ms.set k y).map MN.nr⟩ v (ms.set k y) ∧ Touch (fun z => v.ownBlock = some z) w w'
/-- The entries of a node, in a new block. -/
theorem DW.putEnts (h : DW B T w m st v ms) {w1 : World} (hb : Below w.heap.size w w1) {g cap n k : Nat} (hv : v = .slice (some ⟨g, 0, none⟩) n cap) {x : MN} (hx : ms[k]? = some x) {u : Value} {l : List En} (hs : SlEn w1 w.heap.size u l) :
    DEnt B T w m st v ms k x l (w1.setCell ⟨g, k * 199 + 6, none⟩ u) := by
  obtain ⟨sp', cap', hu⟩ : ∃ sp' cap', u = .slice sp' l.length cap' := by
    rcases hs.cases with ⟨rfl, rfl⟩ | ⟨g', cap', rfl, _⟩
    · exact ⟨_, _, rfl⟩
    · exact ⟨_, _, rfl⟩
  have h1 : DW B (NewT T w w1) w1 m st v ms := h.grow hb (fun x hx => .inl hx) (fun x hx => hx)
  have hlt := SlE.lt hs
  have hset := h1.put (y := ⟨⟨x.nr.nd, l⟩, sp', cap', x.rest⟩) (u := u) (j := 6) (st' := ⟨st.last, (ms.set k ⟨⟨x.nr.nd, l⟩, sp', cap', x.rest⟩).map MN.nr⟩) hv hx (by omega) (by subst hu; rfl) ?_ rfl rfl
  · refine ⟨⟨⟨x.nr.nd, l⟩, sp', cap', x.rest⟩, rfl, rfl, hset.1.wide (fun y hy => ?_) (fun y hy => ?_), ?_⟩
    · rcases hy with hy | hy
      · exact .inl hy
      · exact .inr (by simpa using hy)
    · refine hset.1.lt y ?_
      rcases hy with hy | hy
      · exact .inl hy
      · exact .inr (by simpa using hy)
    · have hown : v.ownBlock = some g := by rw [hv]; rfl
      exact (Touch.of_below hb _).trans hset.2 (fun y hy _ => by rw [hown, hy])
  · refine ⟨?_, fun z hz => ?_⟩
    · have := hs.rd encEl_len
      rw [hu] at this
      exact this
    · have hz' : u.ownBlock = some z := by rw [hu]; exact hz
      have h2 := hlt z hz'
      refine ⟨.inr h2, ?_, fun e => ?_⟩
      · have := (h.lt m h.tm).2; omega
      · have := (h.lt z (h.own z e).1).2; omega
set_option maxHeartbeats 4000000 in
theorem madd_any (h : DW B T w m st v ms) (hn : ms.length ≤ 512) {dir : Int} {k : Nat} {x : MN} (hk : placeM ms dir = (k : Int)) (hx : ms[k]? = some x) (hxl : x.nr.ents.length ≤ 8192) (e : En) (hno : entOf x.nr.ents e.name = none) :
    Calls Tryz.prog 55 #[.pointer (some ⟨m, 0, none⟩), .int .i64 dir, encE e] w fun r w' => r = .returned (.tuple #[]) ∧ DEnt B T w m st v ms k x (insE e x.nr.ents) w' := by
  obtain ⟨n1, n2, n3⟩ := e
  have hkl := (List.getElem?_eq_some_iff.1 hx).1
  obtain ⟨g, cap, hv, hg⟩ := h.block (by rintro rfl; simp at hkl)
  obtain ⟨wa, hwa⟩ : ∃ wa, wa = w.alloc (.cells #[.string n1, .int .i64 n2, .int .i64 n3] 48) := ⟨_, rfl⟩
  have hba : Below w.heap.size w wa := by rw [hwa]; exact bl_alloc (Below.refl _ _) _
  have rE : Row wa w.heap.size 48 [.string n1, .int .i64 n2, .int .i64 n3] := by rw [hwa]; exact Row.new _ _ _
  have hins := insE_pos hno
  have HINS := Lib.hid hins
  have HPE := Lib.hid (posE_le n1 x.nr.ents)
  have hda := h.below hba
  have ce := hda.cell hv (j := 6) hx (by omega)
  rw [(encM_get x).2.2.2.2.2.2] at ce
  have hre := (hda.ents x (List.mem_of_getElem? hx)).1
  obtain ⟨sq, cq, hsq, hcq⟩ := RdE.shape hre
  rw [hsq] at hre ce
  have HRE := Lib.hid hre
  have HK := Lib.hid hk
  have HV := Lib.hid hv
  have HX := Lib.hid hx
  have HD := Lib.hid h
  have HDA := Lib.hid hda
  have HBA := Lib.hid hba
  have hf6 : wa.frozen? ⟨g, k * 199 + 6, none⟩ = false := hda.sl.froz (by rw [hv]; rfl) _
  have hgl : g < wa.heap.size := Nat.lt_of_lt_of_le hg hba.size
  have HF6 := Lib.hid (And.intro ce (And.intro hf6 hgl))
  generalize hP : (fun (r : Ending) (w' : World) => r = .returned (.tuple #[]) ∧ DEnt B T w m st v ms k x (insE ⟨n1, n2, n3⟩ x.nr.ents) w') = Post
  have HP := Lib.hid hP
  obtain ⟨l, hl⟩ : ∃ l, x.nr.ents = l := ⟨_, rfl⟩
  rw [hl] at hno hxl ce hcq
  rw [hl] at HINS HPE HRE HF6
  have HL := Lib.hid hl
  have HXL := Lib.hid hxl
  clear h hk hx hv hda hba hins hre hsq hP hno hf6 hgl hl
  unfold encE
  go_enter Tryz.func55, Tryz.ntmps55
  go_wp2_with fail
  rw [← hwa]
  obtain ⟨C, hC⟩ : ∃ C, w.heap.size = C := ⟨_, rfl⟩
  rw [hC] at rE ⊢
  have HC := Lib.hid hC
  have HRE0 := Lib.hid rE
  have x0 := (rE.cell 0).trans rfl
  clear hwa hC rE
  refine (dget_some HDA.out (by omega) dir HK.out hkl HV.out).mono ?_
  rintro r w1 ⟨rfl, rfl⟩
  go_wp2_with fail
  go_loopw [8] (fun i wr => ∃ j : Nat, j ≤ l.length ∧ i = .int .i64 (j : Int) ∧ Hid ((∀ y ∈ l.take j, nmLt y.name n1) ∧ Below wa.heap.size wa wr)) (fun i _ => l.length - (intOf i).toNat)
  case atStart => exact ⟨0, Nat.zero_le _, rfl, Lib.hid ⟨by simp, Below.refl _ _⟩⟩
  case round =>
    obtain ⟨j, hj, rfl, HI⟩ := hrel
    have hc6 : wr.cell? ⟨g, k * 199 + 6, none⟩ = some (.slice sq l.length cq) := (HI.out.2.cell (p := ⟨g, k * 199 + 6, none⟩) HF6.out.2.2).trans HF6.out.1
    have xr0 : wr.cell? ⟨C, 0, none⟩ = some (.string n1) := (HRE0.out.below HI.out.2).cell 0
    clear ce x0
    by_cases hlt : j < l.length
    case' neg =>
      have hje : j = l.length := by omega
      have HPO : Hid (posE n1 l = j) := Lib.hid (by rw [hje]; exact posE_end (fun y hy => HI.out.1 y (by rw [hje, List.take_length]; exact hy)))
      have hj1 : ¬ (j : Int) < (l.length : Int) := by omega
      have hd1 : decide ((j : Int) < (l.length : Int)) = false := decide_eq_false hj1
      have hd0 : decide (j < l.length) = false := decide_eq_false hlt
      clear hje hlt
      go_wp2_with fail
      go_quiet (fail)
    case' pos =>
      obtain ⟨h2, off2, hsp2, hh2, hc2⟩ := elCells HRE.out hlt
      rw [hsp2] at hc6
      have HSP2 := Lib.hid hsp2
      clear hsp2
      have c0 : wr.cell? ⟨h2, off2 + j * 3, none⟩ = some (.string (l[j]).name) := by
        have := hc2 0 (by omega)
        rw [HI.out.2.cell (p := ⟨h2, off2 + j * 3, none⟩) hh2]
        simp only [Nat.add_zero] at this
        exact this
      have HST : Hid (nmLt l[j].name n1 → ∀ y ∈ l.take (j + 1), nmLt y.name n1) := Lib.hid (fun hne y hy => by
        rw [List.take_succ_eq_append_getElem hlt] at hy
        rcases List.mem_append.1 hy with hy | hy
        · exact HI.out.1 y hy
        · rw [List.mem_singleton] at hy; rw [hy]; exact hne)
      have HSP : Hid (¬ nmLt l[j].name n1 → posE n1 l = j) := Lib.hid (fun hne => posE_stop HI.out.1 hlt hne)
      have hj0 : (0 : Int) ≤ (j : Int) := by omega
      have hj1 : (j : Int) < (l.length : Int) := by omega
      have hd1 : decide ((j : Int) < (l.length : Int)) = true := decide_eq_true hj1
      have hd0 : decide (j < l.length) = true := decide_eq_true hlt
      generalize l[j].name = y at *
      clear hc2
      by_cases hy : nmLt y n1
      case pos =>
        as_aux_lemma =>
        have hd2 : Op.bytesLess y.toList n1.toList = true := by rw [bytesLess_eq, Lib.toList_data, Lib.toList_data]; exact decide_eq_true (show y.data.toList < n1.data.toList from hy)
        have HTK := Lib.hid (HST.out hy)
        clear HSP HST hy
        go_wp2_with fail
        go_quiet (fail)
        go_wp2
        go_roundw
        case rel => exact ⟨j + 1, by omega, by first | go_num | exact congrArg (Value.int .i64) (wrapE_step hlt (by omega)), Lib.hid ⟨HTK.out, HI.out.2.trans ((drewN_below wr _).mono HI.out.2.size)⟩⟩
        case measure => simp [intOf]; omega
      have hd2 : Op.bytesLess y.toList n1.toList = false := by rw [bytesLess_eq, Lib.toList_data, Lib.toList_data]; exact decide_eq_false (show ¬ y.data.toList < n1.data.toList from hy)
      have HPO : Hid (posE n1 l = j) := Lib.hid (HSP.out hy)
      clear HST HSP hy
      go_wp2_with fail
      go_quiet (fail)
    all_goals
      as_aux_lemma =>
        go_wp2_with fail
        refine wp_fromB wr ?hb ?_
        case hb => exact ⟨rfl, rfl, rfl, Nat.le_refl _, fun _ _ => rfl⟩
        intro wz hz
        have HBZ : Hid (Below wa.heap.size wa wz) := Lib.hid (HI.out.2.trans (hz.mono HI.out.2.size))
        have HRZ := Lib.hid (HRE.out.below HBZ.out)
        have HXZ := Lib.hid (HRE0.out.below HBZ.out)
        have HGZ : Hid (g < wz.heap.size) := Lib.hid (Nat.lt_of_lt_of_le HF6.out.2.2 HBZ.out.size)
        have HCZ : Hid (wz.cell? ⟨g, k * 199 + 6, none⟩ = some (.slice sq l.length cq) ∧ wz.frozen? ⟨g, k * 199 + 6, none⟩ = false) := Lib.hid ⟨(HBZ.out.cell (p := ⟨g, k * 199 + 6, none⟩) HF6.out.2.2).trans HF6.out.1, (HBZ.out.frozen (p := ⟨g, k * 199 + 6, none⟩) HF6.out.2.2).trans HF6.out.2.1⟩
        have hjc : j ≤ cq := by omega
        have HJT : Hid ((l.take j).length = j) := Lib.hid (by rw [List.length_take]; omega)
        have S : ∀ w', Below wz.heap.size wz w' → w'.cell? ⟨g, k * 199 + 6, none⟩ = some (.slice sq l.length cq) ∧ w'.cell? ⟨C, 0, none⟩ = some (.string n1) ∧ w'.cell? ⟨C, 1, none⟩ = some (.int .i64 n2) ∧ w'.cell? ⟨C, 2, none⟩ = some (.int .i64 n3) := by
          intro w' hb
          have hr := HXZ.out.below hb
          exact ⟨(hb.cell (p := ⟨g, k * 199 + 6, none⟩) HGZ.out).trans HCZ.out.1, hr.cell 0, hr.cell 1, hr.cell 2⟩
        clear hz xr0 hc6 HI
        go_wp2_with fail
        apply wp_region_tail 9 _ (by kernel_rfl) (by kernel_rfl) (by kernel_rfl) (by decide) (fun w' => Below wz.heap.size wz w') (fun w' w'' => Below w'.heap.size w' w'') (fun w' w'' h1 h2 => bl_trans h1 h2) (Below.refl _ _).drew
        simp only [List.take_succ_cons, List.take_zero, List.drop_succ_cons, List.drop_zero]
        repeat (first
          | (apply wpRel_skip (by rfl)
             simp only [Act.put, List.setIfInBounds_toArray, List.set_cons_zero, List.set_cons_succ])
          | (apply wpRel_fix (by rfl)
             · intro w' hC hf R hR
               have hS := S w' hC
               go_simp
               exact hR _ (Below.refl _ _)
             simp only [Act.put, List.setIfInBounds_toArray, List.set_cons_zero, List.set_cons_succ]))
        apply wpRel_rel (fun v w => SlEn w wz.heap.size v (l.take j)) (by rfl) (fun v w w' h hb => h.below hb)
        · intro w' hC hf R hR
          go_simp
          refine (entrys_big ((RdE.taken HRZ.out hj).below hC) (by rw [HJT.out]; have := HXL.out; omega)).mono ?_
          rintro e w'' ⟨⟨u, rfl, hs⟩, hb⟩
          exact ⟨_, rfl, hR _ _ (hs.mono hC.size) hb⟩
        intro v1
        simp only [Act.put, List.setIfInBounds_toArray, List.set_cons_zero, List.set_cons_succ]
        repeat (first
          | (apply wpRel_skip (by rfl)
             simp only [Act.put, List.setIfInBounds_toArray, List.set_cons_zero, List.set_cons_succ])
          | (apply wpRel_fix (by rfl)
             · intro w' hC hf R hR
               have hS := S w' hC
               go_simp
               exact hR _ (Below.refl _ _)
             simp only [Act.put, List.setIfInBounds_toArray, List.set_cons_zero, List.set_cons_succ]))
        apply wpRel_rel (fun v w => RdEn w v [⟨n1, n2, n3⟩]) (by rfl) (fun v w w' h hb => h.below hb)
        · intro w' hC hf R hR
          have hS := S w' hC
          go_simp
          exact hR _ _ (RdE.one (x := (⟨n1, n2, n3⟩ : En)) (Row.new w' 48 (encEl ⟨n1, n2, n3⟩))) (bl_alloc (Below.refl _ _) _)
        intro v2
        simp only [Act.put, List.setIfInBounds_toArray, List.set_cons_zero, List.set_cons_succ]
        refine wpRel_nil (fun w7 hC hf => ?_)
        have f2 := hf _ (List.mem_cons_self ..)
        have f1 := hf _ (List.mem_cons_of_mem _ (List.mem_cons_self ..))
        clear hf
        have hlm := HJT.out
        apply wpList_app entT rfl _ _ rfl rfl f1 rfl f2 (by rw [hlm]; exact smallB (by have := HXL.out; simp; omega)) (by rw [hlm]; have := HXL.out; simp; omega) hC.size
        intro v5 w8 hs8 ht8
        have hb8 : Below wz.heap.size wz w8 := hC.trans (ht8.below hC.size (fun y hy => (SlE.lt f1 y hy).1))
        have HS8 := Lib.hid hs8
        have HB8 := Lib.hid hb8
        have HR8 := Lib.hid (HRZ.out.below hb8)
        have HBS8 : Hid (wz.heap.size ≤ w8.heap.size) := Lib.hid hb8.size
        have HL8 : Hid ((l.take j ++ [(⟨n1, n2, n3⟩ : En)]).length + (l.drop j).length ≤ 10000) := Lib.hid (by rw [List.length_append, hlm, List.length_drop]; have := HXL.out; simp; omega)
        have c8 : w8.cell? ⟨g, k * 199 + 6, none⟩ = some (.slice sq l.length cq) := (hb8.cell (p := ⟨g, k * 199 + 6, none⟩) HGZ.out).trans HCZ.out.1
        have hj9 : (j : Int) ≤ (l.length : Int) := by omega
        have hlc : (l.length : Int) ≤ (cq : Int) := by omega
        clear hs8 ht8 hb8 f1 f2 hC S hlm
        by_cases hcc : cq = j
        case' neg =>
          have hcl2 : (cq = j) = False := by simp [hcc]
          obtain ⟨a, rfl⟩ : ∃ a, sq = some a := by
                cases sq with
                | none => have := RdE.nosp HR8.out; omega
                | some a => exact ⟨a, rfl⟩
          have HRT : Hid (RdEn w8 _ (l.drop j)) := Lib.hid (RdE.dropped HR8.out hj hcc)
          clear hcc
        case' pos =>
          have hcl2 : (cq = j) = True := by simp [hcc]
          have HRT : Hid (RdEn w8 (.slice sq (l.length - j) (cq - j)) (l.drop j)) := Lib.hid (by rw [hcc, show l.length - j = 0 by omega, Nat.sub_self, List.drop_of_length_le (by omega)]; exact RdE.empty _ _ _ _)
          clear hcc
        all_goals
          go_wp2_with (at_builtin; refine wpList_app entT rfl _ _ rfl rfl HS8.out rfl (by exact HRT.out) (by have := HL8.out; exact smallB (by omega)) (by have := HL8.out; omega) HBS8.out ?_; intro v6 w9 hs9 ht9; obtain ⟨sp9, n9, cp9, rfl⟩ := slShape3 hs9; have hb9 := HB8.out.trans (ht9.below HBS8.out (fun y hy => (SlE.lt HS8.out y hy).1)); have c9 := (hb9.cell (p := ⟨g, k * 199 + 6, none⟩) HGZ.out).trans HCZ.out.1; have f9 := (hb9.frozen (p := ⟨g, k * 199 + 6, none⟩) HGZ.out).trans HCZ.out.2; have HS9 := Lib.hid hs9; have HB9 := Lib.hid hb9; clear hs9 ht9 hb9)
          go_end0
          rw [← HP.out]
          refine ⟨rfl, ?_⟩
          rw [HL.out, HINS.out, HPO.out]
          exact HD.out.putEnts (bl_trans HBA.out (bl_trans HBZ.out HB9.out)) HV.out HX.out (HS9.out.mono (Nat.le_trans HBA.out.size HBZ.out.size))
set_option maxHeartbeats 4000000 in
theorem mdel_any (h : DW B T w m st v ms) (hn : ms.length ≤ 512) {dir : Int} {k : Nat} {x : MN} (hk : placeM ms dir = (k : Int)) (hx : ms[k]? = some x) (hxl : x.nr.ents.length ≤ 8192) (hrise : RiseE x.nr.ents) (s : ByteArray) {en : En} (hen : entOf x.nr.ents s = some en) :
    Calls Tryz.prog 53 #[.pointer (some ⟨m, 0, none⟩), .int .i64 dir, .string s] w fun r w' => r = .returned (.tuple #[]) ∧ DEnt B T w m st v ms k x (cutE s x.nr.ents) w' := by
  have hkl := (List.getElem?_eq_some_iff.1 hx).1
  obtain ⟨g, cap, hv, hg⟩ := h.block (by rintro rfl; simp at hkl)
  obtain ⟨j, y, p1, p2, p3, hcut⟩ : ∃ (j : Nat) (y : En), placeE x.nr.ents s = (j : Int) ∧ j < x.nr.ents.length ∧ x.nr.ents[j]? = some y ∧ cutE s x.nr.ents = x.nr.ents.take j ++ x.nr.ents.drop (j + 1) := by
    rcases placeE_ent x.nr.ents s with ⟨_, p2⟩ | ⟨j, y, p1, p2, p3, p4⟩
    · rw [hen] at p2; cases p2
    · exact ⟨j, y, p1, p2, p3, cutE_at hrise p3 (by rw [entOf_name p4])⟩
  have HCUT := Lib.hid hcut
  have ce := h.cell hv (j := 6) hx (by omega)
  rw [(encM_get x).2.2.2.2.2.2] at ce
  have hre := (h.ents x (List.mem_of_getElem? hx)).1
  obtain ⟨sq, cq, hsq, hcq⟩ := RdE.shape hre
  rw [hsq] at hre ce
  have HRE := Lib.hid hre
  have HK := Lib.hid hk
  have HV := Lib.hid hv
  have HX := Lib.hid hx
  have HD := Lib.hid h
  have hf6 : w.frozen? ⟨g, k * 199 + 6, none⟩ = false := h.sl.froz (by rw [hv]; rfl) _
  have HF6 := Lib.hid (And.intro ce (And.intro hf6 hg))
  generalize hP : (fun (r : Ending) (w' : World) => r = .returned (.tuple #[]) ∧ DEnt B T w m st v ms k x (cutE s x.nr.ents) w') = Post
  have HP := Lib.hid hP
  obtain ⟨l, hl⟩ : ∃ l, x.nr.ents = l := ⟨_, rfl⟩
  rw [hl] at hxl ce hcq p1 p2
  rw [hl] at HCUT HRE HF6
  have HL := Lib.hid hl
  have HXL := Lib.hid hxl
  have HP1 := Lib.hid p1
  clear h hk hx hv hre hsq hP hf6 hg hl hcut p1 p3 hen hrise
  go_enter Tryz.func53, Tryz.ntmps53
  go_wp2_with fail
  refine (dget_some HD.out (by omega) dir HK.out hkl HV.out).mono ?_
  rintro r w1 ⟨rfl, rfl⟩
  have hgl := HF6.out.2.2
  go_wp2_with fail
  refine (dfind_any HRE.out (by omega) s).mono ?_
  rw [HP1.out]
  rintro r w1 ⟨rfl, rfl⟩
  have hjc : j ≤ cq := by omega
  have hwr : IntKind.i64.wrap ((j : Int) + 1) = (j : Int) + 1 := IntWalk.i64_in _ (by omega)
  have hj0 : (0 : Int) ≤ (j : Int) := by omega
  have hj1 : (j : Int) < (l.length : Int) := by omega
  have hj9 : (j : Int) + 1 ≤ (l.length : Int) := by omega
  have hlc : (l.length : Int) ≤ (cq : Int) := by omega
  have HJT : Hid ((l.take j).length = j) := Lib.hid (by rw [List.length_take]; omega)
  have S : ∀ w', Below w.heap.size w w' → w'.cell? ⟨g, k * 199 + 6, none⟩ = some (.slice sq l.length cq) := fun w' hb => (hb.cell (p := ⟨g, k * 199 + 6, none⟩) HF6.out.2.2).trans HF6.out.1
  clear ce hgl
  by_cases hcc : cq = j + 1
  case' neg =>
    have hcl2 : (cq = j + 1) = False := by simp [hcc]
    obtain ⟨a, rfl⟩ : ∃ a, sq = some a := by
      cases sq with
      | none => have := RdE.nosp HRE.out; omega
      | some a => exact ⟨a, rfl⟩
    have HRT : Hid (RdEn w _ (l.drop (j + 1))) := Lib.hid (RdE.dropped HRE.out (by omega) hcc)
    clear hcc
  case' pos =>
    have hcl2 : (cq = j + 1) = True := by simp [hcc]
    have HRT : Hid (RdEn w (.slice sq (l.length - (j + 1)) (cq - (j + 1))) (l.drop (j + 1))) := Lib.hid (by rw [hcc, show l.length - (j + 1) = 0 by omega, Nat.sub_self, List.drop_of_length_le (by omega)]; exact RdE.empty _ _ _ _)
    clear hcc
  all_goals
    as_aux_lemma =>
      go_wp2_with fail
      apply wp_region_tail 18 _ (by kernel_rfl) (by kernel_rfl) (by kernel_rfl) (by decide) (fun w' => Below w.heap.size w w') (fun w' w'' => Below w'.heap.size w' w'') (fun w' w'' h1 h2 => bl_trans h1 h2) (Below.refl _ _).drew
      simp only [List.take_succ_cons, List.take_zero, List.drop_succ_cons, List.drop_zero]
      repeat (first
        | (apply wpRel_skip (by rfl)
           simp only [Act.put, List.setIfInBounds_toArray, List.set_cons_zero, List.set_cons_succ])
        | (apply wpRel_fix (by rfl)
           · intro w' hC hf R hR
             have hS := S w' hC
             go_simp
             exact hR _ (Below.refl _ _)
           simp only [Act.put, List.setIfInBounds_toArray, List.set_cons_zero, List.set_cons_succ]))
      apply wpRel_rel (fun v w' => ∃ H, v = .slice (some ⟨H, 0, none⟩) (l.take j).length (l.take j).length ∧ w.heap.size ≤ H ∧ Row w' H 48 (flat encEl (l.take j))) (by rfl) (fun v w w' ⟨H, h1, h2, h3⟩ hb => ⟨H, h1, h2, h3.below hb⟩)
      · intro w' hC hf R hR
        go_simp
        refine (entrys_full ((RdE.taken HRE.out (show j ≤ l.length by omega)).below hC) (by rw [HJT.out]; have := HXL.out; omega)).mono ?_
        rintro e w'' ⟨⟨H, rfl, h7, h8⟩, hb⟩
        exact ⟨_, rfl, hR _ _ ⟨H, rfl, Nat.le_trans hC.size h7, h8⟩ hb⟩
      intro v1
      simp only [Act.put, List.setIfInBounds_toArray, List.set_cons_zero, List.set_cons_succ]
      repeat (first
        | (apply wpRel_skip (by rfl)
           simp only [Act.put, List.setIfInBounds_toArray, List.set_cons_zero, List.set_cons_succ])
        | (apply wpRel_fix (by rfl)
           · intro w' hC hf R hR
             have hS := S w' hC
             go_simp
             exact hR _ (Below.refl _ _)
           simp only [Act.put, List.setIfInBounds_toArray, List.set_cons_zero, List.set_cons_succ]))
      apply wpRel_rel (fun v w' => SlEn w' w.heap.size v (l.take j ++ l.drop (j + 1))) (by rfl) (fun v w w' h hb => h.below hb)
      · intro w' hC hf R hR
        obtain ⟨H, hv1, hH, hrow⟩ := hf _ (List.mem_cons_self ..) (by kernel_rfl)
        exact giv_app_full entT _ _ rfl (xs := l.take j) rfl hv1 hrow hH rfl (by exact HRT.out.below hC) (by rw [HJT.out, List.length_drop]; have := HXL.out; exact smallB (by omega)) (by rw [HJT.out, List.length_drop]; have := HXL.out; omega) fun v' w'' h1 h2 => hR _ _ h1 h2
      intro v2
      simp only [Act.put, List.setIfInBounds_toArray, List.set_cons_zero, List.set_cons_succ]
      repeat (first
        | (apply wpRel_skip (by rfl)
           simp only [Act.put, List.setIfInBounds_toArray, List.set_cons_zero, List.set_cons_succ])
        | (apply wpRel_fix (by rfl)
           · intro w' hC hf R hR
             have hS := S w' hC
             go_simp
             exact hR _ (Below.refl _ _)
           simp only [Act.put, List.setIfInBounds_toArray, List.set_cons_zero, List.set_cons_succ]))
      refine wpRel_nil (fun w7 hC hf => ?_)
      have f1 := hf _ (List.mem_cons_self ..)
      clear hf
      obtain ⟨sp9, n9, cp9, rfl⟩ := slShape3 f1
      have c9 := S w7 hC
      have f9 := (hC.frozen (p := ⟨g, k * 199 + 6, none⟩) HF6.out.2.2).trans HF6.out.2.1
      have hgl := HF6.out.2.2
      have HS9 := Lib.hid f1
      have HB9 := Lib.hid hC
      clear f1 hC S
      go_wp2
      go_end0
      rw [← HP.out]
      refine ⟨rfl, ?_⟩
      rw [HL.out, HCUT.out]
      exact HD.out.putEnts HB9.out HV.out HX.out HS9.out
end
end Go.Proofs.YtnkcbogikaebfaaGreatDoor
end

section
/- The document's gone, Drop. -/
namespace Go.Proofs.YtnkcbogikaebfaaGreatDoor
open Go Go.RowKit
set_option maxRecDepth 100000
set_option linter.unusedSimpArgs false
set_option linter.unusedVariables false
attribute [local go_sem] giv
variable {E : Nat → Addr} {B : Nat}
section
variable {T : Nat → Prop} {w : World} {m : Nat} {st : St} {v : Value} {ms : List MN}
/-- The nodes put anew: a slice of new blocks in place of the elder one. -/
theorem DW.renew (h : DW B T w m st v ms) {w1 : World} (hb : Below w.heap.size w w1) {v' : Value} {ms' : List MN} {st' : St} (hs : SlE w1 w.heap.size 98 199 encM v' ms') (he : ms'.map MN.nr = st'.ns) (hl : st'.last = st.last) (hsub : ∀ x ∈ ms', x ∈ ms) :
    DW B (fun x => T x ∨ (w.heap.size ≤ x ∧ x < w1.heap.size)) (w1.setCell ⟨m, 2, none⟩ v') m st' v' ms' ∧ Touch (fun x => x = m) w (w1.setCell ⟨m, 2, none⟩ v') := by
  have hm := (h.lt m h.tm)
  have h1 := h.below hb
  have ht : Touch (fun x => x = m) w1 (w1.setCell ⟨m, 2, none⟩ v') := Touch.setCell (S := fun x => x = m) (p := ⟨m, 2, none⟩) (Touch.refl _ _) (.inl rfl) _
  refine ⟨⟨he, (World.cell?_setCell_other _ _ _ _ (by intro e; cases e)).trans (h1.c1.trans (by rw [hl])), World.cell?_setCell_same _ _ _ h1.c2, by simpa using h1.f1, by simpa using h1.f2, (hs.touch ht (fun y hy => ?_)).mono h.hB, fun y hy => ?_, fun x hx => ⟨((h1.ents x (hsub x hx)).1).touch ht (fun y hy => ((h1.ents x (hsub x hx)).2 y hy).2.1), fun y hy => ?_⟩, .inl h.tm, fun x hx => ?_, Nat.le_trans h1.hB ht.size, h1.ism.set 2 (by rcases hs.cases with ⟨e, _⟩ | ⟨_, _, e, _⟩ <;> rw [e] <;> rfl)⟩, ?_⟩
  · have := (SlE.lt hs y hy).1
    show ¬ y = m
    omega
  · have := SlE.lt hs y hy
    exact ⟨.inr this, by omega⟩
  · obtain ⟨h2, h3, h4⟩ := (h1.ents x (hsub x hx)).2 y hy
    refine ⟨.inl h2, h3, fun e => ?_⟩
    have h5 := (SlE.lt hs y e).1
    have h6 := (h.lt y h2).2
    omega
  · rcases hx with hx | hx
    · exact ⟨(h.lt x hx).1, Nat.lt_of_lt_of_le (h1.lt x hx).2 ht.size⟩
    · exact ⟨Nat.le_trans h.hB hx.1, Nat.lt_of_lt_of_le hx.2 ht.size⟩
  · exact (Touch.of_below hb NoB).mono (fun x hx _ => hx.elim) |>.trans ht (fun x hx _ => hx)
theorem emptyM (w : World) : SlE (w.alloc (.cells #[] 98)) w.heap.size 98 199 encM (.slice (some ⟨w.heap.size, 0, none⟩) 0 0) [] :=
  ⟨rfl, .inr ⟨w.heap.size, 0, #[], rfl, Nat.le_refl _, by show (w.heap.push _)[w.heap.size]? = _; rw [Array.getElem?_push]; simp, Nat.le_refl _, by unfold maxLen; omega, rfl, rfl⟩⟩
/-- A node is no more: what is left. -/
def DGone (B : Nat) (T : Nat → Prop) (w : World) (m : Nat) (st : St) (ms : List MN) (k : Nat) (w' : World) : Prop :=
  ∃ v', DW B (NewT T w w') w' m ⟨st.last, (ms.take k ++ ms.drop (k + 1)).map MN.nr⟩ v' (ms.take k ++ ms.drop (k + 1)) ∧ Touch (fun x => x = m) w w'
theorem small512 {j : Nat} (h : j ≤ 10000) : j ≤ maxLen := by unfold maxLen; omega
set_option maxHeartbeats 2000000 in
theorem dgone_any (h : DW B T w m st v ms) (hn : ms.length ≤ 512) (id : Int) {k : Nat} (hk : placeM ms id = (k : Int)) (hkl : k < ms.length) :
    Calls Tryz.prog 54 #[.pointer (some ⟨m, 0, none⟩), .int .i64 id] w fun e w' => e = .returned (.tuple #[]) ∧ DGone B T w m st ms k w' := by
  have HD := Lib.hid h
  have HK := Lib.hid hk
  obtain ⟨g, cap, hv, hg⟩ := h.block (by rintro rfl; simp at hkl)
  have hc2 := h.c2
  have hf2 := h.f2
  have hml := (h.lt m h.tm).2
  rw [hv] at hc2
  have hrd := h.sl.rd encM_len
  rw [hv] at hrd
  have HRD := Lib.hid hrd
  generalize hP : (fun (e : Ending) (w' : World) => e = .returned (.tuple #[]) ∧ DGone B T w m st ms k w') = Post
  have HP := Lib.hid hP
  have HC2 := Lib.hid (And.intro hc2 (And.intro hf2 hml))
  clear h hk hv hrd hP hf2
  have hk0 : (0 : Int) ≤ (k : Int) := by omega
  have hlc0 := HRD.out.len.2
  have hk1 : (k : Int) ≤ (cap : Int) := by omega
  have hkc : k ≤ cap := by omega
  have HOWN := Lib.hid (emptyM w)
  have HR1 := Lib.hid (RdE.taken (HRD.out.below (bl_alloc (Below.refl _ w) (.cells #[] 98))) (Nat.le_of_lt hkl))
  have HLT : Hid ((ms.take k).length = k) := Lib.hid (by rw [List.length_take]; omega)
  go_enter Tryz.func54, Tryz.ntmps54
  go_wp2_with fail
  refine (dat_any HD.out (by omega) id).mono ?_
  rw [HK.out]
  rintro e w1 ⟨rfl, rfl⟩
  go_upto_region 2 with (at_builtin; refine wpList_app mnT rfl _ _ rfl rfl HOWN.out rfl HR1.out (by rw [HLT.out]; exact small512 (by simp; omega)) (by rw [HLT.out]; simp; omega) (by simp) ?_; intro v' w' hs' ht'; have HS' := Lib.hid hs'; have HT' := Lib.hid ht'; clear hs' ht')
  have hb' : Below w.heap.size w w' := (bl_alloc (Below.refl _ w) (.cells #[] 98)).trans (HT'.out.below (by simp) (fun y hy => by have hy : (Value.slice (some ⟨w.heap.size, 0, none⟩) 0 0).ownBlock = some y := hy; simp [Value.ownBlock] at hy; omega))
  have c2' : w'.cell? ⟨m, 2, none⟩ = some (.slice (some ⟨g, 0, none⟩) ms.length cap) := (hb'.cell (p := ⟨m, 2, none⟩) hml).trans hc2
  have hml' : m < w'.heap.size := Nat.lt_of_lt_of_le hml hb'.size
  have HB' := Lib.hid hb'
  have hs2 := HS'.out
  rw [List.nil_append] at hs2
  have HS2 := Lib.hid hs2
  have HRDw := Lib.hid (HRD.out.below hb')
  have HLL : Hid ((ms.drop (k + 1)).length = ms.length - (k + 1)) := Lib.hid List.length_drop
  have hk2 : (k : Int) + 1 ≤ (ms.length : Int) := by omega
  have hlc : (ms.length : Int) ≤ (cap : Int) := by omega
  clear hb' hs2 hc2 hml HR1 HOWN HS' HT'
  by_cases hce : cap = k + 1
  case' neg =>
    have hcl2 : (cap = k + 1) = False := by simp [hce]
    have HRT : Hid (RdE w' 199 encM (.slice (some ⟨g, (k + 1) * 199, none⟩) (ms.length - (k + 1)) (cap - (k + 1))) (ms.drop (k + 1))) := Lib.hid (by have := RdE.droppedF HRDw.out (m := k + 1) (by omega) hce; rwa [Nat.zero_add] at this)
  case' pos =>
    have hcl2 : (cap = k + 1) = True := by simp [hce]
    have HRT : Hid (RdE w' 199 encM (.slice (some ⟨g, 0, none⟩) (ms.length - (k + 1)) (cap - (k + 1))) (ms.drop (k + 1))) := Lib.hid (by rw [hce, show ms.length - (k + 1) = 0 by omega, Nat.sub_self, List.drop_of_length_le (by omega)]; exact RdE.empty _ _ _ _)
    clear hce
  all_goals
    go_wp2_with (at_builtin; refine wpList_app mnT rfl _ _ rfl rfl HS2.out rfl (by exact HRT.out) (by rw [HLT.out, HLL.out]; exact small512 (by omega)) (by rw [HLT.out, HLL.out]; omega) (HB'.out.size) ?_; intro v2 w2 hs2 ht2; obtain ⟨sp2, n2, cp2, rfl⟩ := slShape3 hs2; have hb2 := HB'.out.trans (ht2.below HB'.out.size (fun y hy => (SlE.lt HS2.out y hy).1)); have c22 := (hb2.cell (p := ⟨m, 2, none⟩) HC2.out.2.2).trans HC2.out.1; have f22 := (hb2.frozen (p := ⟨m, 2, none⟩) HC2.out.2.2).trans HC2.out.2.1; have HS3 := Lib.hid hs2; have HB3 := Lib.hid hb2; clear hs2 ht2 hb2)
    go_end0
    rw [← HP.out]
    obtain ⟨r1, r2⟩ := HD.out.renew HB3.out (st' := ⟨st.last, (ms.take k ++ ms.drop (k + 1)).map MN.nr⟩) HS3.out rfl rfl (fun x hx => by
      rcases List.mem_append.1 hx with hx | hx
      · exact List.mem_of_mem_take hx
      · exact List.mem_of_mem_drop hx)
    refine ⟨rfl, _, r1.wide (fun x hx => ?_) (fun x hx => r1.lt x ?_), r2⟩
    · rcases hx with hx | hx
      · exact .inl hx
      · exact .inr (by simpa using hx)
    · rcases hx with hx | hx
      · exact .inl hx
      · exact .inr (by simpa using hx)
theorem ddrop_any (h : DW B T w m st v ms) (hn : ms.length ≤ 512) (id : Int) {k : Nat} (hk : placeM ms id = (k : Int)) (hkl : k < ms.length) :
    Calls Tryz.prog 49 #[.pointer (some ⟨m, 0, none⟩), .int .i64 id] w fun e w' => e = .returned (.tuple #[]) ∧ DGone B T w m st ms k w' := by
  have HD := Lib.hid h
  have HK := Lib.hid hk
  generalize hP : (fun (e : Ending) (w' : World) => e = .returned (.tuple #[]) ∧ DGone B T w m st ms k w') = Post
  have HP := Lib.hid hP
  clear h hk hP
  go_enter Tryz.func49, Tryz.ntmps49
  go_wp2_with fail
  refine (dgone_any HD.out hn id HK.out hkl).mono ?_
  rintro e w1 ⟨rfl, hg⟩
  have HG := Lib.hid hg
  clear hg
  go_wp2
  go_end0
  rw [← HP.out]
  exact ⟨rfl, HG.out⟩
end
end Go.Proofs.YtnkcbogikaebfaaGreatDoor
end

section
/- append onto a slice of one's own: what it keeps of what was there. -/
namespace Go.Proofs.YtnkcbogikaebfaaGreatDoor
open Go Go.RowKit
set_option maxRecDepth 100000
set_option linter.unusedSimpArgs false
set_option linter.unusedVariables false
theorem SlE.row_keep {α : Type} {w w' : World} {base : Nat} {e : TypeId} {k : Nat} {enc : α → List Value} {v : Value} {xs : List α} (h : SlE w base e k enc v xs) (hk : ∀ x, v.ownBlock = some x → w'.heap[x]? = w.heap[x]?) : SlE w' base e k enc v xs := by
  obtain ⟨h1, h2⟩ := h
  refine ⟨h1, ?_⟩
  rcases h2 with h | ⟨g, cap, cur, rfl, h4, h5, h6⟩
  · exact .inl h
  · exact .inr ⟨g, cap, cur, rfl, h4, (hk g rfl).trans h5, h6⟩
theorem run_app_keep {α : Type} {P : Program} {w : World} {t e ty : TypeId} {k bytes : Nat} {enc : α → List Value} (E : ElemT P t e k bytes enc) {base : Nat} {v u : Value} {xs ys : List α} (hown : SlE w base e k enc v xs) (hrd : RdE w k enc u ys)
    (hm : xs.length + ys.length ≤ maxLen) (hn : (xs.length + ys.length) * bytes ≤ 140737488355328) (hbase : base ≤ w.heap.size) :
    ∃ v' w', (Builtin.append_ #[t, t] ty #[v, u]).run P w = .ok v' w' ∧ SlE w' base e k enc v' (xs ++ ys) ∧ Touch (fun x => v.ownBlock = some x) w w' ∧ (∀ x, v'.ownBlock = some x → v.ownBlock = some x ∨ w.heap.size ≤ x) ∧
      SlE w' base e k enc v xs ∧ ∀ v0, SlE w base e k enc v0 (xs ++ ys) → SlE w' base e k enc v0 (xs ++ ys) := by
  obtain ⟨v', w', hr, g1, g2, g3⟩ := run_app_place (ty := ty) E hown hrd hm hn hbase
  have hbelow : Below w.heap.size w w' → SlE w' base e k enc v xs ∧ ∀ v0, SlE w base e k enc v0 (xs ++ ys) → SlE w' base e k enc v0 (xs ++ ys) := fun hb => ⟨hown.below hb, fun v0 h0 => h0.below hb⟩
  refine ⟨v', w', hr, g1, g2, g3, ?_⟩
  obtain ⟨z, hz, hinf⟩ := E.info
  obtain ⟨i, i1, i2, i3, i4⟩ := info_parts hinf
  have hlx := flat_len E.len xs
  have hly := flat_len E.len ys
  obtain ⟨sp, cap, rfl, h1, h2, h3⟩ := hrd
  cases sp with
  | none =>
    have hc := h2 rfl
    subst hc
    have hy : ys = [] := List.eq_nil_of_length_eq_zero (by omega)
    subst hy
    have hr2 := run_append_owned_none (P := P) (w := w) base t ty e i k E.ht i1 _ xs.length (flat enc xs) hown
    have hr3 := hr.symm.trans hr2
    injection hr3 with e1 e2
    subst e2
    exact hbelow (Below.refl _ _)
  | some ad =>
    have hnews : ∀ j y, (flat enc ys)[j]? = some y → w.cell? (ad.add j) = some y := by
      intro j y hj
      have hjl : j < ys.length * k := by
        rw [← flat_len E.len ys]
        exact (List.getElem?_eq_some_iff.1 hj).1
      have hyn : ys ≠ [] := by rintro rfl; simp at hjl
      obtain ⟨b, off, hsp, h5, h6⟩ := h3 hyn
      cases hsp
      have hk := E.pos
      have hd : j / k < ys.length := (Nat.div_lt_iff_lt_mul hk).2 hjl
      have hmod : j % k < k := Nat.mod_lt _ hk
      have hj2 : j / k * k + j % k = j := by rw [Nat.mul_comm]; exact Nat.div_add_mod j k
      rw [show (⟨b, off, none⟩ : Addr).add j = ⟨b, off + j, none⟩ by unfold Addr.add; split <;> simp_all]
      have := h6 (j / k) (j % k) hd hmod
      rw [Nat.add_assoc, hj2, ← flat_get E.len ys _ _ hd hmod, hj2] at this
      rw [this, hj]
    have hone : ∀ y ∈ flat enc ys, y.oneCell' = true := by
      intro y hy
      obtain ⟨x, _, hx⟩ := List.mem_flatMap.1 hy
      exact E.one x y hx
    have hsx : xs.length + ys.length ≤ 9223372036854775807 := by unfold maxLen at hm; omega
    have hown0 := hown
    obtain ⟨hw1, ⟨rfl, hw2⟩ | ⟨g, cp, cur, rfl, hbg, hcur, hnc, hcm, hcs, htake⟩⟩ := hown0
    · have hx0 : xs = [] := List.eq_nil_of_length_eq_zero hw2
      subst hx0
      by_cases hy0 : ys.length = 0
      · have hy : ys = [] := List.eq_nil_of_length_eq_zero hy0
        subst hy
        have hr2 : (Builtin.append_ #[t, t] ty #[.slice none 0 0, .slice (some ad) 0 cap]).run P w = .ok (.slice none 0 0) w := by
          simp [Builtin.append_, run_underlying E.ht, sizeOf, typeInfo, i1, Builtin.lenOf, Builtin.firstCells, loadCells, loadCellsFrom]
        have hr3 := hr.symm.trans hr2
        injection hr3 with e1 e2
        subst e2
        exact hbelow (Below.refl _ _)
      · have hr2 := run_append_nil (P := P) w t ty e i z E.ht i1 i2 ad ys.length cap (flat enc ys) (by rw [i3]; exact hly) hnews (by omega) (by omega) (by rw [i4]; have hb := hn; simp only [List.length_nil, Nat.zero_add] at hb; omega)
        have hr3 := hr.symm.trans hr2
        injection hr3 with e1 e2
        subst e2
        exact hbelow ((Below.refl _ _).drew.alloc (Nat.le_refl _) _)
    · by_cases hroom : xs.length + ys.length ≤ cp
      · have hfit : xs.length * i.size + (flat enc ys).length ≤ cur.size := by rw [hly, hcs, i3, ← Nat.add_mul]; exact Nat.mul_le_mul_right _ hroom
        have hr2 := run_append_room (P := P) w t ty e i E.ht i1 g xs.length cp cur hcur ad ys.length cap (flat enc ys) (by rw [i3]; exact hly) hnews hone hroom hfit
        have hr3 := hr.symm.trans hr2
        injection hr3 with e1 e2
        subst e1 e2
        refine ⟨⟨hlx, .inr ⟨g, cp, _, rfl, hbg, setRow_heap w g cur _ e _ hcur, hnc, hcm, ?_, ?_⟩⟩, fun v0 h0 => ?_⟩
        · rw [i3] at hfit ⊢
          simp only [List.size_toArray, List.length_append, List.length_take, List.length_drop, Array.length_toList]
          omega
        · rw [i3]
          simp only [List.append_assoc]
          have hcl : cur.toList.length = cp * k := by rw [Array.length_toList (xs := cur), hcs]
          have hle : xs.length * k ≤ cp * k := Nat.mul_le_mul_right _ hnc
          rw [List.take_append_of_le_length (by rw [List.length_take, hcl]; omega), List.take_take, Nat.min_self]
          exact htake
        · have h00 := h0
          obtain ⟨k1, k2 | ⟨g0, cp0, cur0, rfl, kb, kcur, kn, km, ks, kt⟩⟩ := h0
          · exact ⟨k1, .inl k2⟩
          · by_cases hg : g0 = g
            · subst hg
              have hc0 : cur0 = cur := by
                have := kcur.symm.trans hcur
                injection this with this
                injection this
              subst hc0
              have hcp : cp0 = cp := Nat.eq_of_mul_eq_mul_right E.pos (ks.symm.trans hcs)
              subst hcp
              rw [List.length_append]
              exact g1
            · exact h00.row_keep (fun x hx => by
                have hx : x = g0 := by simpa [Value.ownBlock] using hx.symm
                subst hx
                exact setRow_other w g x _ hg)
      · have holds : ∀ j u, (flat enc xs)[j]? = some u → w.cell? ((⟨g, 0, none⟩ : Addr).add j) = some u := World.ownsRow.cells hown (g := g) rfl
        have hr2 := run_append_grow (P := P) w t ty e i z E.ht i1 i2 ⟨g, 0, none⟩ xs.length cp (flat enc xs) (by rw [i3]; exact hlx) holds ad ys.length cap (flat enc ys) (by rw [i3]; exact hly) hnews (by omega) (by omega) (growslice_fits (by omega) (by rw [i4]; exact hn))
        have hr3 := hr.symm.trans hr2
        injection hr3 with e1 e2
        subst e2
        exact hbelow ((Below.refl _ _).drew.alloc (Nat.le_refl _) _)
end Go.Proofs.YtnkcbogikaebfaaGreatDoor
end
