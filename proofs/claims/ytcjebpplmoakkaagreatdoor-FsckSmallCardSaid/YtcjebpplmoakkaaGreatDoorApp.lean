/- Slicing slices whose elements are several cells; append onto a slice that is full, in a drawn region: it turns nothing that was there. -/
import Derived.Test.YtcjebpplmoakkaaGreatDoorEls
import Derived.Test.YtcjebpplmoakkaaGreatDoorRegion
import Derived.Laws.OwnMore
namespace Go.Proofs.YtcjebpplmoakkaaGreatDoor
open Go Go.RowKit
set_option maxRecDepth 100000

section
variable {α : Type} {w w' : World} {k : Nat} {enc : α → List Value} {sp : Option Addr} {n cap m : Nat} {xs : List α}
theorem RdE.shape {v : Value} (r : RdE w k enc v xs) : ∃ sp cap, v = .slice sp xs.length cap ∧ xs.length ≤ cap := by
  obtain ⟨sp, cap, h, h2, _⟩ := r; exact ⟨sp, cap, h, h2⟩
theorem RdE.taken (r : RdE w k enc (.slice sp n cap) xs) (hm : m ≤ n) : RdE w k enc (.slice sp m cap) (xs.take m) := by
  obtain ⟨sp', cap', he, h1, h2, h3⟩ := r
  injection he with e1 e2 e3
  subst e1 e2 e3
  have hlen : (xs.take m).length = m := by rw [List.length_take]; omega
  refine ⟨sp, cap, by rw [hlen], by omega, h2, fun hne => ?_⟩
  obtain ⟨h, off, h4, h5, h6⟩ := h3 (by rintro rfl; simp at hne)
  refine ⟨h, off, h4, h5, fun i j hi hj => ?_⟩
  rw [hlen] at hi
  rw [h6 i j (by omega) hj, List.getElem?_take, if_pos hi]
theorem RdE.nosp (r : RdE w k enc (.slice none n cap) xs) : cap = 0 ∧ n = 0 := by
  obtain ⟨sp', cap', he, h1, h2, h3⟩ := r
  injection he with e1 e2 e3
  subst e1 e2 e3
  have := h2 rfl
  omega
theorem RdE.dropped {a : Addr} (r : RdE w k enc (.slice (some a) n cap) xs) (hl : m ≤ n) (hc : ¬ cap = m) : RdE w k enc (.slice (some (a.add (m * k))) (n - m) (cap - m)) (xs.drop m) := by
  have hn := r.len
  have h := RdE.sliced r (l := m) (h := n) hl (by omega)
  rw [List.take_of_length_le (by rw [List.length_drop]; omega)] at h
  unfold Go.sliced at h
  rw [if_neg (by omega)] at h
  exact h
theorem RdE.droppedF {h off : Nat} (r : RdE w k enc (.slice (some ⟨h, off, none⟩) n cap) xs) (hl : m ≤ n) (hc : ¬ cap = m) : RdE w k enc (.slice (some ⟨h, off + m * k, none⟩) (n - m) (cap - m)) (xs.drop m) := by
  have := r.dropped hl hc
  rwa [show (⟨h, off, none⟩ : Addr).add (m * k) = ⟨h, off + m * k, none⟩ by unfold Addr.add; split <;> simp_all] at this
theorem RdE.empty (w : World) (k : Nat) (enc : α → List Value) (sp : Option Addr) : RdE w k enc (.slice sp 0 0) [] := ⟨sp, 0, rfl, Nat.le_refl _, fun _ => rfl, fun h => (h rfl).elim⟩
end

theorem wp_fromB {P : Program} {c : Code} {Q : Exit → Act → World → Prop} {a : Act} {w : World} (W0 : World) (h : Below W0.heap.size W0 w) (k : ∀ w', Below W0.heap.size W0 w' → c.wp P Q a w') : c.wp P Q a w := k w h

/-- 'append(s, x...)' where s is full. -/
theorem giv_app_full {α : Type} {P : Program} {w : World} {o : Oper} {a : Act} {R : Value → World → Prop} {t e : TypeId} {k bytes : Nat} {enc : α → List Value} (E : ElemT P t e k bytes enc) (s x : Operand)
    (ho : o.op = .call { callee := .builtin .append, args := #[s, x], argTypes := #[t, t] }) {base h : Nat} {v u : Value} {xs ys : List α} (hs : a.eval s = v) (hv : v = .slice (some ⟨h, 0, none⟩) xs.length xs.length) (hrow : Row w h e (flat enc xs)) (hb : base ≤ h)
    (hx : a.eval x = u) (hrd : RdE w k enc u ys) (hm : xs.length + ys.length ≤ maxLen) (hn : (xs.length + ys.length) * bytes ≤ 140737488355328)
    (hR : ∀ v' w', SlE w' base e k enc v' (xs ++ ys) → Below w.heap.size w w' → R v' w') : giv P o a w R := by
  subst hv
  have hlt := hrow.lt
  obtain ⟨z, hz, hinf⟩ := E.info
  obtain ⟨i, i1, i2, i3, i4⟩ := info_parts hinf
  have hlx := flat_len E.len xs
  have hcur : w.heap[h]? = some (.cells (flat enc xs).toArray e (0, 0)) := hrow
  have hown : SlE w base e k enc (.slice (some ⟨h, 0, none⟩) xs.length xs.length) xs :=
    ⟨hlx, .inr ⟨h, xs.length, (flat enc xs).toArray, rfl, hb, hcur, Nat.le_refl _, by omega, by simp [hlx], by rw [← hlx]; simp⟩⟩
  have hsx : xs.length ≤ 9223372036854775807 := by unfold maxLen at hm; omega
  obtain ⟨v', w', hrun, h1, h2⟩ : ∃ v' w', (Builtin.append_ #[t, t] o.type #[.slice (some ⟨h, 0, none⟩) xs.length xs.length, u]).run P w = .ok v' w' ∧ SlE w' base e k enc v' (xs ++ ys) ∧ Below w.heap.size w w' := by
    obtain ⟨sp, cap, rfl, c1, c2, c3⟩ := hrd
    cases sp with
    | none =>
      have hc := c2 rfl
      subst hc
      have hy : ys = [] := List.eq_nil_of_length_eq_zero (by omega)
      subst hy
      exact ⟨_, _, run_append_owned_none (P := P) (w := w) base t o.type e i k E.ht i1 _ xs.length (flat enc xs) hown, by rw [List.append_nil]; exact hown, Below.refl _ _⟩
    | some ad =>
      have hnews : ∀ j y, (flat enc ys)[j]? = some y → w.cell? (ad.add j) = some y := by
        intro j y hj
        have hjl : j < ys.length * k := by
          rw [← flat_len E.len ys]
          exact (List.getElem?_eq_some_iff.1 hj).1
        have hyn : ys ≠ [] := by rintro rfl; simp at hjl
        obtain ⟨b, off, hsp, h5, h6⟩ := c3 hyn
        cases hsp
        have hk := E.pos
        have hd : j / k < ys.length := (Nat.div_lt_iff_lt_mul hk).2 hjl
        have hmod : j % k < k := Nat.mod_lt _ hk
        have hj2 : j / k * k + j % k = j := by rw [Nat.mul_comm]; exact Nat.div_add_mod j k
        rw [show (⟨b, off, none⟩ : Addr).add j = ⟨b, off + j, none⟩ by unfold Addr.add; split <;> simp_all]
        have := h6 (j / k) (j % k) hd hmod
        rw [Nat.add_assoc, hj2, ← flat_get E.len ys _ _ hd hmod, hj2] at this
        rw [this, hj]
      have hone : ∀ y ∈ flat enc ys, y.oneCell' = true := by
        intro y hy
        obtain ⟨x, _, hx⟩ := List.mem_flatMap.1 hy
        exact E.one x y hx
      have hly := flat_len E.len ys
      by_cases hy0 : ys.length = 0
      · have hy : ys = [] := List.eq_nil_of_length_eq_zero hy0
        subst hy
        have hr := run_append_room (P := P) w t o.type e i E.ht i1 h xs.length xs.length (flat enc xs).toArray hcur ad 0 cap (flat enc ([] : List α)) (by simp [flat]) hnews hone (by omega) (by rw [i3]; simp [flat, ← hlx])
        have e1 : ((flat enc xs).toArray.toList.take (xs.length * i.size) ++ flat enc ([] : List α) ++ (flat enc xs).toArray.toList.drop (xs.length * i.size + (flat enc ([] : List α)).length)).toArray = (flat enc xs).toArray := by
          rw [i3, ← hlx]; simp [flat]
        rw [e1] at hr
        have hsame : ∀ j : Nat, j < w.heap.size → (w.setRow h (flat enc xs).toArray).heap[j]? = w.heap[j]? := by
          intro j hj
          by_cases hjh : j = h
          · subst hjh
            rw [setRow_heap w j _ _ e _ hcur, hcur]
          · exact setRow_other w h j _ hjh
        have hbl : Below w.heap.size w (w.setRow h (flat enc xs).toArray) := ⟨rfl, rfl, rfl, by simp, hsame⟩
        refine ⟨_, _, hr, ?_, hbl⟩
        rw [List.append_nil]
        exact hown.below hbl
      · have holds : ∀ j u, (flat enc xs)[j]? = some u → w.cell? ((⟨h, 0, none⟩ : Addr).add j) = some u := hown.cells (g := h) rfl
        have hr := run_append_grow (P := P) w t o.type e i z E.ht i1 i2 ⟨h, 0, none⟩ xs.length xs.length (flat enc xs) (by rw [i3]; exact hlx) holds ad ys.length cap (flat enc ys) (by rw [i3]; exact hly) hnews (by omega) (by unfold maxLen at hm; omega)
          (growslice_fits (by omega) (by rw [i4]; exact hn))
        refine ⟨_, _, hr, ?_, (Below.refl w.heap.size w).drew.alloc (Nat.le_refl _) _⟩
        have hge := grownCap_ge w (xs.length + ys.length) xs.length e
        have hcm : grownCap w (xs.length + ys.length) xs.length e ≤ maxLen := grownCap_le_maxLen w (xs.length + ys.length) xs.length e hm
        refine ⟨flat_len E.len _, .inr ⟨w.heap.size, _, _, by rw [List.length_append], Nat.le_trans hb (Nat.le_of_lt hlt), heap_alloc_new w.drew _, by rw [List.length_append]; exact hge, hcm, ?_, ?_⟩⟩
        · simp only [Array.size_append, List.size_toArray, size_zeroCells, hz, hlx, hly, ← Nat.add_mul]
          congr 1
          omega
        · simp only [Array.toList_append, List.append_assoc]
          rw [← List.append_assoc, ← flat_append, ← flat_len E.len (xs ++ ys)]
          exact List.take_left
  unfold giv
  simp [execOp, ho, resolve, invoke, builtin, hs, hx, hrun, Result.andThen]
  exact hR _ _ h1 h2
end Go.Proofs.YtcjebpplmoakkaaGreatDoor
