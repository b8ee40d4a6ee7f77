/- Merged texts: Range. -/
import Derived.Test.YtjekpbkmhgfhoaaGreatDoorGBase06
import Derived.Test.YtjekpbkmhgfhoaaGreatDoorGBase03
import Derived.Maps.RangeWalk
section
/- Ranging over a map that is a function of its keys: what is still to come, as a list of keys. -/
namespace Go.Proofs.YtjekpbkmhgfhoaaGreatDoor
open Go Go.Maps Go.RowKit
set_option maxRecDepth 100000

/-- Block r goes over the map of block b, which holds g: 'left' are the keys that are still to come, each once, cnt of them. -/
def Rng {K V : Type} (eK : K → Value) (eV : V → Value) (w : World) (r b : Nat) (g : K → Option V) (left : List K) (cnt : Nat) : Prop :=
  ∃ es clock since seen c0, w.heap[b]? = some (.map es clock) ∧ MapKept.Stamped es clock ∧ (∀ e ∈ es.toList, ∃ k v, e.key = eK k ∧ e.val = eV v ∧ g k = some v) ∧
    w.heap[r]? = some (.mapIter (some b) since seen c0) ∧ (∀ x ∈ es.toList, x.born < since) ∧ since ≤ c0 ∧ since ≤ clock ∧ (leftOf es seen).size = cnt ∧ left.Nodup ∧
    ∀ k, k ∈ left ↔ ∃ x ∈ es.toList, x.key = eK k ∧ seen.contains x.born = false

section
variable {P : Program} {kt : TypeId} {K V : Type} {eK : K → Value} {eV : V → Value} {w : World} {r b n cnt : Nat} {g : K → Option V} {left : List K}

theorem Rng.keep {w' : World} (h : Rng eK eV w r b g left cnt) (hr : w'.heap[r]? = w.heap[r]?) (hb : w'.heap[b]? = w.heap[b]?) : Rng eK eV w' r b g left cnt := by
  obtain ⟨es, clock, since, seen, c0, h1, h2, h3, h4, h5⟩ := h
  exact ⟨es, clock, since, seen, c0, hb.trans h1, h2, h3, hr.trans h4, h5⟩
theorem Rng.lt (h : Rng eK eV w r b g left cnt) : r < w.heap.size ∧ b < w.heap.size := by
  obtain ⟨es, clock, since, seen, c0, h1, h2, h3, h4, h5⟩ := h
  exact ⟨(Array.getElem?_eq_some_iff.1 h4).1, (Array.getElem?_eq_some_iff.1 h1).1⟩
theorem Rng.ne (h : Rng eK eV w r b g left cnt) : r ≠ b := by
  obtain ⟨es, clock, since, seen, c0, h1, h2, h3, h4, h5⟩ := h
  rintro rfl
  rw [h1] at h4
  cases h4
theorem Rng.below {w' : World} (h : Rng eK eV w r b g left cnt) (hb : Below w.heap.size w w') : Rng eK eV w' r b g left cnt := h.keep (hb.block _ h.lt.1) (hb.block _ h.lt.2)
theorem Rng.left_eq (h : Rng eK eV w r b g left cnt) : w.rangeLeft b r = cnt := by
  obtain ⟨es, clock, since, seen, c0, h1, h2, h3, h4, _, _, _, h5, _⟩ := h
  simp only [World.rangeLeft, h1, h4]
  exact h5

theorem MapAt.range {t et : TypeId} (h : MapAt P kt eK eV w b g n) (ht : P.underlying t = some (.map kt et)) (hinj : ∀ a b, eK a = eK b → a = b) :
    ∃ w' ks, (Instr.range t (.map (some b))).run P w = .ok (.pointer (some ⟨w.heap.size, 0, none⟩)) w' ∧ Rng eK eV w' w.heap.size b g ks ks.length ∧ (∀ k, k ∈ ks ↔ (g k).isSome = true) ∧ ks.length = n ∧ Below w.heap.size w w' ∧ w.heap.size < w'.heap.size := by
  have hlt := h.lt
  obtain ⟨es, clk, hb, hst, hs, h1, h2⟩ := h
  have hks : ∀ l : List MapEntry, (∀ x ∈ l, x ∈ es.toList) → ∃ ks : List K, l.map (·.key) = ks.map eK := by
    intro l
    induction l with
    | nil => intro _; exact ⟨[], rfl⟩
    | cons x l ih =>
      intro hl
      obtain ⟨ks, i1⟩ := ih fun y hy => hl y (List.mem_cons_of_mem _ hy)
      obtain ⟨k, v, e1, _⟩ := h1 x (hl x (List.mem_cons_self ..))
      exact ⟨k :: ks, by simp [e1, i1]⟩
  obtain ⟨ks, k1⟩ := hks es.toList fun _ h => h
  have hlen : ks.length = n := by
    have := congrArg List.length k1
    simp at this
    omega
  have hmem : ∀ k, k ∈ ks ↔ ∃ x ∈ es.toList, x.key = eK k := by
    intro k
    constructor
    · intro hk
      have : eK k ∈ es.toList.map (·.key) := by rw [k1]; exact List.mem_map.2 ⟨k, hk, rfl⟩
      obtain ⟨x, hx, he⟩ := List.mem_map.1 this
      exact ⟨x, hx, he⟩
    · rintro ⟨x, hx, he⟩
      have : eK k ∈ ks.map eK := by rw [← k1]; exact List.mem_map.2 ⟨x, hx, he⟩
      obtain ⟨k', hk', he'⟩ := List.mem_map.1 this
      exact hinj _ _ he' ▸ hk'
  refine ⟨_, ks, run_range_map w t kt et b es clk ht hb, ⟨es, clk, clk, #[], clk, ((MapKept.heap_alloc w _).2 b hlt).trans hb, hst, ?_, (MapKept.heap_alloc w _).1, hst.1, Nat.le_refl _, Nat.le_refl _, ?_, ?_, ?_⟩, ?_, hlen, bl_alloc (Below.refl _ _) _, by simp⟩
  · intro e he
    obtain ⟨k, v, e1, e2, e3, _⟩ := h1 e he
    exact ⟨k, v, e1, e2, e3⟩
  · rw [hlen, ← hs]
    simp [leftOf]
  · have := hst.2.2
    rw [k1] at this
    exact List.Pairwise.of_map eK (fun a b hab h => hab (by rw [h])) this
  · intro k
    rw [hmem]
    simp
  · intro k
    rw [hmem]
    constructor
    · rintro ⟨x, hx, he⟩
      obtain ⟨k', v, e1, e2, e3, _⟩ := h1 x hx
      have : k' = k := hinj _ _ (by rw [← e1, he])
      subst this
      rw [e3]; rfl
    · intro hk
      obtain ⟨v, hv⟩ := Option.isSome_iff_exists.1 hk
      obtain ⟨x, hx, he, _⟩ := h2 k v hv
      exact ⟨x, hx, he⟩

theorem Rng.next [DecidableEq K] (h : Rng eK eV w r b g left cnt) (hinj : ∀ a b, eK a = eK b → a = b) (ty : TypeId) :
    (left = [] ∧ (Instr.next (.pointer (some ⟨r, 0, none⟩)) false ty).run P w = .ok (.tuple #[.bool false]) w) ∨
    ∃ k v w' cnt', k ∈ left ∧ g k = some v ∧ (Instr.next (.pointer (some ⟨r, 0, none⟩)) false ty).run P w = .ok (.tuple #[.bool true, eK k, eV v]) w' ∧ Rng eK eV w' r b g (left.filter (fun x => decide (x ≠ k))) cnt' ∧ cnt' < cnt ∧
      Touch (fun x => x = r) w w' ∧ (Instr.entry (.pointer (some ⟨r, 0, none⟩))).run P w' = .ok (.tuple #[eK k, eV v]) w' := by
  have hne := h.ne
  obtain ⟨es, clock, since, seen, c0, hb, hst, h1, hr, hold, hsc, hsk, hcnt, hnd, hl⟩ := h
  rcases run_next_at (P := P) w ty r b since c0 seen es clock hr hb hold hsc with ⟨h0, hrun⟩ | ⟨e, he, w1, hal, hrun⟩
  · refine .inl ⟨?_, hrun⟩
    cases left with
    | nil => rfl
    | cons k l =>
      obtain ⟨x, hx, _, hs⟩ := (hl k).1 (List.mem_cons_self ..)
      rw [all_seen es seen h0 x hx] at hs
      cases hs
  · obtain ⟨hem, hes⟩ := mem_left he
    obtain ⟨k, v, e1, e2, e3⟩ := h1 e hem
    have hr1 : w1.heap[r]? = some (.mapIter (some b) since seen c0) := by rcases hal with rfl | rfl <;> exact hr
    have hb1 : w1.heap[b]? = some (.map es clock) := by rcases hal with rfl | rfl <;> exact hb
    have hset := MapKept.heap_set (o' := .mapIter (some b) since (seen.push e.born) clock) hr1
    have hb' : (ChangeMaps.setBlock w1 r (.mapIter (some b) since (seen.push e.born) clock)).heap[b]? = some (.map es clock) := (hset.2 b (fun e1 => hne e1.symm)).trans hb1
    have hent := run_entry_at (P := P) _ r b since seen es clock e hset.1 hb' hem hst.2.1
    rw [e1, e2] at hrun hent
    refine .inr ⟨k, v, _, _, (hl k).2 ⟨e, hem, e1, hes⟩, e3, hrun, ⟨es, clock, since, seen.push e.born, clock, hb', hst, h1, hset.1, hold, hsk, hsk, rfl, hnd.filter _, ?_⟩, ?_, ?_, hent⟩
    · intro k'
      rw [List.mem_filter, hl k', decide_eq_true_iff]
      constructor
      · rintro ⟨⟨x, hx, hk, hs⟩, hkk⟩
        refine ⟨x, hx, hk, ?_⟩
        rw [contains_push, hs]
        have : x.born ≠ e.born := fun hbe => hkk (hinj _ _ (by rw [← hk, born_inj hst.2.1 hx hem hbe, e1]))
        simp [this]
      · rintro ⟨x, hx, hk, hs⟩
        rw [contains_push, Bool.or_eq_false_iff] at hs
        refine ⟨⟨x, hx, hk, hs.1⟩, ?_⟩
        rintro rfl
        have : x = e := entry_eq_of_key (List.Pairwise.of_map (fun x : MapEntry => x.key) (fun a b hab h => hab h) hst.2.2) hx hem (by rw [hk, e1])
        subst this
        simp at hs
    · have := left_shrinks es seen e he
      omega
    · rcases hal with rfl | rfl <;> exact ⟨rfl, rfl, rfl, by simp [ChangeMaps.setBlock], fun i _ hi => hset.2 i hi⟩
end

section
variable {P : Program} {w : World}
/-- 'range m'. -/
theorem wpList_rng {K V : Type} {eK : K → Value} {eV : V → Value} {kt : TypeId} {b n : Nat} {g : K → Option V} {ops : Array Oper} {rest : List Oper} {o : Oper} {a : Act} {Q : Exit → Act → World → Prop} (hg : o.guard = none) (m : Operand) (t et : TypeId)
    (hop : o.op = Op.range t m) (hm : a.eval m = .map (some b)) (h : MapAt P kt eK eV w b g n) (ht : P.underlying t = some (.map kt et)) (hinj : ∀ a b, eK a = eK b → a = b)
    (hK : ∀ w' ks, Rng eK eV w' w.heap.size b g ks ks.length → (∀ k, k ∈ ks ↔ (g k).isSome = true) → ks.length = n → Below w.heap.size w w' → w.heap.size < w'.heap.size → wpList P ops Q rest (a.put o.dst (.pointer (some ⟨w.heap.size, 0, none⟩))) w') :
    wpList P ops Q (o :: rest) a w := by
  refine wpList_plain hg fun K' hK' => ?_
  obtain ⟨w', ks, hrun, r1, r2, r3, r4, r5⟩ := h.range ht hinj
  unfold Oper.wp
  simp [execOp, hop, hm, hrun, Result.andThen]
  exact hK' _ _ (hK w' ks r1 r2 r3 r4 r5)

/-- The step. -/
theorem wpList_rnext {K V : Type} [DecidableEq K] {eK : K → Value} {eV : V → Value} {r b cnt : Nat} {g : K → Option V} {left : List K} {ops : Array Oper} {rest : List Oper} {o : Oper} {a : Act} {Q : Exit → Act → World → Prop} (hg : o.guard = none) (it : Operand)
    (hop : o.op = Op.next it false) (hit : a.eval it = .pointer (some ⟨r, 0, none⟩)) (h : Rng eK eV w r b g left cnt) (hinj : ∀ a b, eK a = eK b → a = b)
    (hDone : left = [] → wpList P ops Q rest (a.put o.dst (.tuple #[.bool false])) w)
    (hMore : ∀ k v w' cnt', k ∈ left → g k = some v → Rng eK eV w' r b g (left.filter (fun x => decide (x ≠ k))) cnt' → cnt' < cnt → Touch (fun x => x = r) w w' → (Instr.entry (.pointer (some ⟨r, 0, none⟩))).run P w' = .ok (.tuple #[eK k, eV v]) w' →
      wpList P ops Q rest (a.put o.dst (.tuple #[.bool true, eK k, eV v])) w') :
    wpList P ops Q (o :: rest) a w := by
  refine wpList_plain hg fun K' hK' => ?_
  unfold Oper.wp
  rcases h.next (P := P) hinj o.type with ⟨h0, hrun⟩ | ⟨k, v, w', cnt', hk, hgk, hrun, hrg, hlt, ht, hen⟩
  · simp [execOp, hop, hit, hrun, Result.andThen]
    exact hK' _ _ (hDone h0)
  · simp [execOp, hop, hit, hrun, Result.andThen]
    exact hK' _ _ (hMore k v w' cnt' hk hgk hrg hlt ht hen)
end
end Go.Proofs.YtjekpbkmhgfhoaaGreatDoor
end
