/- Merged texts: QLeaves. -/
import Derived.Test.YthhipeceeagpnaaGreatDoorQYBase14
import Derived.Test.YthhipeceeagpnaaGreatDoorQYBase15
import Derived.Deep.Slices
section
/- Arguments that are slices of structs whose leaves are ints, strings, bools and slices of bytes: what their reading gives. -/
namespace Go.Proofs.YthhipeceeagpnaaGreatDoor
open Go Go.RowKit Go.ChangeShapes Go.WideShapes Go.Deep
set_option maxRecDepth 100000

inductive LeafK where
  | int (k : IntKind)
  | str
  | bool
  | bytes

def fieldLeaves (P : Program) (rec : TypeId → Option (List LeafK)) : List Field → Nat → Option (List LeafK)
  | [], _ => some []
  | f :: fs, o => (rec f.type).bind fun a => if f.offset = o ∧ P.cellsOf f.type = a.length then (fieldLeaves P rec fs (o + a.length)).map (a ++ ·) else none
/-- The cells of a type, flat. -/
def leavesOf (P : Program) : Nat → TypeId → Option (List LeafK)
  | 0, _ => none
  | n + 1, t =>
    match P.underlying t with
    | some (.int k) => some [.int k]
    | some .string => some [.str]
    | some .bool => some [.bool]
    | some (.slice e) =>
      match P.underlying e with
      | some (.int .u8) => if P.cellsOf e = 1 then some [.bytes] else none
      | _ => none
    | some (.struct fs) => (fieldLeaves P (leavesOf P n) fs.toList 0).bind fun ks => if P.cellsOf t = ks.length then some ks else none
    | _ => none

/-- v reads as the bytes l (of any program). -/
def LeafOk (W : World) : LeafK → Value → Prop
  | .int k, v => ∃ n, v = .int k n ∧ (Lit.int k n).wf = true
  | .str, v => ∃ s, v = .string s ∧ s.size ≤ maxLen
  | .bool, v => ∃ b, v = .bool b
  | .bytes, v => ∃ sp cap l, v = .slice sp l.length cap ∧ RdB W (.slice sp l.length cap) l ∧ (l ≠ [] → ∀ h off s, sp = some ⟨h, off, s⟩ → h < W.heap.size) ∧ (∀ x ∈ l, 0 ≤ x ∧ x ≤ 255) ∧ l.length ≤ maxLen
def LeafsOk (W : World) : List LeafK → List Value → Prop
  | [], cs => cs = []
  | k :: ks, cs => ∃ v rest, cs = v :: rest ∧ LeafOk W k v ∧ LeafsOk W ks rest

theorem LeafsOk.append {W : World} : ∀ {ks ks' : List LeafK} {cs cs' : List Value}, LeafsOk W ks cs → LeafsOk W ks' cs' → LeafsOk W (ks ++ ks') (cs ++ cs')
  | [], _, _, _, h, h' => by
    have : _ = [] := h
    rw [this]
    exact h'
  | _ :: _, _, _, _, ⟨v, rest, h1, h2, h3⟩, h' => ⟨v, rest ++ _, by rw [h1]; rfl, h2, h3.append h'⟩

section
variable {P : Program} {H : Type} {enc' : TypeId × Value → H} {W : World}

theorem fields_read {n k : Nat} {cs : List Value} (ih : ∀ t ks m cs x, leavesOf P n t = some ks → DataW.trod enc' P W 0 (fun _ => true) true m t cs = some x → (∀ p ∈ x.2, p.block < W.heap.size) → LeafsOk W ks cs) :
    ∀ (fs : List Field) (o : Nat) (ks : List LeafK), fieldLeaves P (leavesOf P n) fs o = some ks →
      (∀ f ∈ fs, ∃ y, DataW.trod enc' P W 0 (fun _ => true) true k f.type ((cs.drop f.offset).take (P.cellsOf f.type)) = some y ∧ ∀ p ∈ y.2, p.block < W.heap.size) →
      LeafsOk W ks ((cs.drop o).take ks.length)
  | [], o, ks, h, _ => by
    simp only [fieldLeaves, Option.some.injEq] at h
    subst h
    simp [LeafsOk]
  | f :: fs, o, ks, h, hf => by
    simp only [fieldLeaves] at h
    obtain ⟨a, ha, h⟩ := Option.bind_eq_some_iff.1 h
    split at h
    · rename_i hc
      obtain ⟨ks', h1, rfl⟩ := Option.map_eq_some_iff.1 h
      obtain ⟨y, hy, hp⟩ := hf f (List.mem_cons_self ..)
      have h2 := ih _ _ _ _ _ ha hy hp
      rw [hc.1, hc.2] at h2
      have h3 := fields_read ih fs (o + a.length) ks' h1 (fun f hf' => hf f (List.mem_cons_of_mem _ hf'))
      rw [List.length_append, List.take_add, List.drop_drop]
      exact h2.append h3
    · cases h

theorem leaves_read : ∀ (n : Nat) (t : TypeId) (ks : List LeafK) (m : Nat) (cs : List Value) (x : DataW H × List MemPlace), leavesOf P n t = some ks → DataW.trod enc' P W 0 (fun _ => true) true m t cs = some x → (∀ p ∈ x.2, p.block < W.heap.size) → LeafsOk W ks cs
  | 0, t, ks, m, cs, x, h, _, _ => by cases h
  | n + 1, t, ks, m, cs, x, h, hx, hp => by
    unfold leavesOf at h
    split at h
    · rename_i k hk
      obtain ⟨a, rfl, rfl, ha⟩ := DataW.trod_int hk hx
      cases h
      exact ⟨_, _, rfl, ⟨a, rfl, ha⟩, rfl⟩
    · rename_i hk
      obtain ⟨a, rfl, rfl, ha⟩ := DataW.trod_string hk hx
      cases h
      exact ⟨_, _, rfl, ⟨a, rfl, ha⟩, rfl⟩
    · rename_i hk
      obtain ⟨a, rfl, rfl⟩ := DataW.trod_bool hk hx
      cases h
      exact ⟨_, _, rfl, ⟨a, rfl⟩, rfl⟩
    · rename_i e hk
      split at h
      · rename_i he
        split at h
        · rename_i hc
          cases h
          rcases open_ints hk he hc hx with ⟨rfl, rfl⟩ | ⟨a, len, cap, zs, rfl, _, hl, hm, hz, rfl, hcell, hwz⟩
          · exact ⟨_, _, rfl, ⟨none, 0, [], rfl, ⟨_, _, rfl, .inl rfl⟩, fun h => absurd rfl h, by simp, by simp⟩, rfl⟩
          · refine ⟨_, _, rfl, ?_, rfl⟩
            simp only [if_true] at hz
            have hlen : (zs.take len).length = len := by simp; omega
            have hwf : ∀ x ∈ zs, 0 ≤ x ∧ x ≤ 255 := fun x hx => by
              have := hwz x hx
              simp [Lit.wf, IntKind.min, IntKind.max, IntKind.signed, IntKind.bits] at this
              omega
            refine ⟨some a, cap, zs.take len, by rw [hlen], ⟨some a, cap, rfl, ?_⟩, fun hne h off s hs => ?_, fun x hx => hwf x (List.mem_of_mem_take hx), by rw [hlen]; omega⟩
            · by_cases h0 : len = 0
              · exact .inl (by rw [h0]; rfl)
              · obtain ⟨b, off, spot⟩ := a
                have hspot : spot = none := by simpa [Addr.add] using World.cell?_spot (hcell 0 (by omega))
                subst hspot
                refine .inr ⟨b, off, rfl, hp (.cell b off) (MemPlace.mem_row.2 ⟨0, by omega, by simp⟩), fun i hi => ?_⟩
                rw [hlen] at hi
                rw [← add_plain, hcell i (by omega)]
                congr 2
                simp [List.getD, hi]
            · injection hs with hs
              subst hs
              have h0 : len ≠ 0 := by
                rintro rfl
                exact hne rfl
              exact hp (.cell h off) (MemPlace.mem_row.2 ⟨0, by omega, by simp⟩)
        · cases h
      · cases h
    · rename_i fs hk
      obtain ⟨ks', h1, h2⟩ := Option.bind_eq_some_iff.1 h
      split at h2
      · rename_i hc
        cases h2
        obtain ⟨xs, k, _, rfl, hcl, hxl, hf⟩ := DataW.trod_struct hk hx
        have := fields_read (k := k) (cs := cs) (fun t ks m cs x => leaves_read n t ks m cs x) fs.toList 0 ks h1 (fun f hff => by
          obtain ⟨i, hi, he⟩ := List.getElem_of_mem hff
          have hi' : i < fs.size := by simpa using hi
          have he' : fs[i]? = some f := by
            rw [← he]
            simp [hi']
          have h3 := hf i f he'
          rw [List.getElem?_eq_getElem (by omega)] at h3
          exact ⟨_, h3, fun p hpp => hp p (List.mem_flatMap.2 ⟨_, List.getElem_mem _, hpp⟩)⟩)
        rw [List.drop_zero, List.take_of_length_le (by omega)] at this
        exact this
      · cases h2
    · cases h

/-- A slice of such elements. -/
theorem open_els {α : Type} [Inhabited α] {base : Nat} {t e : TypeId} {k : Nat} {enc : α → List Value} {ok : α → Prop} {n : Nat} {ks : List LeafK} (ht : P.underlying t = some (.slice e)) (hk : P.cellsOf e = k) (hks : leavesOf P n e = some ks) (hp : 0 < k)
    (hel : ∀ cs, LeafsOk W ks cs → ∃ a, cs = enc a ∧ ok a) {v : Value} {d : DataW H} {ps : List MemPlace} (hval : Value.okWide P W .any base t v) (h : DataW.Trod enc' P W 0 (fun _ => true) true t v d ps)
    (hlt : ∀ x ∈ ps, x.block < W.heap.size) : ∃ xs : List α, RdE W k enc v xs ∧ (∀ x ∈ xs, ok x) ∧ xs.length ≤ maxLen ∧ ∃ sp n cap, v = .slice sp n cap := by
  obtain ⟨a0, len, cap, rfl⟩ := okWide_slice ht hval
  obtain ⟨fuel, hf⟩ := h
  rcases open_slice ht hf with ⟨hcs, hx⟩ | ⟨a, len', cap', m, n', D, Pl, hcs, _, hl1, hm1, hm, hx, hall⟩
  · simp [Value.cells] at hcs
    obtain ⟨rfl, rfl, rfl⟩ := hcs
    exact ⟨[], ⟨none, 0, rfl, Nat.le_refl _, fun _ => rfl, fun h => (h rfl).elim⟩, by simp, by simp, _, _, _, rfl⟩
  · simp [Value.cells] at hcs
    obtain ⟨rfl, rfl, rfl⟩ := hcs
    simp only [Prod.mk.injEq] at hx
    obtain ⟨_, rfl⟩ := hx
    simp only [if_true] at hm
    obtain ⟨f, hf⟩ := choose_lt (α := α) (n := len) (p := fun i a' => W.cells? 0 (a.add (i * k)) k = some (enc a') ∧ ok a') (fun i hi => by
      obtain ⟨cs', h1, h2⟩ := hall i (by omega)
      rw [hk] at h1
      obtain ⟨a', rfl, ho⟩ := hel _ (leaves_read n e ks _ _ _ hks h2 (fun p hpp => hlt p (List.mem_append.2 (.inr (List.mem_flatMap.2 ⟨i, List.mem_range.2 (by omega), hpp⟩)))))
      exact ⟨a', h1, ho⟩)
    have hlen : ((List.range len).map f).length = len := by simp
    have hspot : 0 < len → a.spot = none := fun h0 => by
      obtain ⟨_, e2, e3⟩ := World.cells?_some (hf 0 h0).1
      have e4 := e3 0 hp
      rw [List.getElem?_eq_getElem (by omega)] at e4
      simpa [Addr.add] using World.cell?_spot e4
    refine ⟨(List.range len).map f, ⟨some a, cap, by rw [hlen], by rw [hlen]; exact hl1, fun h => (by cases h), fun hne => ?_⟩, fun x hx => ?_, by rw [hlen]; omega, _, _, _, rfl⟩
    · have h0 : 0 < len := by
        rcases Nat.eq_zero_or_pos len with rfl | h
        · exact (hne rfl).elim
        · exact h
      obtain ⟨b, off, spot⟩ := a
      have hs : spot = none := hspot h0
      subst hs
      have hrow : 0 < m * P.cellsOf e := by rw [hk]; exact Nat.mul_pos (by omega) hp
      refine ⟨b, off, rfl, hlt (.cell b off) (List.mem_append.2 (.inl (MemPlace.mem_row.2 ⟨0, hrow, by simp⟩))), fun i j hi hj => ?_⟩
      rw [hlen] at hi
      obtain ⟨_, e2, e3⟩ := World.cells?_some (hf i hi).1
      have e4 := e3 j hj
      rw [add_plain, add_plain] at e4
      rw [e4]
      simp [hi]
    · obtain ⟨i, hi, rfl⟩ := List.mem_map.1 hx
      exact (hf i (List.mem_range.1 hi)).2
end
end Go.Proofs.YthhipeceeagpnaaGreatDoor
end
