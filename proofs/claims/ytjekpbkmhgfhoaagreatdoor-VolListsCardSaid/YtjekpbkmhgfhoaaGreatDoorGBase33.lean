/- Merged texts: RangeIn. -/
import Derived.Test.YtjekpbkmhgfhoaaGreatDoorGBase30
import Derived.Sort.MapsRangeIn
import Derived.RangeFuncSeq
import Derived.RangeFuncStops
import Derived.Shelf.AbstractIn
section
/- Ranging over a map that is a function of its keys, inside a fence; the keys that have come and those still to come. -/
namespace Go.Proofs.YtjekpbkmhgfhoaaGreatDoor
open Go Go.Maps Go.RowKit
set_option maxRecDepth 100000
set_option linter.unusedSectionVars false

theorem Touch.grownBy {w w' : World} {r : Nat} (h : Touch (fun x => x = r) w w') : w.grownBy w' (some r) :=
  ⟨h.os, h.tape, h.output, h.size, fun k hk hn => h.block k hk (fun e => hn (by rw [e]))⟩
theorem below_grownBy {w w' : World} (h : Below w.heap.size w w') : w.grownBy w' none :=
  ⟨h.os, h.tape, h.output, h.size, fun k hk _ => h.block k hk⟩

section
variable {F : Fence} {n : Nat} {P : Program} {w : World}
theorem wpListIn_rng {K V : Type} {eK : K → Value} {eV : V → Value} {kt : TypeId} {b nn : Nat} {g : K → Option V} {ops : Array Oper} {rest : List Oper} {o : Oper} {a : Act} {Q : Exit → Act → World → Prop} (hg : o.guard = none) (m : Operand) (t et : TypeId)
    (hop : o.op = Op.range t m) (hm : a.eval m = .map (some b)) (h : MapAt P kt eK eV w b g nn) (ht : P.underlying t = some (.map kt et)) (hinj : ∀ a b, eK a = eK b → a = b)
    (hK : ∀ w' ks, Rng eK eV w' w.heap.size b g ks ks.length → (∀ k, k ∈ ks ↔ (g k).isSome = true) → ks.length = nn → Below w.heap.size w w' → w.heap.size < w'.heap.size → wpListIn F n P ops Q rest (a.put o.dst (.pointer (some ⟨w.heap.size, 0, none⟩))) w') :
    wpListIn F n P ops Q (o :: rest) a w := by
  refine wpListIn_plain hg fun K' hK' => ?_
  obtain ⟨w', ks, hrun, r1, r2, r3, r4, r5⟩ := h.range ht hinj
  unfold Oper.wpIn
  refine ⟨by simp [Oper.about, hop], ?_⟩
  rw [Oper.semAt_plain F _ _ (by rw [hop]; intro c hc'; cases hc')]
  simp [execOp, hop, hm, hrun, Result.andThen]
  exact hK' _ _ (hK w' ks r1 r2 r3 r4 r5)
theorem wpListIn_rnext {K V : Type} [DecidableEq K] {eK : K → Value} {eV : V → Value} {r b cnt : Nat} {g : K → Option V} {left : List K} {ops : Array Oper} {rest : List Oper} {o : Oper} {a : Act} {Q : Exit → Act → World → Prop} (hg : o.guard = none) (it : Operand)
    (hop : o.op = Op.next it false) (hit : a.eval it = .pointer (some ⟨r, 0, none⟩)) (h : Rng eK eV w r b g left cnt) (hinj : ∀ a b, eK a = eK b → a = b)
    (hDone : left = [] → wpListIn F n P ops Q rest (a.put o.dst (.tuple #[.bool false])) w)
    (hMore : ∀ k v w' cnt', k ∈ left → g k = some v → Rng eK eV w' r b g (left.filter (fun x => decide (x ≠ k))) cnt' → cnt' < cnt → Touch (fun x => x = r) w w' → (Instr.entry (.pointer (some ⟨r, 0, none⟩))).run P w' = .ok (.tuple #[eK k, eV v]) w' →
      wpListIn F n P ops Q rest (a.put o.dst (.tuple #[.bool true, eK k, eV v])) w') :
    wpListIn F n P ops Q (o :: rest) a w := by
  refine wpListIn_plain hg fun K' hK' => ?_
  unfold Oper.wpIn
  refine ⟨by simp [Oper.about, hop], ?_⟩
  rw [Oper.semAt_plain F _ _ (by rw [hop]; intro c hc'; cases hc')]
  rcases h.next (P := P) hinj o.type with ⟨h0, hrun⟩ | ⟨k, v, w', cnt', hk, hgk, hrun, hrg, hlt, ht, hen⟩
  · simp [execOp, hop, hit, hrun, Result.andThen]
    exact hK' _ _ (hDone h0)
  · simp [execOp, hop, hit, hrun, Result.andThen]
    exact hK' _ _ (hMore k v w' cnt' hk hgk hrg hlt ht hen)
end

section
variable {K V : Type} [DecidableEq K] {eK : K → Value} {eV : V → Value} {w w' : World} {r b cnt nn : Nat} {g : K → Option V} {left ss ks : List K}
theorem Rng.nodup (h : Rng eK eV w r b g left cnt) : left.Nodup := by
  obtain ⟨es, clock, since, seen, c0, h1, h2, h3, h4, h5, h6, h7, h8, h9, h10⟩ := h
  exact h9
theorem Rng.iter_walk (h : Rng eK eV w r b g left cnt) : ∃ o, w.heap[r]? = some o ∧ o.isWalk = true := by
  obtain ⟨es, clock, since, seen, c0, h1, h2, h3, h4, h5⟩ := h
  exact ⟨_, h4, rfl⟩
theorem Rng.of_walks (h : Rng eK eV w r b g left cnt) (hk : KeepsWalks w w') : Rng eK eV w' r b g left cnt := by
  obtain ⟨es, clock, since, seen, c0, h1, h2, h3, h4, h5⟩ := h
  exact ⟨es, clock, since, seen, c0, hk.same _ _ h1 rfl, h2, h3, hk.same _ _ h4 rfl, h5⟩

/-- The keys of a map, each once. -/
structure KeysOf (g : K → Option V) (ks : List K) (nn : Nat) : Prop where
  nodup : ks.Nodup
  mem : ∀ k, k ∈ ks ↔ (g k).isSome = true
  len : ks.length = nn
theorem KeysOf.perm (h : KeysOf g ks nn) (hp : ss.Perm ks) : KeysOf g ss nn := ⟨hp.nodup_iff.2 h.nodup, fun k => hp.mem_iff.trans (h.mem k), hp.length_eq.trans h.len⟩
theorem left_step (hp : (ss ++ left).Perm ks) (hn : ks.Nodup) {k : K} (hk : k ∈ left) : ((ss ++ [k]) ++ left.filter (fun x => decide (x ≠ k))).Perm ks := by
  have h1 : left.Nodup := (List.nodup_append.1 (hp.nodup_iff.2 hn)).2.1
  have h2 : left.filter (fun x => decide (x ≠ k)) = left.erase k := by
    rw [h1.erase_eq_filter]
    refine List.filter_congr fun x _ => ?_
    simp [bne]
    rfl
  rw [h2, List.append_assoc]
  exact ((List.perm_cons_erase hk).symm.append_left ss).trans hp
end
end Go.Proofs.YtjekpbkmhgfhoaaGreatDoor
end
