/- PROVED: Rows.QuotaSaysSaid: for every list of counts and every quota the law QuotaSays returns true, and each argument reads as before. Conditions: none. -/
import Derived.Test.YthominkfjfnkbaaRows
import Derived.Test.YthominkfjfnkbaaQuota
import Derived.ProofKit
import Derived.OpenShut
import Derived.ChangeOld
import Derived.Deep.Slices
import Derived.Deep.Fields
namespace Go.Proofs.Ythominkfjfnkbaa.quotaSays
open Go.ChangeShapes Go.WideShapes Go.ChangeAt Go.RowKit Go.Deep

theorem own : ownKnob Try.prog.godebug = none := by kernel_rfl
theorem laidOut : laidOutB Try.prog = true := by kernel_rfl
theorem cells25 : Try.prog.cellsOf 25 = 3 := by kernel_rfl
theorem cells3 : Try.prog.cellsOf 3 = 1 := by kernel_rfl

theorem three {H : Type} {enc : TypeId × Value → H} {W : World} {base : Nat} {sp : Nat → Bool} {held : Bool} {n : Nat} {cs : List Value} {x : DataW H × List MemPlace}
    (h : DataW.trod enc Try.prog W base sp held n 25 cs = some x) : ∃ a b c : Int, cs = [.int .i64 a, .int .i64 b, .int .i64 c] := by
  obtain ⟨xs, m, _, _, hl, hx, hf⟩ := DataW.trod_struct Try.underlying25 h
  rw [cells25] at hl
  have hx3 : xs.length = 3 := hx
  match cs, hl with
  | [c0, c1, c2], _ =>
    have f0 : DataW.trod enc Try.prog W base sp held m 3 [c0] = xs[0]? := by simpa [cells3] using hf 0 _ rfl
    have f1 : DataW.trod enc Try.prog W base sp held m 3 [c1] = xs[1]? := by simpa [cells3] using hf 1 _ rfl
    have f2 : DataW.trod enc Try.prog W base sp held m 3 [c2] = xs[2]? := by simpa [cells3] using hf 2 _ rfl
    obtain ⟨a, e0, _⟩ := DataW.trod_int Try.underlying3 (f0.trans (List.getElem?_eq_getElem (by omega)))
    obtain ⟨b, e1, _⟩ := DataW.trod_int Try.underlying3 (f1.trans (List.getElem?_eq_getElem (by omega)))
    obtain ⟨c, e2, _⟩ := DataW.trod_int Try.underlying3 (f2.trans (List.getElem?_eq_getElem (by omega)))
    simp at e0 e1 e2
    exact ⟨a, b, c, by rw [e0, e1, e2]⟩

theorem walk (a : Option Addr) (len cap : Nat) (q : Int) (w : World) (hl : len ≤ cap) (hm : cap ≤ maxLen) (hq : -9223372036854775808 ≤ q ∧ q ≤ 9223372036854775807)
    (hc : len = 0 ∨ ∃ x, a = some x ∧ ∀ i, i < len → ∃ p r s : Int, w.cell? (x.add (i * 3)) = some (.int .i64 p) ∧ w.cell? (x.add (i * 3 + 1)) = some (.int .i64 r) ∧ w.cell? (x.add (i * 3 + 2)) = some (.int .i64 s)) :
    Calls Try.prog 3 #[.slice a len cap, .int .i64 q] w fun e w' => e = .returned (.bool true) ∧ Below w.heap.size w w' := by
  by_cases h0 : len = 0
  · subst h0
    exact says_nil a cap q w hq
  · obtain ⟨x, rfl, hx⟩ := hc.resolve_left h0
    by_cases h20 : 20 < len
    · exact says_many _ len cap q w h20
    · obtain ⟨b, off, spot⟩ := x
      have hspot : spot = none := by
        obtain ⟨p, _, _, hp, _⟩ := hx 0 (by omega)
        simpa [Addr.add] using World.cell?_spot hp
      subst hspot
      have hall : ∀ i, ∃ t : Int × Int × Int, i < len → w.cell? ⟨b, off + i * 3, none⟩ = some (.int .i64 t.1) ∧ w.cell? ⟨b, off + i * 3 + 1, none⟩ = some (.int .i64 t.2.1) ∧ w.cell? ⟨b, off + i * 3 + 2, none⟩ = some (.int .i64 t.2.2) := by
        intro i
        by_cases hi : i < len
        · obtain ⟨p, r, s, h1, h2, h3⟩ := hx i hi
          refine ⟨(p, r, s), fun _ => ⟨?_, ?_, ?_⟩⟩
          · by_cases hz : i = 0
            · subst hz; simpa [Addr.add] using h1
            · have : i * 3 ≠ 0 := by omega
              simpa [Addr.add, this] using h1
          · simpa [Addr.add, Nat.add_assoc] using h2
          · simpa [Addr.add, Nat.add_assoc] using h3
        · exact ⟨(0, 0, 0), fun h => absurd h hi⟩
      let f := fun i => Classical.choose (hall i)
      have hf := fun i => Classical.choose_spec (hall i)
      exact says_any b off len cap (fun i => (f i).1) (fun i => (f i).2.1) (fun i => (f i).2.2) q w hl hm hq (by omega) (fun i hi => (hf i hi).1) (fun i hi => (hf i hi).2.1) (fun i hi => (hf i hi).2.2)

set_option maxRecDepth 100000 in
theorem lifted (os : Os) (started : os.Started) (H : Type) (enc : TypeId × Value → H) :
    ReturnsInHanded {} Try.checked os 3 .any (Rows.quotaSaysSpec.pre6 enc Try.prog Try.f3 Rows.quotaSaysRow.domain false) (Rows.quotaSaysSpec.post enc Try.prog Try.f3 false true false false) := by
  refine returnsInHanded_of_change (C := Try.checked) own started (by kernel_rfl) Try.func3
    (ChangeSpec.witness6 (enc := enc) (C := Try.checked) false ⟨#[], #[.slice none 0 0, .int .i64 0], []⟩ 8 (by kernel_rfl) (by kernel_rfl) (by kernel_rfl) (by kernel_rfl)) ?_
  intro W base args ds gs before hval0 hW hcnd _
  have hval : ∀ (j : Nat) t v, Try.f3.params[j]? = some t → args[j]? = some v → Value.okWide Try.prog W .any base t v := hval0
  have hW' := hW
  obtain ⟨p, q, hA0, hV, rfl, hfz, hnd⟩ := hW
  have hA : DataW.TrodAll enc Try.prog W 0 (fun _ => true) true Try.f3.params.toList args.toList ds p := hA0
  rw [Try.params3] at hA hval
  obtain ⟨v0, vs0, d0, ds0, p0, q0, hargs, rfl, rfl, h0, r0⟩ := trodAll_cons hA
  obtain ⟨v1, vs1, d1, ds1, p1, q1, rfl, rfl, rfl, h1, r1⟩ := trodAll_cons r0
  obtain ⟨rfl, rfl, rfl⟩ := trodAll_nil r1
  obtain rfl : args = #[v0, v1] := by cases args; simp_all
  obtain ⟨rfl, rfl⟩ := trodVars_none hV
  have k0 := h0
  have lt0 : ∀ x ∈ p0, x.block < W.heap.size := by obtain ⟨m, hm⟩ := k0; exact DataW.trod_lt m _ _ _ hm
  obtain ⟨a1, rfl, rfl, rfl, w1⟩ := open_int Try.underlying3 (hval 1 3 v1 rfl rfl) h1
  have b1 : -9223372036854775808 ≤ a1 ∧ a1 ≤ 9223372036854775807 := bounds_i64 w1
  obtain ⟨a0, len, cap, rfl⟩ := okWide_slice Try.underlying22 (hval 0 22 v0 rfl rfl)
  obtain ⟨hl, hm, hcel⟩ : len ≤ cap ∧ cap ≤ maxLen ∧ (len = 0 ∨ ∃ x, a0 = some x ∧ ∀ i, i < len → ∃ p r s : Int, W.cell? (x.add (i * 3)) = some (.int .i64 p) ∧ W.cell? (x.add (i * 3 + 1)) = some (.int .i64 r) ∧ W.cell? (x.add (i * 3 + 2)) = some (.int .i64 s)) := by
    obtain ⟨fuel, hf⟩ := h0
    rcases open_slice Try.underlying22 hf with ⟨hcs, _⟩ | ⟨a, l, c, m, n, D, Pl, hcs, hb, hl, hm, hmm, _, hi⟩
    · simp [Value.cells] at hcs
      obtain ⟨rfl, rfl, rfl⟩ := hcs
      exact ⟨Nat.le_refl _, Nat.zero_le _, .inl rfl⟩
    · simp [Value.cells] at hcs
      obtain ⟨rfl, rfl, rfl⟩ := hcs
      refine ⟨hl, hm, .inr ⟨a, rfl, fun i hil => ?_⟩⟩
      have him : i < m := by rw [hmm]; split <;> omega
      obtain ⟨cs', hc, ht⟩ := hi i him
      rw [cells25] at hc
      obtain ⟨p, r, s, rfl⟩ := three ht
      obtain ⟨_, _, hat⟩ := World.cells?_some hc
      refine ⟨p, r, s, ?_, ?_, ?_⟩
      · have := hat 0 (by omega)
        rwa [show (a.add (i * 3)).add 0 = a.add (i * 3) from by simp [Addr.add]] at this
      · have := hat 1 (by omega)
        rwa [Go.Deep.add_add] at this
      · have := hat 2 (by omega)
        rwa [Go.Deep.add_add] at this
  clear hA0 hval0
  refine (walk a0 len cap a1 W hl hm b1 hcel).mono fun e W' ⟨he, bel⟩ => ?_
  subst he
  exact ⟨_, rfl, _, _, _, [], _, [], hW', trodAll_mk1 (shut_bool Try.underlying4 _), (trodAll_cons_mk (Below.trod laidOut (by kernel_rfl) (of_decide_eq_true (by kernel_rfl)) k0 bel lt0) (trodAll_cons_mk (shut_int Try.underlying3 w1) trodAll_mk0)), rfl, bel.frame _, fun h => by cases h⟩

theorem over : Rows.quotaSaysRow.holds Try.pinned (OpenSpec.ofChange Rows.quotaSaysSpec) :=
  OpenClaim.holds_of_wide 3 Try.f3 rfl rfl rfl rfl rfl rfl rfl ⟨rfl, rfl, rfl, rfl, rfl⟩ rfl rfl rfl rfl rfl (by kernel_rfl) Try.func3 (by kernel_rfl)
    (of_decide_eq_true (by kernel_rfl)) (by unfold Func.isWrapper; first | (rw [if_pos (by decide +kernel)]; kernel_rfl) | (rw [if_neg (by decide +kernel)]; exact ⟨rfl, rfl⟩))
    (fun os started H enc _ => lifted os started H enc)

theorem proved : Rows.QuotaSaysSaid := over
end Go.Proofs.Ythominkfjfnkbaa.quotaSays
