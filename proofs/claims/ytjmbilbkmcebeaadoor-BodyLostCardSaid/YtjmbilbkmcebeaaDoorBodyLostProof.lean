/- PROVED: Rows.BodyLostCardSaid: for every input the law BodyLost returns true, and each argument reads as before. Conditions: none beyond the listed package variables, which the card ties to the program's text. -/
import Derived.Test.YtjmbilbkmcebeaaDoorRows
import Derived.Test.YtjmbilbkmcebeaaDoorCards
import Derived.Test.YtjmbilbkmcebeaaDoorTie
import Derived.Test.YtjmbilbkmcebeaaDoorLaid
import Derived.Test.YtjmbilbkmcebeaaDoorFacts
import Derived.Test.YtjmbilbkmcebeaaDoorBodyLost
import Derived.ProofKit
import Derived.OpenShut
import Derived.ChangeOld
import Derived.LaidMore
import Derived.ChangeSame
import Derived.ChangeVars
import Derived.JoinedOf
import Derived.Lay
import Derived.SevenTiedAt
import Derived.Stop.Joined
import Derived.ChangeMaps5
namespace Go.Proofs.YtjmbilbkmcebeaaDoor.bodyLost
open Go.ChangeShapes Go.WideShapes Go.ChangeAt Go.RowKit
set_option maxRecDepth 100000

theorem own : ownKnob Tryd.prog.godebug = none := by kernel_rfl
theorem door_met (os : Os) (args : Array Value) : laidMetH Tryd.prog Rows.bodyLostRow.laid ((World.doorLaid Tryd.prog 480 os).forCall (fun _ _ => 0) ⟨#[], args, []⟩).memory :=
  laidMetH_of_parts3 (fuel := 8) (laidMet_of_run' 8 (by kernel_rfl) (by kernel_rfl)) (by kernel_rfl) (by kernel_rfl)

theorem lifted (os : Os) (started : os.Started) (H : Type) (enc : TypeId × Value → H) :
    ReturnsInHanded {} Tryd.checked os 4 .any (fun w args => (Rows.bodyLostSpec.pre enc Tryd.prog Tryd.f4 [] false w args ∧ laidMetH Tryd.prog Rows.bodyLostRow.laid w) ∧ sizedMet enc Tryd.prog Tryd.f4 (OpenSpec.ofChange Rows.bodyLostSpec) false w args)
      (Rows.bodyLostSpec.post enc Tryd.prog Tryd.f4 false true false false) := by
  refine returnsInHanded_of_change_and (C := Tryd.checked) (X := fun w _ => laidMetH Tryd.prog Rows.bodyLostRow.laid w) (fun _ _ _ hh h => h.of_heap hh) own started (by kernel_rfl) Tryd.func4
    (ChangeSpec.witness_shaped (enc := enc) (C := Tryd.checked) (os := os) (X := fun w _ => laidMetH Tryd.prog Rows.bodyLostRow.laid w) false (World.doorLaid Tryd.prog 480 os) #[.int .i64 0, .int .i64 0, .bool false] 8 rfl (World.shaped_of_RefB (by kernel_rfl) (by kernel_rfl)) (by kernel_rfl) (by kernel_rfl) (by kernel_rfl) (door_met os _)) ?_
  intro W base args ds gs before hval0 hW _ _ hL _
  have hval : ∀ (j : Nat) t v, Tryd.f4.params[j]? = some t → args[j]? = some v → Value.okWide Tryd.prog W .any base t v := hval0
  have hW' := hW
  obtain ⟨p, q, hA0, hV, rfl, hfz, hnd⟩ := hW
  have hA : DataW.TrodAll enc Tryd.prog W 0 (fun _ => true) true Tryd.f4.params.toList args.toList ds p := hA0
  rw [Tryd.params4] at hA hval
  obtain ⟨v0, vs0, d0, ds0, p0, q0, hargs, rfl, rfl, h0, r0⟩ := trodAll_cons hA
  obtain ⟨v1, vs1, d1, ds1, p1, q1, rfl, rfl, rfl, h1, r1⟩ := trodAll_cons r0
  obtain ⟨v2, vs2, d2, ds2, p2, q2, rfl, rfl, rfl, h2, r2⟩ := trodAll_cons r1
  obtain ⟨rfl, rfl, rfl⟩ := trodAll_nil r2
  obtain rfl : args = #[v0, v1, v2] := by cases args; simp_all
  obtain ⟨rfl, rfl⟩ := trodVars_none hV
  obtain ⟨a0, rfl, rfl, rfl, w0⟩ := open_int Tryd.underlying3 (hval 0 3 v0 rfl rfl) h0
  obtain ⟨a1, rfl, rfl, rfl, w1⟩ := open_int Tryd.underlying3 (hval 1 3 v1 rfl rfl) h1
  obtain ⟨a2, rfl, rfl, rfl⟩ := open_bool Tryd.underlying4 (hval 2 4 v2 rfl rfl) h2
  obtain ⟨E, hE⟩ := env_of_laid hL (by kernel_rfl) (by kernel_rfl) (by kernel_rfl)
  clear hA0 hval0
  simp only [List.append_nil] at hW'
  refine (lost_any a0 a1 a2 W hE).mono fun e W' ⟨he, bel⟩ => ?_
  subst he
  exact ⟨_, rfl, _, _, _, [], [], [], hW', trodAll_mk1 (shut_bool Tryd.underlying4 _), (trodAll_cons_mk (shut_int Tryd.underlying3 w0) (trodAll_cons_mk (shut_int Tryd.underlying3 w1) (trodAll_cons_mk (shut_bool Tryd.underlying4 _) trodAll_mk0))), rfl, bel.frame _, fun h => by cases h⟩

theorem joined : joinedFacts Tryd.prog 4 Tryd.f4 Rows.bodyLostSpec Rows.bodyLostRow = true := by
  unfold joinedFacts
  rw [seat_laidOut, seat_mapsRowed, seat_stopsHeard, seat_mayEnter, seat_plainKeys, seat_lifted, seat_make]
  kernel_rfl
theorem inst : Tryd.f4.isInstance Tryd.prog Rows.bodyLostRow.origin Rows.bodyLostRow.targs := of_decide_eq_true (by kernel_rfl)
theorem wrap : Tryd.f4.isWrapper Tryd.prog Rows.bodyLostRow.wrapper Rows.bodyLostRow.mainSum := by
  unfold Func.isWrapper
  first | (rw [if_pos (by decide +kernel)]; kernel_rfl) | (rw [if_neg (by decide +kernel)]; exact ⟨rfl, rfl⟩)

theorem over : Rows.bodyLostRow.holds Tryd.pinned (OpenSpec.ofChange Rows.bodyLostSpec) :=
  OpenClaim.holds_of_wide 4 Tryd.f4 rfl rfl rfl rfl rfl rfl rfl ⟨rfl, rfl, rfl, rfl, rfl⟩ rfl rfl rfl rfl rfl (by kernel_rfl) Tryd.func4 joined inst wrap
    (fun os started H enc _ => lifted os started H enc)

theorem proved : Rows.BodyLostCardSaid :=
  Claim7.holds_tied_plain_at .later [] Rows.bodyLostCard.laidKinds true Rows.bodyLostCard.stood.harness true
    over (fun _ h => by cases h) (by kernel_rfl) (fun _ h => by cases h) bodyLost_row_tie rfl ⟨rfl, rfl⟩ (by kernel_rfl) rfl
    (fun f fn hf hfn => by
      obtain rfl : f = 4 := Option.some.inj ((show Tryd.prog.funcNamed "breviary/breviarylaw16.BodyLost" = some 4 by kernel_rfl).symm.trans hf) |>.symm
      obtain rfl : fn = Tryd.f4 := (Option.some.inj (Tryd.func4.symm.trans hfn)).symm
      exact ⟨by kernel_rfl, fun j t ht => by
        rw [Tryd.params4] at ht
        have hm : t ∈ [3, 3, 4] := by
          have := Array.mem_of_getElem? ht
          simpa using this
        have hall : [3, 3, 4].all (fun t => !(Tryd.prog.wantsStandIn t)) = true := by kernel_rfl
        have h := (List.all_eq_true.1 hall) t hm
        simp only [Bool.not_eq_true'] at h
        exact h⟩)
    (by kernel_rfl)
#print axioms proved
end Go.Proofs.YtjmbilbkmcebeaaDoor.bodyLost
