/- PROVED: Rows.FsckSmallCardSaid: for every input the law FsckSmall returns true, and each argument reads as before. Conditions: none beyond the listed package variables, which the card ties to the program's text. -/
import Derived.Test.YtcjebpplmoakkaaGreatDoorRows
import Derived.Test.YtcjebpplmoakkaaGreatDoorCards
import Derived.Test.YtcjebpplmoakkaaGreatDoorTie
import Derived.Test.YtcjebpplmoakkaaGreatDoorLaid
import Derived.Test.YtcjebpplmoakkaaGreatDoorLaidMore
import Derived.Test.YtcjebpplmoakkaaGreatDoorFacts
import Derived.Test.YtcjebpplmoakkaaGreatDoorFsckSmall
import Derived.Test.YtcjebpplmoakkaaGreatDoorFsckSmallPre
import Derived.ProofKit
import Derived.OpenShut
import Derived.ChangeOld
import Derived.LaidMore
import Derived.ChangeSame
import Derived.ChangeVars
import Derived.JoinedOf
import Derived.Lay
import Derived.MakeChecks
import Derived.SevenTiedAt
import Derived.Stop.Joined
import Derived.ChangeMaps5
namespace Go.Proofs.YtcjebpplmoakkaaGreatDoor.fsckSmall
open Go.ChangeShapes Go.WideShapes Go.ChangeAt Go.RowKit
set_option maxRecDepth 100000

theorem lifted (os : Os) (started : os.Started) (H : Type) (enc : TypeId × Value → H) :
    ReturnsInHanded {} Tryz.checked os 3 .any (fun w args => (Rows.fsckSmallSpec.pre enc Tryz.prog Tryz.f3 [] false w args ∧ laidMetH Tryz.prog Rows.fsckSmallRow.laid w) ∧ sizedMet enc Tryz.prog Tryz.f3 (OpenSpec.ofChange Rows.fsckSmallSpec) false w args)
      (Rows.fsckSmallSpec.post enc Tryz.prog Tryz.f3 false true false false) := by
  refine returnsInHanded_of_change_and (C := Tryz.checked) (X := fun w _ => laidMetH Tryz.prog Rows.fsckSmallRow.laid w) (fun _ _ _ hh h => h.of_heap hh) own started (by kernel_rfl) Tryz.func3
    (ChangeSpec.witness_shaped (enc := enc) (C := Tryz.checked) (os := os) (X := fun w _ => laidMetH Tryz.prog Rows.fsckSmallRow.laid w) false (World.doorLaid Tryz.prog 480 os) #[.int .i64 0, .bool false] 8 rfl (World.shaped_of_RefB (by kernel_rfl) (by kernel_rfl)) (by kernel_rfl) (by kernel_rfl) (by kernel_rfl) (door_met os _)) ?_
  intro W base args ds gs before hval0 hW _ _ hL _
  have hval : ∀ (j : Nat) t v, Tryz.f3.params[j]? = some t → args[j]? = some v → Value.okWide Tryz.prog W .any base t v := hval0
  have hW' := hW
  obtain ⟨p, q, hA0, hV, rfl, hfz, hnd⟩ := hW
  have hA : DataW.TrodAll enc Tryz.prog W 0 (fun _ => true) true Tryz.f3.params.toList args.toList ds p := hA0
  rw [Tryz.params3] at hA hval
  obtain ⟨v0, vs0, d0, ds0, p0, q0, hargs, rfl, rfl, h0, r0⟩ := trodAll_cons hA
  obtain ⟨v1, vs1, d1, ds1, p1, q1, rfl, rfl, rfl, h1, r1⟩ := trodAll_cons r0
  obtain ⟨rfl, rfl, rfl⟩ := trodAll_nil r1
  obtain rfl : args = #[v0, v1] := by cases args; simp_all
  obtain ⟨rfl, rfl⟩ := trodVars_none hV
  obtain ⟨a0, rfl, rfl, rfl, w0⟩ := open_int Tryz.underlying3 (hval 0 3 v0 rfl rfl) h0
  obtain ⟨a1, rfl, rfl, rfl⟩ := open_bool Tryz.underlying4 (hval 1 4 v1 rfl rfl) h1
  obtain ⟨E, hE⟩ := env_of_laid_at 3 hL (by kernel_rfl) (by kernel_rfl) (by kernel_rfl)

  clear hA0 hval0
  simp only [List.append_nil] at hW'
  refine (fscksmall_any a0 a1 W hE).mono fun e W' ⟨he, bel⟩ => ?_
  subst he
  exact ⟨_, rfl, _, _, _, [], [], [], hW', trodAll_mk1 (shut_bool Tryz.underlying4 _), (trodAll_cons_mk (shut_int Tryz.underlying3 w0) (trodAll_cons_mk (shut_bool Tryz.underlying4 _) trodAll_mk0)), rfl, bel.frame _, fun h => by cases h⟩
theorem over : Rows.fsckSmallRow.holds Tryz.pinned (OpenSpec.ofChange Rows.fsckSmallSpec) :=
  OpenClaim.holds_of_wide 3 Tryz.f3 rfl rfl rfl rfl rfl rfl rfl ⟨rfl, rfl, rfl, rfl, rfl⟩ rfl rfl rfl rfl rfl (by kernel_rfl) Tryz.func3 joined inst wrap
    (fun os started H enc _ => lifted os started H enc)
theorem proved : Rows.FsckSmallCardSaid :=
  Claim7.holds_tied_plain_at .later [] Rows.fsckSmallCard.laidKinds true Rows.fsckSmallCard.stood.harness true
    over (fun _ h => by cases h) (by kernel_rfl) (fun _ h => by cases h) fsckSmall_row_tie rfl ⟨rfl, rfl⟩ (by kernel_rfl) rfl
    (fun f fn hf hfn => by
      obtain rfl : f = 3 := Option.some.inj ((show Tryz.prog.funcNamed "breviary/breviarylaw26.FsckSmall" = some 3 by kernel_rfl).symm.trans hf) |>.symm
      obtain rfl : fn = Tryz.f3 := (Option.some.inj (Tryz.func3.symm.trans hfn)).symm
      exact ⟨by kernel_rfl, fun j t ht => by
        rw [Tryz.params3] at ht
        have hm : t ∈ [3, 4] := by
          have := Array.mem_of_getElem? ht
          simpa using this
        have hall : [3, 4].all (fun t => !(Tryz.prog.wantsStandIn t)) = true := by kernel_rfl
        have h := (List.all_eq_true.1 hall) t hm
        simp only [Bool.not_eq_true'] at h
        exact h⟩)
    (by kernel_rfl)
#print axioms proved
end Go.Proofs.YtcjebpplmoakkaaGreatDoor.fsckSmall
