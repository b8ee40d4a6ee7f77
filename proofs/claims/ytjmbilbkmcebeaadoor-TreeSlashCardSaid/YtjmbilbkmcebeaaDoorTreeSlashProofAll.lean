/- PROVED: Rows.TreeSlashCardSaid: for every input the law TreeSlash returns true, and each argument reads as before. Conditions: none beyond the listed package variables, which the card ties to the program's text. -/
import Derived.Test.YtjmbilbkmcebeaaDoorBase26
import Derived.Test.YtjmbilbkmcebeaaDoorRows
import Derived.Test.YtjmbilbkmcebeaaDoorCards
import Derived.Test.YtjmbilbkmcebeaaDoorTie
import Derived.Test.YtjmbilbkmcebeaaDoorBase28
import Derived.Test.YtjmbilbkmcebeaaDoorBase10
import Derived.Test.YtjmbilbkmcebeaaDoorBase27
import Derived.Test.YtjmbilbkmcebeaaDoorBase29
import Derived.ProofKit
import Derived.OpenShut
import Derived.ChangeOld
import Derived.LaidMore
import Derived.ChangeSame
import Derived.ChangeVars
import Derived.JoinedOf
import Derived.Lay
import Derived.MakeChecks
import Derived.SevenTiedAt
import Derived.Stop.Joined
import Derived.ChangeMaps5
section
/- The walk of the law TreeSlash. -/
namespace Go.Proofs.YtjmbilbkmcebeaaDoor
open Go Go.RowKit
set_option maxRecDepth 100000
set_option linter.unusedSimpArgs false
set_option linter.unusedVariables false
attribute [local go_sem] giv
variable {E : Nat → Addr} {B : Nat}
def slN : ByteArray := nmA [47,110,111,110,101]
def slA : ByteArray := nmA [47,97]
def slB : ByteArray := nmA [47,110,47]
def slH : ByteArray := nmA [47,104,47]
def slC : ByteArray := nmA [47,97,47]
def slD : ByteArray := nmA [47,98,47]
def slS1 (k : Nat) : St := (makeT newSt slA ((k : Int) + 1) slN).2.2
def slS2 (k : Nat) : St := (makeT (slS1 k) slB ((k : Int) + 1) slN).2.2
def slS3 (k : Nat) : St := (hardT (slS2 k) slA slH).2
def slS4 (k : Nat) : St := (unlinkT (slS3 k) slC).2.2
theorem slash_plain : (parseP slA).1 = 0 ∧ (parseP slB).1 = 0 ∧ ∀ k : Nat, k < 3 → (makeT newSt slA ((k : Int) + 1) slN).1 = 0 := by decide +kernel
theorem slash_dir : (makeT (slS1 1) slB (((1 : Nat) : Int) + 1) slN).1 = 0 ∧ (hardT (slS2 1) slA slH).1 = 114 ∧ (unlinkT (slS3 1) slC).1 = 112 ∧ (renameT (slS4 1) slA slD).1 = 0 := by decide +kernel
theorem slash_other : ∀ k : Nat, k < 3 → k ≠ 1 → (makeT (slS1 k) slB ((k : Int) + 1) slN).1 = 109 ∧ (hardT (slS2 k) slA slH).1 = 109 ∧ (unlinkT (slS3 k) slC).1 = 111 ∧ (renameT (slS4 k) slA slD).1 = 111 := by decide +kernel
theorem err_some {c : Int} (h : c = 0 ∨ (101 ≤ c ∧ c ≤ 124)) : ∃ v, errOf E c = v := ⟨_, rfl⟩

set_option maxHeartbeats 4000000 in
theorem treeslash_any (n : Int) (w : World) (hE : EnvM E B w) :
    Calls Tryd.prog 3 #[.int .i64 n] w fun e w' => e = .returned (.bool true) ∧ Below B w w' := by
  have HE := Lib.hid hE
  generalize hP : (fun (e : Ending) (w' : World) => e = .returned (.bool true) ∧ Below B w w') = Post
  have HP := Lib.hid hP
  clear hP hE
  go_enter Tryd.func3, Tryd.ntmps3
  go_wp2_with fail
  refine (first_any HE.out).mono ?_
  rintro e w1 ⟨rfl, hb1⟩
  have HE1 := Lib.hid (HE.out.keep hb1)
  have HB1 := Lib.hid hb1
  clear hb1 HE
  go_wp2_with fail
  refine (ts_new HE1.out).mono ?_
  rintro e w2 ⟨a, b, t, dm, rfl, ha, h2⟩
  have H2 := Lib.hid h2
  clear h2 ha
  go_wp2_with fail
  refine (number_any n 3 (by omega) _).mono ?_
  rintro e w2 ⟨rfl, rfl⟩
  obtain ⟨N, hN⟩ : ∃ N : Nat, n % 3 = N := ⟨(n % 3).toNat, by omega⟩
  have hN3 : N < 3 := by omega
  rw [hN]
  clear hN
  obtain ⟨p1, p2, p3⟩ := slash_plain
  have q1 := p3 N hN3
  have P1 := Lib.hid p1
  have P2 := Lib.hid p2
  have Q1 := Lib.hid q1
  clear p1 p2 p3 q1
  go_wp2_with fail
  refine (ts_make H2.out slA slN ((N : Int) + 1) Q1.out rfl (rfl : _ = slS1 N) rfl P1.out ⟨by omega, by omega⟩).mono ?_
  generalize (makeT newSt slA ((N : Int) + 1) slN).2.1 = i1
  rintro e w3 ⟨rfl, h3, k3⟩
  have H3 := Lib.hid h3
  clear h3 k3
  rw [show errOf E 0 = .nilIface from rfl]
  by_cases hk : N = 1
  · subst hk
    obtain ⟨v3, hv3⟩ := errOf_some (E := E) (c := 114) (by omega)
    obtain ⟨v4, hv4⟩ := errOf_some (E := E) (c := 112) (by omega)
    have V3 := Lib.hid hv3
    have V4 := Lib.hid hv4
    clear hv3 hv4
    obtain ⟨q2, q3, q4, q5⟩ := slash_dir
    have Q2 := Lib.hid q2
    have Q3 := Lib.hid q3
    have Q4 := Lib.hid q4
    have Q5 := Lib.hid q5
    clear q2 q3 q4 q5
    go_wp2_with fail
    refine (ts_make H3.out slB slN (((1 : Nat) : Int) + 1) Q2.out rfl (rfl : _ = slS2 1) rfl P2.out ⟨by omega, by omega⟩).mono ?_
    generalize (makeT (slS1 1) slB (((1 : Nat) : Int) + 1) slN).2.1 = i2
    rw [show errOf E 0 = .nilIface from rfl]
    rintro e w4 ⟨rfl, h4, k4⟩
    have H4 := Lib.hid h4
    clear h4 k4
    go_wp2_with fail
    refine (ts_hard H4.out slA slH Q3.out (rfl : _ = slS3 1) V3.out).mono ?_
    rintro e w5 ⟨rfl, h5, k5⟩
    have H5 := Lib.hid h5
    clear h5 k5
    go_wp2_with fail
    refine (ts_unlink H5.out slC Q4.out rfl (rfl : _ = slS4 1) V4.out).mono ?_
    generalize (unlinkT (slS3 1) slC).2.1 = i3
    rintro e w6 ⟨rfl, h6, k6⟩
    have H6 := Lib.hid h6
    clear h6 k6
    go_wp2_with fail
    refine (ts_rename H6.out slA slD Q5.out rfl rfl rfl).mono ?_
    generalize (renameT (slS4 1) slA slD).2.1 = i4
    generalize (renameT (slS4 1) slA slD).2.2 = S5
    rw [show errOf E 0 = .nilIface from rfl]
    rintro e w7 ⟨rfl, h7, k7⟩
    have H7 := Lib.hid h7
    clear h7 k7
    go_wp2_with fail
    refine (ts_is H7.out V3.out (by omega) (by decide : ((114 : Int) == 114) = true)).mono ?_
    rintro e w8 ⟨rfl, hb8, h8⟩
    have H8 := Lib.hid h8
    clear h8 hb8
    go_wp2_with fail
    refine (ts_is H8.out V4.out (by omega) (by decide : ((112 : Int) == 112) = true)).mono ?_
    rintro e w9 ⟨rfl, hb9, h9⟩
    have H9 := Lib.hid h9
    clear h9 hb9
    go_wp2
    rw [← HP.out]
    exact ⟨by first | done | rfl, HB1.out.trans H9.out.bel⟩
  · obtain ⟨v1, hv1⟩ := errOf_some (E := E) (c := 109) (by omega)
    obtain ⟨v4, hv4⟩ := errOf_some (E := E) (c := 111) (by omega)
    have V1 := Lib.hid hv1
    have V4 := Lib.hid hv4
    have hk2 : ¬ (N : Int) + 1 = 2 := by omega
    clear hv1 hv4
    obtain ⟨q2, q3, q4, q5⟩ := slash_other N hN3 hk
    have Q2 := Lib.hid q2
    have Q3 := Lib.hid q3
    have Q4 := Lib.hid q4
    have Q5 := Lib.hid q5
    clear q2 q3 q4 q5
    go_wp2_with fail
    refine (ts_make H3.out slB slN ((N : Int) + 1) Q2.out rfl (rfl : _ = slS2 N) V1.out P2.out ⟨by omega, by omega⟩).mono ?_
    generalize (makeT (slS1 N) slB ((N : Int) + 1) slN).2.1 = i2
    rintro e w4 ⟨rfl, h4, k4⟩
    have H4 := Lib.hid h4
    clear h4 k4
    go_wp2_with fail
    refine (ts_hard H4.out slA slH Q3.out (rfl : _ = slS3 N) V1.out).mono ?_
    rintro e w5 ⟨rfl, h5, k5⟩
    have H5 := Lib.hid h5
    clear h5 k5
    go_wp2_with fail
    refine (ts_unlink H5.out slC Q4.out rfl (rfl : _ = slS4 N) V4.out).mono ?_
    generalize (unlinkT (slS3 N) slC).2.1 = i3
    rintro e w6 ⟨rfl, h6, k6⟩
    have H6 := Lib.hid h6
    clear h6 k6
    go_wp2_with fail
    refine (ts_rename H6.out slA slD Q5.out rfl rfl V4.out).mono ?_
    generalize (renameT (slS4 N) slA slD).2.1 = i4
    generalize (renameT (slS4 N) slA slD).2.2 = S5
    rintro e w7 ⟨rfl, h7, k7⟩
    have H7 := Lib.hid h7
    clear h7 k7
    go_wp2_with fail
    refine (ts_is H7.out V1.out (by omega) (by decide : ((109 : Int) == 109) = true)).mono ?_
    rintro e w8 ⟨rfl, hb8, h8⟩
    have H8 := Lib.hid h8
    clear h8 hb8
    go_wp2_with fail
    refine (ts_is H8.out V1.out (by omega) (by decide : ((109 : Int) == 109) = true)).mono ?_
    rintro e w9 ⟨rfl, hb9, h9⟩
    have H9 := Lib.hid h9
    clear h9 hb9
    go_wp2_with fail
    refine (ts_is H9.out V4.out (by omega) (by decide : ((111 : Int) == 111) = true)).mono ?_
    rintro e w10 ⟨rfl, hb10, h10⟩
    have H10 := Lib.hid h10
    clear h10 hb10
    go_wp2_with fail
    refine (ts_is H10.out V4.out (by omega) (by decide : ((111 : Int) == 111) = true)).mono ?_
    rintro e w11 ⟨rfl, hb11, h11⟩
    have H11 := Lib.hid h11
    clear h11 hb11
    go_wp2
    rw [← HP.out]
    exact ⟨by first | done | rfl, HB1.out.trans H11.out.bel⟩
end Go.Proofs.YtjmbilbkmcebeaaDoor
end

section
namespace Go.Proofs.YtjmbilbkmcebeaaDoor.treeSlash
open Go.ChangeShapes Go.WideShapes Go.ChangeAt Go.RowKit
set_option maxRecDepth 100000

theorem own : ownKnob Tryd.prog.godebug = none := by kernel_rfl

theorem door_met (os : Os) (args : Array Value) : laidMetH Tryd.prog Rows.treeSlashRow.laid ((World.laidAll Tryd.prog os Rows.treeSlashRow.laid).forCall (fun _ _ => 0) ⟨#[], args, []⟩).memory := by
  rw [MakeChecks.laidMetH_plain _ _ _ (by kernel_rfl)]
  exact laidMet_laidAll _ (by kernel_rfl) (by kernel_rfl)

theorem lifted (os : Os) (started : os.Started) (H : Type) (enc : TypeId × Value → H) :
    ReturnsInHanded {} Tryd.checked os 3 .any (fun w args => (Rows.treeSlashSpec.pre enc Tryd.prog Tryd.f3 [] false w args ∧ laidMetH Tryd.prog Rows.treeSlashRow.laid w) ∧ sizedMet enc Tryd.prog Tryd.f3 (OpenSpec.ofChange Rows.treeSlashSpec) false w args)
      (Rows.treeSlashSpec.post enc Tryd.prog Tryd.f3 false true false false) := by
  refine handed_and_shaped (C := Tryd.checked) (X := fun w _ => laidMetH Tryd.prog Rows.treeSlashRow.laid w) (fun _ _ _ hh h => h.of_heap hh) own started (by kernel_rfl) Tryd.func3
    (ChangeSpec.witness_shaped (enc := enc) (C := Tryd.checked) (os := os) (X := fun w _ => laidMetH Tryd.prog Rows.treeSlashRow.laid w) false (World.laidAll Tryd.prog os Rows.treeSlashRow.laid) #[.int .i64 0] 8 (World.laidAll_os _ _ _) (World.shaped_of_ZipB (by kernel_rfl) (by kernel_rfl)) (by kernel_rfl) (by kernel_rfl) (by kernel_rfl) (door_met os _)) ?_
  intro W base args ds gs before hval0 hW _ _ hL hSh _
  have hval : ∀ (j : Nat) t v, Tryd.f3.params[j]? = some t → args[j]? = some v → Value.okWide Tryd.prog W .any base t v := hval0
  have hW' := hW
  obtain ⟨p, q, hA0, hV, rfl, hfz, hnd⟩ := hW
  have hA : DataW.TrodAll enc Tryd.prog W 0 (fun _ => true) true Tryd.f3.params.toList args.toList ds p := hA0
  rw [Tryd.params3] at hA hval
  obtain ⟨v0, vs0, d0, ds0, p0, q0, hargs, rfl, rfl, h0, r0⟩ := trodAll_cons hA
  obtain ⟨rfl, rfl, rfl⟩ := trodAll_nil r0
  obtain rfl : args = #[v0] := by cases args; simp_all
  obtain ⟨rfl, rfl⟩ := trodVars_none hV
  obtain ⟨a0, rfl, rfl, rfl, w0⟩ := open_int Tryd.underlying3 (hval 0 3 v0 rfl rfl) h0
  obtain ⟨E, hE0⟩ := env_of_laid_mid 1 24 hL (by kernel_rfl) (by kernel_rfl) (by kernel_rfl)
  have hE := envM_of hE0 hSh

  clear hA0 hval0
  simp only [List.append_nil] at hW'
  refine (treeslash_any a0 W hE).mono fun e W' ⟨he, bel⟩ => ?_
  subst he
  exact ⟨_, rfl, _, _, _, [], [], [], hW', trodAll_mk1 (shut_bool Tryd.underlying4 _), (trodAll_cons_mk (shut_int Tryd.underlying3 w0) trodAll_mk0), rfl, bel.frame _, fun h => by cases h⟩

theorem joined : joinedFacts Tryd.prog 3 Tryd.f3 Rows.treeSlashSpec Rows.treeSlashRow = true := by
  unfold joinedFacts
  rw [seat_laidOut, seat_mapsRowed, seat_stopsHeard, seat_mayEnter, seat_plainKeys, seat_lifted, seat_make]
  kernel_rfl
theorem inst : Tryd.f3.isInstance Tryd.prog Rows.treeSlashRow.origin Rows.treeSlashRow.targs := of_decide_eq_true (by kernel_rfl)
theorem wrap : Tryd.f3.isWrapper Tryd.prog Rows.treeSlashRow.wrapper Rows.treeSlashRow.mainSum := by
  unfold Func.isWrapper
  first | (rw [if_pos (by decide +kernel)]; kernel_rfl) | (rw [if_neg (by decide +kernel)]; exact ⟨rfl, rfl⟩)

theorem over : Rows.treeSlashRow.holds Tryd.pinned (OpenSpec.ofChange Rows.treeSlashSpec) :=
  OpenClaim.holds_of_wide 3 Tryd.f3 rfl rfl rfl rfl rfl rfl rfl ⟨rfl, rfl, rfl, rfl, rfl⟩ rfl rfl rfl rfl rfl (by kernel_rfl) Tryd.func3 joined inst wrap
    (fun os started H enc _ => lifted os started H enc)

theorem proved : Rows.TreeSlashCardSaid :=
  Claim7.holds_tied_plain_at .later [] Rows.treeSlashCard.laidKinds true Rows.treeSlashCard.stood.harness true
    over (fun _ h => by cases h) (by kernel_rfl) (fun _ h => by cases h) treeSlash_row_tie rfl ⟨rfl, rfl⟩ (by kernel_rfl) rfl
    (fun f fn hf hfn => by
      obtain rfl : f = 3 := Option.some.inj ((show Tryd.prog.funcNamed "breviary/breviarylaw19.TreeSlash" = some 3 by kernel_rfl).symm.trans hf) |>.symm
      obtain rfl : fn = Tryd.f3 := (Option.some.inj (Tryd.func3.symm.trans hfn)).symm
      exact ⟨by kernel_rfl, fun j t ht => by
        rw [Tryd.params3] at ht
        have hm : t ∈ [3] := by
          have := Array.mem_of_getElem? ht
          simpa using this
        have hall : [3].all (fun t => !(Tryd.prog.wantsStandIn t)) = true := by kernel_rfl
        have h := (List.all_eq_true.1 hall) t hm
        simp only [Bool.not_eq_true'] at h
        exact h⟩)
    (by kernel_rfl)
#print axioms proved
end Go.Proofs.YtjmbilbkmcebeaaDoor.treeSlash
end
