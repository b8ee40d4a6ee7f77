/- PROVED: Rows.VolFullCardSaid: for every input the law VolFull returns true, and each argument reads as before. Conditions: none beyond the listed package variables, which the card ties to the program's text. -/
import Derived.Test.YthhipeceeagpnaaGreatDoorMBase44
import Derived.Test.YthhipeceeagpnaaGreatDoorMBase12
import Derived.Test.YthhipeceeagpnaaGreatDoorMBase43
import Derived.Test.YthhipeceeagpnaaGreatDoorMBase42
import Derived.Test.YthhipeceeagpnaaGreatDoorMBase41
import Derived.Test.YthhipeceeagpnaaGreatDoorRows
import Derived.Test.YthhipeceeagpnaaGreatDoorCards
import Derived.Test.YthhipeceeagpnaaGreatDoorTie
import Derived.Test.YthhipeceeagpnaaGreatDoorMBase05
import Derived.Test.YthhipeceeagpnaaGreatDoorMBase06
import Derived.Test.YthhipeceeagpnaaGreatDoorMBase27
import Derived.Test.YthhipeceeagpnaaGreatDoorMBase28
import Derived.ProofKit
import Derived.OpenShut
import Derived.ChangeOld
import Derived.LaidMore
import Derived.ChangeSame
import Derived.ChangeVars
import Derived.JoinedOf
import Derived.Lay
import Derived.MakeChecks
import Derived.SevenTiedAt
import Derived.Stop.Joined
import Derived.ChangeMaps5
section
/- The bytes that the holes' law writes. -/
namespace Go.Proofs.YthhipeceeagpnaaGreatDoor
open Go Go.RowKit
set_option maxRecDepth 100000
set_option linter.unusedSimpArgs false
set_option linter.unusedVariables false
attribute [local go_sem] giv
theorem ones_set {n j : Nat} (h : j < n) : ((List.replicate j (Value.int .u8 1)) ++ List.replicate (n - j) (Value.int .u8 0)).set j (.int .u8 1) = (List.replicate (j + 1) (Value.int .u8 1)) ++ List.replicate (n - (j + 1)) (Value.int .u8 0) := by
  rw [List.set_append_right _ _ (by simp)]
  obtain ⟨k, hk⟩ : ∃ k, n - j = k + 1 := ⟨n - j - 1, by omega⟩
  rw [hk, show n - (j + 1) = k by omega, List.length_replicate, Nat.sub_self, List.replicate_succ, List.set_cons_zero, List.replicate_succ', List.append_assoc]
  rfl
set_option maxHeartbeats 1000000 in
theorem ones_any (w : World) {n : Nat} (hn : n ≤ 16384) : Calls Tryz.prog 15 #[.int .i64 n] w fun e w' => (∃ h, e = .returned (.slice (some ⟨h, 0, none⟩) n n) ∧ Row w' h 5 (List.replicate n (.int .u8 1)) ∧ w.heap.size ≤ h) ∧ Below w.heap.size w w' := by
  have q1 : (0 : Int) ≤ (n : Int) := by omega
  go_enter Tryz.func15, Tryz.ntmps15
  go_wp2_with (at_make; refine wpList_mk _ rfl _ _ _ rfl 5 (.int .u8 0) 1 Tryz.underlying32 u8_info rfl n rfl rfl (by omega) (by unfold maxLen; omega) ?_; intro w2 hr2 hb2; have HR2 := Lib.hid hr2; have HB2 := Lib.hid hb2; clear hr2 hb2)
  go_loopw [4] (fun i wr => ∃ j : Nat, j ≤ n ∧ i = .int .i64 j ∧ Hid (Row wr w.heap.size 5 (List.replicate j (Value.int .u8 1) ++ List.replicate (n - j) (Value.int .u8 0)) ∧ Below w.heap.size w wr)) (fun i _ => n - (intOf i).toNat)
  case atStart => exact ⟨0, Nat.zero_le _, rfl, Lib.hid ⟨by simpa using HR2.out, HB2.out⟩⟩
  case round =>
    obtain ⟨j, hj, rfl, HI⟩ := hrel
    clear HR2 HB2
    by_cases hlt : j < n
    · have hj2 : (j : Int) < (n : Int) := by omega
      obtain ⟨u, hu⟩ : ∃ u, wr.cell? ⟨w.heap.size, j, none⟩ = some u := by
        rw [HI.out.1.cell, List.getElem?_eq_getElem (by simp; omega)]
        exact ⟨_, rfl⟩
      have hf := HI.out.1.froz j
      go_wp2
      go_roundw
      case rel => exact ⟨j + 1, by omega, by go_num, Lib.hid ⟨by rw [← ones_set hlt]; exact HI.out.1.set _ _, HI.out.2.trans ((Below.refl w.heap.size wr).setCell (p := ⟨w.heap.size, j, none⟩) (Nat.le_refl _) _)⟩⟩
      case measure => simp [intOf]; omega
    · obtain rfl : j = n := by omega
      have hr3 := HI.out.1
      rw [Nat.sub_self, List.replicate_zero, List.append_nil] at hr3
      have HR3 := Lib.hid (And.intro hr3 HI.out.2)
      clear hr3
      go_wp2
      go_ret
      exact ⟨⟨_, rfl, HR3.out.1, Nat.le_refl _⟩, HR3.out.2⟩
end Go.Proofs.YthhipeceeagpnaaGreatDoor
end

section
/- The walk of VolFull. -/
namespace Go.Proofs.YthhipeceeagpnaaGreatDoor
open Go Go.RowKit
set_option maxRecDepth 100000
set_option linter.unusedSimpArgs false
set_option linter.unusedVariables false
attribute [local go_sem] giv
section
variable {E : Nat → Addr} {B : Nat} {w w' : World}
theorem slk_row {L : Nat → Prop} {c n : Nat} {x : Int} (r : Row w c 5 (List.replicate n (.int .u8 x))) : SlK B L w (some ⟨c, 0, none⟩) (List.replicate n x) := fun h0 => by
  rw [List.length_replicate] at h0
  refine ⟨c, 0, rfl, .inr (.inr ?_), r.lt, fun i hi => ?_⟩
  · obtain ⟨k, hk⟩ : ∃ k, n = k + 1 := ⟨n - 1, by omega⟩
    rw [hk, List.replicate_succ] at r
    exact r.plain (plainI _ _)
  · rw [List.length_replicate] at hi
    rw [Nat.zero_add, r.cell]
    simp [hi, List.getD_eq_getElem?_getD]
set_option maxHeartbeats 4000000 in
theorem volfull_any (a n : Int) (w : World) (hE : EnvM E B w) :
    Calls Tryz.prog 5 #[.int .i64 a, .int .i64 n] w fun e w' => e = .returned (.bool true) ∧ Below B w w' := by
  have HE := Lib.hid hE
  generalize hP : (fun (e : Ending) (w' : World) => e = .returned (.bool true) ∧ Below B w w') = Post
  have HP := Lib.hid hP
  clear hP hE
  go_enter Tryz.func5, Tryz.ntmps5
  go_wp2_with fail
  refine (first_any (HE.out.up HE.out.size (Nat.le_refl _))).mono ?_
  rintro e w1 ⟨rfl, hb1⟩
  have HB1 := Lib.hid hb1
  have HE1 := Lib.hid ((HE.out.up HE.out.size (Nat.le_refl _)).below hb1)
  clear hb1
  go_wp2_with fail
  refine (number_any a 60 (by decide) w1).mono ?_
  rintro e w1' ⟨rfl, rfl⟩
  obtain ⟨A0, hA⟩ : ∃ A0 : Nat, a % 60 = A0 := ⟨(a % 60).toNat, by omega⟩
  rw [hA]
  have hA1 : A0 < 60 := by omega
  obtain ⟨R, hR⟩ : ∃ R : Nat, A0 + 1 = R := ⟨_, rfl⟩
  obtain ⟨q, hq⟩ : ∃ q : Nat, R + 3 = q := ⟨_, rfl⟩
  have hwq : wrap64 ((A0 : Int) + 4) = (q : Int) := by unfold wrap64; omega
  have HRQ : Hid (1 ≤ R ∧ R ≤ 60 ∧ q = R + 3) := Lib.hid ⟨by omega, by omega, by omega⟩
  clear hA hA1 hR hq
  go_wp2_with fail
  try rw [hwq]
  clear hwq
  refine (vnew_any (L := fun _ => False) (HE1.out.up HE1.out.size (Nat.le_refl _)) (fun _ h => h.elim) q).mono ?_
  rintro e w2 ⟨⟨p, rfl, hv2, hpv⟩, hb2⟩
  have V2 := Lib.hid hv2
  have HB2 := Lib.hid hb2
  clear hv2 hb2 hpv
  go_wp2_with fail
  refine (vopen_new V2.out (x := pF) pF_look).mono ?_
  rintro e w3 ⟨rfl, h3, k3⟩
  rw [open_new (by have := HRQ.out; omega)] at h3 ⊢
  have V3 := Lib.hid h3
  have K3 := Lib.hid k3
  clear h3 k3
  rw [errOf_zero]
  have hroom : min (wrap64 ((q : Int) - 3)) 64 = (R : Int) := by have := HRQ.out; unfold wrap64; omega
  go_wp2_with fail
  try rw [hroom]
  clear hroom
  go_loopw [10, 11, 12] (fun v10 _ _ wr => ∃ (i : Nat) (g : Nat → FBlk), v10 = .int .i64 i ∧ i ≤ R ∧ FullS g i ∧ VAt E w1.heap.size (fun _ => False) p (fileV nmF g ((256 * i : Nat) : Int) ((256 * i : Nat) : Int) q) wr ∧ KV w1.heap.size (fun _ => False) NoB w2 wr) (fun v10 _ _ _ => R - (intOf v10).toNat)
  case atStart => exact ⟨0, _, rfl, Nat.zero_le _, FullS.zero, V3.out, K3.out⟩
  case round =>
    obtain ⟨i, g, rfl, hi, hfs, hv, hk⟩ := hrel
    have HI := Lib.hid hi
    have HF := Lib.hid hfs
    have HV := Lib.hid hv
    have HK := Lib.hid hk
    clear hi hfs hv hk
    by_cases hlt : i < R
    case pos =>
      have hlt2 : (i : Int) < (R : Int) := by omega
      have HLT := Lib.hid hlt
      obtain ⟨g', hwr, hf'⟩ := vf_write HF.out (i := i) (q := q) (by have := HRQ.out; omega) (by have := HRQ.out; omega)
      have HWR := Lib.hid hwr
      have HF' := Lib.hid hf'
      clear hlt hwr hf'
      go_wp2_with (at_make; refine wpList_mk _ rfl _ _ _ rfl 5 (.int .u8 0) 1 Tryz.underlying32 u8_info rfl 256 rfl rfl (by omega) (by unfold maxLen; omega) ?_; intro w5 hr5 hb5; have HR5 := Lib.hid hr5; have HB5 := Lib.hid hb5; clear hr5 hb5)
      have V5 := Lib.hid (HV.out.below HB5.out)
      have K5 := Lib.hid (HK.out.then HB5.out)
      have S5 := Lib.hid (slk_row (B := w1.heap.size) (L := fun _ => False) (x := 0) HR5.out)
      have hWC := vwrite_any (b := zs256) (cap := 256) V5.out (fd := 0) (x := ⟨2, _⟩) rfl (r := ⟨⟨2, 1, 1, _, noText, 0⟩, []⟩) rfl rfl HF.out.lost S5.out (by rw [zs_len]; exact Nat.le_refl _) (by unfold maxLen; omega)
      rw [zs_len, HWR.out] at hWC
      refine hWC.mono ?_
      rintro e w6 ⟨rfl, h6, k6⟩
      have V6 := Lib.hid h6
      have K6 := Lib.hid (K5.out.trans k6)
      clear h6 k6 hWC V5 K5 S5
      rw [errOf_zero]
      have hw : wrap64 ((i : Int) + 1) = ((i + 1 : Nat) : Int) := by have := HRQ.out; have := HLT.out; unfold wrap64; omega
      go_wp2
      go_roundw
      case rel => exact ⟨i + 1, g', by rw [hw], HLT.out, HF'.out, V6.out, K6.out⟩
      case measure =>
        have h3 := HLT.out
        rw [hw]
        simp only [intOf, Int.toNat_natCast]
        clear hw hlt2
        omega
    case neg =>
      obtain rfl : i = R := by have := HI.out; omega
      have hlt2 : ¬ ((i : Int) < (i : Int)) := by omega
      have h64 : ((i : Int) == 64) = false := by have := HRQ.out; rw [beq_eq_false_iff_ne]; omega
      clear hlt HI
      go_wp2_with fail
      obtain ⟨C, hC⟩ : ∃ C, wr.heap.size = C := ⟨_, rfl⟩
      obtain ⟨w5, hw5⟩ : ∃ w5, w5 = wr.alloc (.cells #[.int .u8 1] 5) := ⟨_, rfl⟩
      have hb5 : Below wr.heap.size wr w5 := by rw [hw5]; exact bl_alloc (Below.refl _ _) _
      have HR5 : Hid (Row w5 C 5 [.int .u8 1]) := Lib.hid (by rw [hw5, ← hC]; exact Row.new _ _ _)
      have V5 := Lib.hid (HV.out.below hb5)
      have K5 := Lib.hid (HK.out.then hb5)
      have HW5 := Lib.hid hw5
      have HC := Lib.hid hC
      clear hw5 hb5 hC
      rw [← HW5.out]
      simp only [HC.out]
      have S5 := Lib.hid (slk_row (B := w1.heap.size) (L := fun _ => False) (n := 1) (x := 1) HR5.out)
      refine (vwrite_any (b := [1]) (cap := 1) V5.out (fd := 0) (x := ⟨2, _⟩) rfl (r := ⟨⟨2, 1, 1, _, noText, 0⟩, []⟩) rfl rfl HF.out.lost S5.out (by decide) (by unfold maxLen; omega)).mono ?_
      rintro e w6 ⟨rfl, h6, k6⟩
      rw [vf_one HF.out (by have := HRQ.out; omega) HRQ.out.2.2] at h6 ⊢
      have V6 := Lib.hid h6
      have K6 := Lib.hid (K5.out.trans k6)
      clear h6 k6 V5 K5 S5
      go_wp2_with fail
      refine (vmkdir_any V6.out pD).mono ?_
      rintro e w7 ⟨rfl, h7, k7⟩
      rw [vf_dir HF.out (by have := HRQ.out; omega) HRQ.out.2.2] at h7 ⊢
      have V7 := Lib.hid h7
      have K7 := Lib.hid (K6.out.trans k7)
      clear h7 k7
      have hmax : max (i : Int) 1 = (i : Int) := by have := HRQ.out; omega
      go_wp2_with fail
      try rw [hmax]
      clear hmax
      refine (number_any n i (by have := HRQ.out; omega) w7).mono ?_
      rintro e w7' ⟨rfl, rfl⟩
      obtain ⟨k, hk⟩ : ∃ k : Nat, n % (i : Int) = k := ⟨(n % (i : Int)).toNat, by have := HRQ.out; have := Int.emod_nonneg n (show (i : Int) ≠ 0 by omega); omega⟩
      rw [hk]
      have HKI : Hid (k < i) := Lib.hid (by have := HRQ.out; have := Int.emod_lt_of_pos n (show (0 : Int) < (i : Int) by omega); omega)
      clear hk
      go_wp2_with fail
      refine (is_of 119 119 (by decide) w7 V7.out.env.toEnv).mono ?_
      rintro e w8 ⟨rfl, hb8⟩
      rw [show ((119 : Int) == 119) = true from rfl]
      have V8 := Lib.hid (V7.out.below hb8)
      have K8 := Lib.hid (K7.out.then hb8)
      clear hb8
      go_wp2_with fail
      refine (is_of 119 119 (by decide) w8 V8.out.env.toEnv).mono ?_
      rintro e w9 ⟨rfl, hb9⟩
      rw [show ((119 : Int) == 119) = true from rfl]
      have V9 := Lib.hid (V8.out.below hb9)
      have K9 := Lib.hid (K8.out.then hb9)
      clear hb9
      have hmul : wrap64 (256 * (k : Int)) = ((256 * k : Nat) : Int) := by have := HRQ.out; have := HKI.out; unfold wrap64; omega
      go_wp2_with fail
      try rw [hmul]
      clear hmul
      refine (vseek_any V9.out 0 (in64_of (by decide) (by decide)) (q := ((256 * k : Nat) : Int)) (in64_of (by omega) (by have := HRQ.out; have := HKI.out; omega))).mono ?_
      rintro e wa ⟨rfl, ha, ka⟩
      rw [file_seek (by omega) (by have := HRQ.out; have := HKI.out; omega)] at ha ⊢
      have VA0 := Lib.hid ha
      have KA0 := Lib.hid (K9.out.trans ka)
      clear ha ka
      rw [errOf_zero]
      have hi1 : (0 : Int) < (i : Int) := by have := HRQ.out; omega
      obtain ⟨g', hwr, hf'⟩ := vf_over HF.out (k := k) (q := q) (by have := HRQ.out; omega) HKI.out (by have := HRQ.out; omega)
      have HWR := Lib.hid hwr
      have HF' := Lib.hid hf'
      clear hwr hf'
      go_wp2_with (at_make; refine wpList_mk _ rfl _ _ _ rfl 5 (.int .u8 0) 1 Tryz.underlying32 u8_info rfl 256 rfl rfl (by omega) (by unfold maxLen; omega) ?_; intro wb hrb hbb; have HRB := Lib.hid hrb; have HBB := Lib.hid hbb; clear hrb hbb)
      have VB := Lib.hid (VA0.out.below HBB.out)
      have KB := Lib.hid (KA0.out.then HBB.out)
      have SB := Lib.hid (slk_row (B := w1.heap.size) (L := fun _ => False) (x := 0) HRB.out)
      have hWC := vwrite_any (b := zs256) (cap := 256) VB.out (fd := 0) (x := ⟨2, _⟩) rfl (r := ⟨⟨2, 1, 1, _, noText, 0⟩, []⟩) rfl rfl HF.out.lost SB.out (by rw [zs_len]; exact Nat.le_refl _) (by unfold maxLen; omega)
      rw [zs_len, HWR.out] at hWC
      refine hWC.mono ?_
      rintro e wc ⟨rfl, hc, kc⟩
      have VC0 := Lib.hid hc
      have KC := Lib.hid (KB.out.trans kc)
      clear hc kc hWC VB KB SB
      rw [errOf_zero]
      go_wp2_with fail
      refine (vtrunc_any VC0.out (fd := 0) (x := ⟨2, _⟩) rfl (r := ⟨⟨2, 1, 1, _, noText, 0⟩, []⟩) rfl rfl (m := 0) (in64_of (by decide) (by decide))).mono ?_
      rintro e wd ⟨rfl, hd, kd⟩
      obtain ⟨g2, ht, hf2⟩ := vf_trunc (sz := ((256 * i : Nat) : Int)) (pos := ((256 * (k + 1) : Nat) : Int)) (q := (q : Int)) HF'.out
      rw [ht] at hd ⊢
      have VD := Lib.hid hd
      have KD := Lib.hid (KC.out.trans kd)
      have HF2 := Lib.hid hf2
      clear hd kd ht hf2
      rw [errOf_zero]
      go_wp2_with fail
      refine (vcount_any VD.out).mono ?_
      rintro e we ⟨rfl, he, ke⟩
      rw [file_blocks0, HF2.out.pre.nBlk (by omega)]
      have VE := Lib.hid he
      have KE := Lib.hid (KD.out.trans ke)
      clear he ke
      have hfl : ∀ (a b c : Int) (w : World), (Instr.field 39 (.agg #[.int .i64 a, .int .i64 b, .int .i64 c]) 2).run Tryz.prog w = .ok (.int .i64 c) w := fun _ _ _ _ => rfl
      have hz0 : (((0 : Nat) : Int) == 0) = true := rfl
      go_wp2_with fail
      refine (vmkdir_any VE.out pD).mono ?_
      rintro e wf ⟨rfl, hf, kf⟩
      have KF := Lib.hid (KE.out.trans kf)
      have hb : Below B w wf := (HB1.out.trans ((HB2.out.trans (KF.out.below HB2.out.size)).mono HB1.out.size)).mono HE.out.size
      have HBF := Lib.hid hb
      rw [vf_none HF2.out]
      clear hf kf hb
      by_cases h5 : (5 : Int) ≤ (q : Int)
      · rw [if_pos h5]
        simp only
        rw [errOf_zero]
        go_wp2
        rw [← HP.out]
        first
          | exact ⟨rfl, HBF.out⟩
          | (go_ret; exact ⟨rfl, HBF.out⟩)
      · rw [if_neg h5]
        simp only
        rw [show errOf E 119 = errV E 6 from errOf_code (g := 6) (by decide)]
        go_wp2
        rw [← HP.out]
        first
          | exact ⟨rfl, HBF.out⟩
          | (go_ret; exact ⟨rfl, HBF.out⟩)
end
end Go.Proofs.YthhipeceeagpnaaGreatDoor
end

section
/- What the card of VolFull asks beside the walk. -/
namespace Go.Proofs.YthhipeceeagpnaaGreatDoor.volFull
open Go.ChangeShapes Go.WideShapes Go.ChangeAt Go.RowKit
set_option maxRecDepth 100000

theorem own : ownKnob Tryz.prog.godebug = none := by kernel_rfl
theorem door_met (os : Os) (args : Array Value) : laidMetH Tryz.prog Rows.volFullRow.laid ((World.laidAll Tryz.prog os Rows.volFullRow.laid).forCall (fun _ _ => 0) ⟨#[], args, []⟩).memory := by
  rw [MakeChecks.laidMetH_plain _ _ _ (by kernel_rfl)]
  exact laidMet_laidAll _ (by kernel_rfl) (by kernel_rfl)
theorem joined : joinedFacts Tryz.prog 5 Tryz.f5 Rows.volFullSpec Rows.volFullRow = true := by
  unfold joinedFacts
  rw [seat_laidOut, seat_mapsRowed, seat_stopsHeard, seat_mayEnter, seat_plainKeys, seat_lifted, seat_make]
  kernel_rfl
theorem inst : Tryz.f5.isInstance Tryz.prog Rows.volFullRow.origin Rows.volFullRow.targs := of_decide_eq_true (by kernel_rfl)
theorem wrap : Tryz.f5.isWrapper Tryz.prog Rows.volFullRow.wrapper Rows.volFullRow.mainSum := by
  unfold Func.isWrapper
  first | (rw [if_pos (by decide +kernel)]; kernel_rfl) | (rw [if_neg (by decide +kernel)]; exact ⟨rfl, rfl⟩)
end Go.Proofs.YthhipeceeagpnaaGreatDoor.volFull
end

section
namespace Go.Proofs.YthhipeceeagpnaaGreatDoor.volFull
open Go.ChangeShapes Go.WideShapes Go.ChangeAt Go.RowKit
set_option maxRecDepth 100000

theorem lifted (os : Os) (started : os.Started) (H : Type) (enc : TypeId × Value → H) :
    ReturnsInHanded {} Tryz.checked os 5 .any (fun w args => (Rows.volFullSpec.pre enc Tryz.prog Tryz.f5 [] false w args ∧ laidMetH Tryz.prog Rows.volFullRow.laid w) ∧ sizedMet enc Tryz.prog Tryz.f5 (OpenSpec.ofChange Rows.volFullSpec) false w args)
      (Rows.volFullSpec.post enc Tryz.prog Tryz.f5 false true false false) := by
  refine handed_and_shaped (C := Tryz.checked) (X := fun w _ => laidMetH Tryz.prog Rows.volFullRow.laid w) (fun _ _ _ hh h => h.of_heap hh) own started (by kernel_rfl) Tryz.func5
    (ChangeSpec.witness_shaped (enc := enc) (C := Tryz.checked) (os := os) (X := fun w _ => laidMetH Tryz.prog Rows.volFullRow.laid w) false (World.laidAll Tryz.prog os Rows.volFullRow.laid) #[.int .i64 0, .int .i64 0] 8 (World.laidAll_os _ _ _) (World.shaped_of_ZipB (by kernel_rfl) (by kernel_rfl)) (by kernel_rfl) (by kernel_rfl) (by kernel_rfl) (door_met os _)) ?_
  intro W base args ds gs before hval0 hW _ _ hL hSh _
  have hval : ∀ (j : Nat) t v, Tryz.f5.params[j]? = some t → args[j]? = some v → Value.okWide Tryz.prog W .any base t v := hval0
  have hW' := hW
  obtain ⟨p, q, hA0, hV, rfl, hfz, hnd⟩ := hW
  have hA : DataW.TrodAll enc Tryz.prog W 0 (fun _ => true) true Tryz.f5.params.toList args.toList ds p := hA0
  rw [Tryz.params5] at hA hval
  obtain ⟨v0, vs0, d0, ds0, p0, q0, hargs, rfl, rfl, h0, r0⟩ := trodAll_cons hA
  obtain ⟨v1, vs1, d1, ds1, p1, q1, rfl, rfl, rfl, h1, r1⟩ := trodAll_cons r0
  obtain ⟨rfl, rfl, rfl⟩ := trodAll_nil r1
  obtain rfl : args = #[v0, v1] := by cases args; simp_all
  obtain ⟨rfl, rfl⟩ := trodVars_none hV
  obtain ⟨a0, rfl, rfl, rfl, w0⟩ := open_int Tryz.underlying3 (hval 0 3 v0 rfl rfl) h0
  obtain ⟨a1, rfl, rfl, rfl, w1⟩ := open_int Tryz.underlying3 (hval 1 3 v1 rfl rfl) h1
  obtain ⟨E, hE0⟩ := env_of_laid_mid 1 24 hL (by kernel_rfl) (by kernel_rfl) (by kernel_rfl)
  have hE := envM_of hE0 hSh

  clear hA0 hval0
  simp only [List.append_nil] at hW'
  refine (volfull_any a0 a1 W hE).mono fun e W' ⟨he, bel⟩ => ?_
  subst he
  exact ⟨_, rfl, _, _, _, [], [], [], hW', trodAll_mk1 (shut_bool Tryz.underlying4 _), (trodAll_cons_mk (shut_int Tryz.underlying3 w0) (trodAll_cons_mk (shut_int Tryz.underlying3 w1) trodAll_mk0)), rfl, bel.frame _, fun h => by cases h⟩
theorem over : Rows.volFullRow.holds Tryz.pinned (OpenSpec.ofChange Rows.volFullSpec) :=
  OpenClaim.holds_of_wide 5 Tryz.f5 rfl rfl rfl rfl rfl rfl rfl ⟨rfl, rfl, rfl, rfl, rfl⟩ rfl rfl rfl rfl rfl (by kernel_rfl) Tryz.func5 joined inst wrap
    (fun os started H enc _ => lifted os started H enc)
theorem proved : Rows.VolFullCardSaid :=
  Claim7.holds_tied_plain_at .later [] Rows.volFullCard.laidKinds true Rows.volFullCard.stood.harness true
    over (fun _ h => by cases h) (by kernel_rfl) (fun _ h => by cases h) volFull_row_tie rfl ⟨rfl, rfl⟩ (by kernel_rfl) rfl
    (fun f fn hf hfn => by
      obtain rfl : f = 5 := Option.some.inj ((show Tryz.prog.funcNamed "breviary/breviarylaw21.VolFull" = some 5 by kernel_rfl).symm.trans hf) |>.symm
      obtain rfl : fn = Tryz.f5 := (Option.some.inj (Tryz.func5.symm.trans hfn)).symm
      exact ⟨by kernel_rfl, fun j t ht => by
        rw [Tryz.params5] at ht
        have hm : t ∈ [3, 3] := by
          have := Array.mem_of_getElem? ht
          simpa using this
        have hall : [3, 3].all (fun t => !(Tryz.prog.wantsStandIn t)) = true := by kernel_rfl
        have h := (List.all_eq_true.1 hall) t hm
        simp only [Bool.not_eq_true'] at h
        exact h⟩)
    (by kernel_rfl)
#print axioms proved
end Go.Proofs.YthhipeceeagpnaaGreatDoor.volFull
end
