/- PROVED: Rows.VolLostCardSaid: for every input the law VolLost returns true, and each argument reads as before. Conditions: none beyond the listed package variables, which the card ties to the program's text. -/
import Derived.Test.YthhipeceeagpnaaGreatDoorMBase44
import Derived.Test.YthhipeceeagpnaaGreatDoorMBase42
import Derived.Test.YthhipeceeagpnaaGreatDoorRows
import Derived.Test.YthhipeceeagpnaaGreatDoorCards
import Derived.Test.YthhipeceeagpnaaGreatDoorTie
import Derived.Test.YthhipeceeagpnaaGreatDoorMBase05
import Derived.Test.YthhipeceeagpnaaGreatDoorMBase06
import Derived.Test.YthhipeceeagpnaaGreatDoorMBase27
import Derived.Test.YthhipeceeagpnaaGreatDoorMBase28
import Derived.ProofKit
import Derived.OpenShut
import Derived.ChangeOld
import Derived.LaidMore
import Derived.ChangeSame
import Derived.ChangeVars
import Derived.JoinedOf
import Derived.Lay
import Derived.MakeChecks
import Derived.SevenTiedAt
import Derived.Stop.Joined
import Derived.ChangeMaps5
section
/- The walk of VolLost. -/
namespace Go.Proofs.YthhipeceeagpnaaGreatDoor
open Go Go.RowKit
set_option maxRecDepth 100000
set_option linter.unusedSimpArgs false
set_option linter.unusedVariables false
attribute [local go_sem] giv
theorem no_lost {s : V} (h : ∀ k i, s.g k i ≠ some none) {zs : List Cl} (hz : ∀ c, c ∈ zs ↔ isLost (gB s.g) c = true) : zs = [] := by
  refine List.eq_nil_iff_forall_not_mem.2 fun c hc => ?_
  have h1 := (hz c).1 hc
  unfold isLost gB at h1
  by_cases hb : 0 ≤ c.2 ∧ c.2 < 64
  · rw [if_pos hb] at h1
    have h2 := h c.1 c.2.toNat
    cases ho : s.g c.1 c.2.toNat with
    | none => rw [ho] at h1; cases h1
    | some o =>
      cases o with
      | none => exact h2 ho
      | some l => rw [ho] at h1; cases h1
  · rw [if_neg hb] at h1
    cases h1
section
variable {E : Nat → Addr} {B : Nat} {w w' : World}
set_option maxHeartbeats 8000000 in
theorem vollost_any (n a f z : Int) (w : World) (hE : EnvM E B w) :
    Calls Tryz.prog 4 #[.int .i64 n, .int .i64 a, .int .i64 f, .int .i64 z] w fun e w' => e = .returned (.bool true) ∧ Below B w w' := by
  have HE := Lib.hid hE
  generalize hP : (fun (e : Ending) (w' : World) => e = .returned (.bool true) ∧ Below B w w') = Post
  have HP := Lib.hid hP
  clear hP hE
  go_enter Tryz.func4, Tryz.ntmps4
  go_wp2_with fail
  refine (first_any (HE.out.up HE.out.size (Nat.le_refl _))).mono ?_
  rintro e w1 ⟨rfl, hb1⟩
  have HB1 := Lib.hid hb1
  have HE1 := Lib.hid ((HE.out.up HE.out.size (Nat.le_refl _)).below hb1)
  clear hb1
  go_wp2_with fail
  refine (number_any n 8 (by decide) w1).mono ?_
  rintro e w1' ⟨rfl, rfl⟩
  obtain ⟨N0, hN0⟩ : ∃ N0 : Nat, n % 8 = N0 := ⟨(n % 8).toNat, by omega⟩
  rw [hN0]
  obtain ⟨N, hN⟩ : ∃ N : Nat, N0 + 1 = N := ⟨_, rfl⟩
  have hwN : wrap64 ((N0 : Int) + 1) = (N : Int) := by unfold wrap64; omega
  have HN : Hid (1 ≤ N ∧ N ≤ 8) := Lib.hid ⟨by omega, by omega⟩
  clear hN0 hN
  go_wp2_with fail
  try rw [hwN]
  refine (number_any a N (by have := HN.out; omega) w1).mono ?_
  rintro e w1' ⟨rfl, rfl⟩
  obtain ⟨A, hA⟩ : ∃ A : Nat, a % (N : Int) = A := ⟨(a % (N : Int)).toNat, by have := HN.out; have := Int.emod_nonneg a (show (N : Int) ≠ 0 by omega); omega⟩
  rw [hA]
  have HNA : Hid (A < N ∧ N ≤ 8 ∧ 1 ≤ N) := Lib.hid ⟨by have := HN.out; have := Int.emod_lt_of_pos a (show (0 : Int) < (N : Int) by omega); omega, HN.out.2, HN.out.1⟩
  clear hA hwN
  go_wp2_with fail
  refine (number_any f 256 (by decide) w1).mono ?_
  rintro e w1' ⟨rfl, rfl⟩
  obtain ⟨F, hF⟩ : ∃ F : Nat, f % 256 = F := ⟨(f % 256).toNat, by omega⟩
  rw [hF]
  have HF : Hid (F < 256) := Lib.hid (by omega)
  clear hF
  go_wp2_with fail
  refine (number_any z 256 (by decide) w1).mono ?_
  rintro e w1' ⟨rfl, rfl⟩
  obtain ⟨Z0, hZ0⟩ : ∃ Z0 : Nat, z % 256 = Z0 := ⟨(z % 256).toNat, by omega⟩
  rw [hZ0]
  obtain ⟨Z, hZ⟩ : ∃ Z : Nat, Z0 + 1 = Z := ⟨_, rfl⟩
  have hwZ : wrap64 ((Z0 : Int) + 1) = (Z : Int) := by unfold wrap64; omega
  have HZ : Hid (1 ≤ Z ∧ Z ≤ 256) := Lib.hid ⟨by omega, by omega⟩
  clear hZ0 hZ
  go_wp2_with fail
  try rw [hwZ]
  clear hwZ
  refine (vnew_any (L := fun _ => False) (HE1.out.up HE1.out.size (Nat.le_refl _)) (fun _ h => h.elim) 60).mono ?_
  rintro e w2 ⟨⟨p, rfl, hv2, hpv⟩, hb2⟩
  have V2 := Lib.hid hv2
  have HB2 := Lib.hid hb2
  clear hv2 hb2 hpv
  go_wp2_with fail
  refine (vopen_new V2.out (x := pF) pF_look).mono ?_
  rintro e w3 ⟨rfl, h3, k3⟩
  rw [open_new (by decide), ← fulB_zero] at h3
  rw [open_new (by decide)]
  have V3 := Lib.hid h3
  have K3 := Lib.hid k3
  clear h3 k3
  rw [errOf_zero]
  go_wp2_with fail
  refine (vfstat_any V3.out (fd := 0) (by decide) (x := ⟨2, 0⟩) rfl (n := ⟨2, 1, 1, 0, noText, 0⟩) rfl (in64_of (by show (0 : Int) ≤ 2; decide) (by show (2 : Int) ≤ 16777215; decide))).mono ?_
  rintro e w7 ⟨rfl, hb7⟩
  obtain ⟨T, hT⟩ : ∃ T : Int, (nBlk (fulB 0) : Int) = T := ⟨_, rfl⟩
  have hst : staC (statN (fileV nmF (fulB 0) 0 0 60) ⟨2, 1, 1, 0, noText, 0⟩) = .agg #[.int .i64 2, .int .i64 1, .int .i64 1, .int .i64 0, .int .i64 T] := by rw [← hT]; rfl
  rw [hst]
  obtain ⟨D, hD⟩ : ∃ D, w7.heap.size = D := ⟨_, rfl⟩
  obtain ⟨w8, hw8⟩ : ∃ w8, w8 = w7.alloc (.cells #[.int .i64 2, .int .i64 1, .int .i64 1, .int .i64 0, .int .i64 T] 35) := ⟨_, rfl⟩
  have hb8 : Below w7.heap.size w7 w8 := by rw [hw8]; exact bl_alloc (Below.refl _ _) _
  have R8 : Hid (Row w8 D 35 [.int .i64 2, .int .i64 1, .int .i64 1, .int .i64 0, .int .i64 T]) := Lib.hid (by rw [hw8, ← hD]; exact Row.new _ _ _)
  have V8 := Lib.hid ((V3.out.below hb7).below hb8)
  have K8 := Lib.hid ((K3.out.then hb7).then hb8)
  have HW8 := Lib.hid hw8
  have HD8 := Lib.hid hD
  clear hw8 hb8 hb7 hD hT hst
  go_wp2_with fail
  rw [← HW8.out]
  simp only [HD8.out]
  go_loopw [15] (fun v15 wr => ∃ i : Nat, v15 = .int .i64 i ∧ i ≤ N ∧ VAt E w1.heap.size (fun _ => False) p (fileV nmF (fulB i) ((256 * i : Nat) : Int) ((256 * i : Nat) : Int) 60) wr ∧ KV w1.heap.size (fun _ => False) NoB w8 wr) (fun v15 _ => N - (intOf v15).toNat)
  case atStart => exact ⟨0, rfl, Nat.zero_le _, V8.out, KV.refl _ _ _ _⟩
  case round =>
    obtain ⟨i, rfl, hi, hv, hk⟩ := hrel
    have HI := Lib.hid hi
    have HV := Lib.hid hv
    have HK := Lib.hid hk
    clear hi hv hk
    by_cases hlt : i < N
    case pos =>
      have hlt2 : (i : Int) < (N : Int) := by omega
      have HLT := Lib.hid hlt
      have hw1 : wrap64 ((i : Int) + 1) = ((i + 1 : Nat) : Int) := by have := HN.out; have := HLT.out; unfold wrap64; omega
      have hw8 : ((i : Int) + 1) % 256 = ((i + 1 : Nat) : Int) := by have := HN.out; have := HLT.out; omega
      clear hlt
      go_wp2_with fail
      obtain ⟨C, hC⟩ : ∃ C, wr.heap.size = C := ⟨_, rfl⟩
      obtain ⟨w5, hw5⟩ : ∃ w5, w5 = wr.alloc (.cells #[.int .u8 ((i : Int) + 1)] 5) := ⟨_, rfl⟩
      have hb5 : Below wr.heap.size wr w5 := by rw [hw5]; exact bl_alloc (Below.refl _ _) _
      have HR5 : Hid (Row w5 C 5 ([((i + 1 : Nat) : Int)].map (Value.int .u8))) := Lib.hid (by rw [hw5, ← hC]; exact Row.new _ _ _)
      have V5 := Lib.hid (HV.out.below hb5)
      have K5 := Lib.hid (HK.out.then hb5)
      have HW5 := Lib.hid hw5
      have HC := Lib.hid hC
      have HW81 := Lib.hid hw8
      clear hw5 hb5 hC hw8
      try rw [HW81.out]
      rw [← HW5.out]
      simp only [HC.out]
      refine (full_any (rdB_map (cap := 1) HR5.out) (by show 1 ≤ 256; omega)).mono ?_
      rintro e w6 ⟨⟨h, rfl, -, hr6⟩, hb6⟩
      have V6 := Lib.hid (V5.out.below hb6)
      have K6 := Lib.hid (K5.out.then hb6)
      have S6 := Lib.hid (slk_map (B := w1.heap.size) (L := fun _ => False) (l := fulL i) hr6)
      clear hr6 hb6
      go_wp2_with fail
      have hWC := vwrite_any (b := fulL i) (cap := 256) V6.out (fd := 0) (x := ⟨2, _⟩) rfl (r := ⟨⟨2, 1, 1, _, noText, 0⟩, []⟩) rfl rfl (fulB_lost i) S6.out (by rw [fulL_len]; exact Nat.le_refl _) (by unfold maxLen; omega)
      rw [fulL_len, fulB_write (by have := HN.out; have := HLT.out; omega)] at hWC
      refine hWC.mono ?_
      rintro e w9 ⟨rfl, h9, k9⟩
      have V9 := Lib.hid h9
      have K9 := Lib.hid (K6.out.trans k9)
      clear h9 k9 hWC V5 K5 S6
      go_wp2
      go_roundw
      case rel => exact ⟨i + 1, by rw [hw1], HLT.out, V9.out, K9.out⟩
      case measure =>
        have h3 := HLT.out
        rw [hw1]
        simp only [intOf, Int.toNat_natCast]
        clear hw1 hlt2
        omega
    case neg =>
      obtain rfl : i = N := by have := HI.out; omega
      have hlt2 : ¬ ((i : Int) < (i : Int)) := by omega
      clear hlt HI
      have HKL : Hid (∀ (s' : V) w', VAt E w1.heap.size (fun _ => False) p s' w' → KV w1.heap.size (fun _ => False) NoB wr w' → w'.cell? ⟨p.v, 1, none⟩ = some (.pointer (some ⟨p.bb, 0, none⟩)) ∧ w'.cell? ⟨D, 0, none⟩ = some (.int .i64 2)) := Lib.hid fun s' w' hv hk => by
        obtain ⟨c0, c1, c2, t0, t1⟩ := hv.vc
        exact ⟨c1, (R8.out.kv (plainI _ _) (HK.out.trans hk)).cell' (i := 0) rfl⟩
      have HLC : Hid (∀ w', VAt E w1.heap.size (fun _ => False) p (fileV nmF (fulB i) ((256 * i : Nat) : Int) ((256 * i : Nat) : Int) 60) w' → Calls Tryz.prog 20 #[.pointer (some ⟨p.bb, 0, none⟩), .agg #[.int .i64 2, .int .i64 A]] w' fun e w'' => e = .returned (.bool true) ∧ VAt E w1.heap.size (fun _ => False) p (fileV nmF (lostG i A) ((256 * i : Nat) : Int) ((256 * i : Nat) : Int) 60) w'' ∧ KV w1.heap.size (fun _ => False) NoB w' w'') := Lib.hid fun w' hv => by
        have h := va_lose hv (k := 2) (in64_of (by decide) (by decide)) (i := A) (by have := HNA.out; omega) (o := some (fulL A)) (by show fulB i A = _; exact fulB_there HNA.out.1) (by
          rw [lostG_set]
          exact file_wf (by omega) (by have := HNA.out; omega) (by omega) (by have := HNA.out; omega) (lostG_lt HNA.out.2.1 HNA.out.1) (lostG_wf i A))
        rw [lostG_set] at h
        exact h
      go_wp2_with fail
      go_region_held3 (fun w' => w'.cell? ⟨p.v, 1, none⟩ = some (.pointer (some ⟨p.bb, 0, none⟩)) ∧ w'.cell? ⟨D, 0, none⟩ = some (.int .i64 2)) (first | exact HKL.out _ _ (HV.out.below (Below.refl _ _).drew) (KV.of_below (Below.refl _ _).drew) | exact HKL.out _ _ V5.out K5.out)
        (first
          | (go_at_call 20; refine (HLC.out _ (HV.out.below (Below.refl _ _).drew)).mono ?_; rintro e w5 ⟨rfl, hv5, hk5⟩; have V5 := Lib.hid hv5; have K5 := Lib.hid ((KV.of_below (Below.refl wr.heap.size wr).drew).trans hk5); clear hv5 hk5))
      have KL5 : Hid (KV w1.heap.size (fun _ => False) NoB w2 w5) := Lib.hid (K8.out.trans (HK.out.trans K5.out))
      go_wp2_with fail
      go_loopw [16, 17, 18] (fun v16 _ _ wr => ∃ (j : Nat) (P : Int), v16 = .int .i64 j ∧ j ≤ i ∧ VAt E w1.heap.size (fun _ => False) p (fileV nmF (lostG i A) ((256 * i : Nat) : Int) P 60) wr ∧ KV w1.heap.size (fun _ => False) NoB w5 wr) (fun v16 _ _ _ => i - (intOf v16).toNat)
      case atStart => exact ⟨0, _, rfl, Nat.zero_le _, V5.out, KV.refl _ _ _ _⟩
      case round =>
        obtain ⟨j, P, rfl, hj, hv, hk⟩ := hrel
        have HJ := Lib.hid hj
        have HVJ := Lib.hid hv
        have HKJ := Lib.hid hk
        clear hj hv hk hlt2
        by_cases hlt : j < i
        case pos =>
          have hlt2 : (j : Int) < (i : Int) := by omega
          have HLT := Lib.hid hlt
          have hmul : wrap64 (256 * (j : Int)) = ((256 * j : Nat) : Int) := by have := HNA.out; have := HLT.out; unfold wrap64; omega
          clear hlt
          go_wp2_with fail
          try rw [hmul]
          clear hmul
          refine (vseek_any HVJ.out 0 (in64_of (by decide) (by decide)) (q := ((256 * j : Nat) : Int)) (in64_of (by omega) (by have := HNA.out; have := HLT.out; omega))).mono ?_
          rintro e wa ⟨rfl, ha, ka⟩
          rw [file_seek (by omega) (by have := HNA.out; have := HLT.out; omega)] at ha ⊢
          have VA0 := Lib.hid ha
          have KA0 := Lib.hid (HKJ.out.trans ka)
          clear ha ka
          go_wp2_with fail
          refine (vreadl_any VA0.out (fd := 0) (x := ⟨2, _⟩) rfl (r := ⟨⟨2, 1, 1, _, noText, 0⟩, []⟩) rfl (m := 256) (in64_of (by decide) (by decide)) (by decide)).mono ?_
          rintro e wb ⟨⟨v, rfl, hs⟩, hb, kb⟩
          rw [lost_read HNA.out.2.1 HLT.out] at hb hs ⊢
          have hw1 : wrap64 ((j : Int) + 1) = ((j + 1 : Nat) : Int) := by have := HNA.out; have := HLT.out; unfold wrap64; omega
          by_cases hja : j = A
          · subst hja
            rw [if_pos rfl] at hb hs ⊢
            have VB := Lib.hid hb
            have KB := Lib.hid (KA0.out.trans kb)
            obtain ⟨sp, cap, hv⟩ := hs.shape
            subst hv
            clear hb kb hs
            go_wp2_with fail
            refine (is_of 107 107 (by decide) wb VB.out.env.toEnv).mono ?_
            rintro e wc ⟨rfl, hbc⟩
            rw [show ((107 : Int) == 107) = true from rfl]
            have VC0 := Lib.hid (VB.out.below hbc)
            have KC := Lib.hid (KB.out.then hbc)
            clear hbc
            go_wp2
            go_roundw
            case rel => exact ⟨j + 1, _, by rw [hw1], HLT.out, VC0.out, KC.out⟩
            case measure =>
              have h3 := HLT.out
              rw [hw1]
              simp only [intOf, Int.toNat_natCast]
              clear hw1 hlt2
              omega
          · rw [if_neg hja] at hb hs ⊢
            have hje : ((j : Int) == (A : Int)) = false := by rw [beq_eq_false_iff_ne]; omega
            have hje2 : (j == A) = false := by rw [beq_eq_false_iff_ne]; exact hja
            have VB := Lib.hid hb
            have KB := Lib.hid (KA0.out.trans kb)
            have RV := Lib.hid hs.rdB8
            obtain ⟨sp, cap, hv⟩ := hs.shape
            rw [show (fulL j).length = 256 from fulL_len j] at hv
            subst hv
            have hw8 : ((j : Int) + 1) % 256 = ((j + 1 : Nat) : Int) := by have := HN.out; have := HLT.out; omega
            have hja2 : ¬ (j : Int) = (A : Int) := by omega
            clear hb kb hs
            rw [errOf_zero]
            go_wp2_with fail
            obtain ⟨C, hC⟩ : ∃ C, wb.heap.size = C := ⟨_, rfl⟩
            obtain ⟨w6, hw6⟩ : ∃ w6, w6 = wb.alloc (.cells #[.int .u8 ((j : Int) + 1)] 5) := ⟨_, rfl⟩
            have hb6 : Below wb.heap.size wb w6 := by rw [hw6]; exact bl_alloc (Below.refl _ _) _
            have HR6 : Hid (Row w6 C 5 ([((j + 1 : Nat) : Int)].map (Value.int .u8))) := Lib.hid (by rw [hw6, ← hC]; exact Row.new _ _ _)
            have V6 := Lib.hid (VB.out.below hb6)
            have K6 := Lib.hid (KB.out.then hb6)
            have RV6 := Lib.hid (RV.out.below hb6)
            have HW6 := Lib.hid hw6
            have HC := Lib.hid hC
            have HW81 := Lib.hid hw8
            clear hw6 hb6 hC hw8
            try rw [HW81.out]
            rw [← HW6.out]
            simp only [HC.out]
            refine (full_any (rdB_map (cap := 1) HR6.out) (by show 1 ≤ 256; omega)).mono ?_
            rintro e wc ⟨⟨h, rfl, -, hr7⟩, hb7⟩
            have VC0 := Lib.hid (V6.out.below hb7)
            have KC := Lib.hid (K6.out.then hb7)
            have RVC := Lib.hid (RV6.out.below hb7)
            have RU := Lib.hid (rdB_map (cap := 256) (l := fulL j) hr7)
            clear hr7 hb7
            go_wp2_with fail
            have hSB := samebytes_any RVC.out RU.out (by rw [fulL_len]; omega)
            rw [fulL_len, decide_eq_true rfl] at hSB
            refine hSB.mono ?_
            rintro e wd ⟨rfl, hbd⟩
            have VD := Lib.hid (VC0.out.below hbd)
            have KD := Lib.hid (KC.out.then hbd)
            clear hbd hSB
            go_wp2
            go_roundw
            case rel => exact ⟨j + 1, _, by rw [hw1], HLT.out, VD.out, KD.out⟩
            case measure =>
              have h3 := HLT.out
              rw [hw1]
              simp only [intOf, Int.toNat_natCast]
              clear hw1 hlt2
              omega
        case neg =>
          obtain rfl : j = i := by have := HJ.out; omega
          have hlt2 : ¬ ((j : Int) < (j : Int)) := by omega
          clear hlt HJ
          have hmul : wrap64 (256 * (A : Int)) = ((256 * A : Nat) : Int) := by have := HNA.out; unfold wrap64; omega
          have hadd : wrap64 (((256 * A : Nat) : Int) + (F : Int)) = ((256 * A + F : Nat) : Int) := by have := HNA.out; have := HF.out; clear hmul; unfold wrap64; omega
          obtain ⟨X, hX⟩ : ∃ X, 256 * A = X := ⟨_, rfl⟩
          rw [hX] at hmul hadd
          obtain ⟨Y, hY⟩ : ∃ Y, X + F = Y := ⟨_, rfl⟩
          rw [hY] at hadd
          have HY : Hid (256 * A + F = Y ∧ Y ≤ 16384) := Lib.hid (by have := HNA.out; have := HF.out; omega)
          clear hX hY
          go_wp2_with fail
          try rw [hmul]
          try rw [hadd]
          clear hmul hadd
          refine (vseek_any HVJ.out 0 (in64_of (by decide) (by decide)) (q := (Y : Int)) (in64_of (by omega) (by have := HY.out; omega))).mono ?_
          rintro e wa ⟨rfl, ha, ka⟩
          rw [file_seek (by omega) (by have := HY.out; omega)] at ha ⊢
          have VA0 := Lib.hid ha
          have KA0 := Lib.hid (KL5.out.trans (HKJ.out.trans ka))
          clear ha ka
          have hsub : wrap64 (256 - (F : Int)) = ((256 - F : Nat) : Int) := by have := HF.out; unfold wrap64; omega
          obtain ⟨G, hG⟩ : ∃ G, 256 - F = G := ⟨_, rfl⟩
          rw [hG] at hsub
          obtain ⟨M, hM⟩ : ∃ M, min Z G = M := ⟨_, rfl⟩
          have hmin : min (Z : Int) (G : Int) = (M : Int) := by omega
          have HM : Hid (1 ≤ M ∧ F + M ≤ 256 ∧ (F = 0 → M = Z) ∧ M ≤ Z ∧ Z ≤ 256) := Lib.hid (by have := HF.out; have := HZ.out; omega)
          have hM0 : (0 : Int) ≤ (M : Int) := by omega
          have hM1 : M ≤ 256 := by have := HM.out; omega
          clear hG hM
          go_wp2_with (at_make; refine wpList_mk _ rfl _ _ _ rfl 5 (.int .u8 0) 1 Tryz.underlying32 u8_info rfl M rfl rfl (by omega) (by unfold maxLen; omega) ?_; intro wm hrm hbm; have HRM := Lib.hid hrm; have HBM := Lib.hid hbm; clear hrm hbm)
          have VM := Lib.hid (VA0.out.below HBM.out)
          have KM := Lib.hid (KA0.out.then HBM.out)
          have SM := Lib.hid (slk_rep (B := w1.heap.size) (L := fun _ => False) (x := 0) HRM.out)
          clear hsub hmin hM0
          have hWC := vwritel_any (b := List.replicate M 0) (cap := M) VM.out (fd := 0) (x := ⟨2, _⟩) rfl (r := ⟨⟨2, 1, 1, _, noText, 0⟩, []⟩) rfl rfl SM.out (by rw [List.length_replicate]; exact Nat.le_refl _) (by unfold maxLen; omega)
          rw [List.length_replicate] at hWC
          clear hM1
          by_cases hF0 : F = 0
          case pos =>
            by_cases hZ0 : Z = 256
            case pos =>
              have hM256 : M = 256 := by rw [HM.out.2.2.1 hF0]; exact hZ0
              subst hF0 hZ0
              have hY : Y = 256 * A := by have := HY.out.1; omega
              rw [hM256, hY, over_write' (nm := nmF) (lostG_s HNA.out.1) HNA.out.2.1 HNA.out.1 zs_len] at hWC
              rw [hM256]
              refine hWC.mono ?_
              rintro e wn ⟨rfl, hn, kn⟩
              have VP := Lib.hid hn
              have KP := Lib.hid (KM.out.trans kn)
              obtain ⟨g1, hg1⟩ : ∃ g1, overG (lostG j A) A zs256 = g1 := ⟨_, rfl⟩
              have HG1 : Hid (LostS g1 j A) := Lib.hid (by rw [← hg1]; exact over_s (lostG_s HNA.out.1) HNA.out.1 zs_len)
              rw [hg1] at VP
              clear hn kn hWC hM256 hY hg1
              rw [errOf_zero]
              have htA : wrap64 (256 * (A : Int)) = ((256 * A : Nat) : Int) := by have := HNA.out; unfold wrap64; omega
              go_wp2_with fail
              rw [htA]
              clear htA
              refine (vseek_any VP.out 0 (in64_of (by decide) (by decide)) (q := ((256 * A : Nat) : Int)) (in64_of (by omega) (by have := HNA.out; omega))).mono ?_
              rintro e wa ⟨rfl, ha, ka⟩
              rw [file_seek (by omega) (by have := HNA.out; omega)] at ha ⊢
              have VA0 := Lib.hid ha
              have KA0 := Lib.hid (KP.out.trans ka)
              clear ha ka
              go_wp2_with (at_make; refine wpList_mk _ rfl _ _ _ rfl 5 (.int .u8 0) 1 Tryz.underlying32 u8_info rfl 256 rfl rfl (by omega) (by unfold maxLen; omega) ?_; intro wb hrb hbb; have HRB := Lib.hid hrb; have HBB := Lib.hid hbb; clear hrb hbb)
              have VB := Lib.hid (VA0.out.below HBB.out)
              have KB := Lib.hid (KA0.out.then HBB.out)
              have SB := Lib.hid (slk_rep (B := w1.heap.size) (L := fun _ => False) (x := 0) HRB.out)
              have hOV := over_write' (nm := nmF) HG1.out HNA.out.2.1 HNA.out.1 zs_len
              have hWC := vwritel_any (b := zs256) (cap := 256) VB.out (fd := 0) (x := ⟨2, _⟩) rfl (r := ⟨⟨2, 1, 1, _, noText, 0⟩, []⟩) rfl rfl SB.out (by rw [zs_len]; exact Nat.le_refl _) (by unfold maxLen; omega)
              rw [zs_len, hOV] at hWC
              refine hWC.mono ?_
              rintro e wc ⟨rfl, hc, kc⟩
              have VC0 := Lib.hid hc
              have KC := Lib.hid (KB.out.trans kc)
              clear hc kc hWC hOV VB KB SB
              rw [errOf_zero]
              have htA : wrap64 (256 * (A : Int)) = ((256 * A : Nat) : Int) := by have := HNA.out; unfold wrap64; omega
              go_wp2_with fail
              rw [htA]
              clear htA
              refine (vseek_any VC0.out 0 (in64_of (by decide) (by decide)) (q := ((256 * A : Nat) : Int)) (in64_of (by omega) (by have := HNA.out; omega))).mono ?_
              rintro e wd ⟨rfl, hd, kd⟩
              rw [file_seek (by omega) (by have := HNA.out; omega)] at hd ⊢
              have VD := Lib.hid hd
              have KD := Lib.hid (KC.out.trans kd)
              clear hd kd
              go_wp2_with fail
              have hRD := over_read (nm := nmF) (g := g1) (n := j) (a := A) (b := zs256) HNA.out.2.1 HNA.out.1 zs_len
              refine (vread_any VD.out (fd := 0) (x := ⟨2, _⟩) rfl (r := ⟨⟨2, 1, 1, _, noText, 0⟩, []⟩) rfl (over_lost HG1.out) (m := 256) (in64_of (by decide) (by decide)) (by decide)).mono ?_
              rintro e we ⟨⟨v, rfl, hs⟩, he, ke⟩
              rw [hRD] at he hs ⊢
              have RV := hs.rdB8
              obtain ⟨sp, cap, hv⟩ := hs.shape
              rw [zs_len] at hv
              subst hv
              have VE := Lib.hid he
              have KE := Lib.hid (KD.out.trans ke)
              have HRV := Lib.hid RV
              clear he ke hs RV hRD
              rw [errOf_zero]
              have h256 : ((256 : Int) == 256) = true := rfl
              go_wp2_with (at_make; refine wpList_mkG _ (by rfl) _ _ _ rfl 5 (.int .u8 0) 1 Tryz.underlying32 u8_info rfl 256 rfl rfl (by omega) (by unfold maxLen; omega) ?_; intro wf hrf hbf; have HRF := Lib.hid hrf; have HBF := Lib.hid hbf; clear hrf hbf)
              have VF := Lib.hid (VE.out.below HBF.out)
              have KF := Lib.hid (KE.out.then HBF.out)
              refine (samebytes_any (HRV.out.below HBF.out) (rdB_rep (x := 0) HRF.out) (by rw [zs_len]; omega)).mono ?_
              rintro e wg ⟨rfl, hbg⟩
              rw [decide_eq_true rfl]
              have VG := Lib.hid (VF.out.below hbg)
              have KG := Lib.hid (KF.out.then hbg)
              obtain ⟨c0, c1, c2, t0, t1⟩ := VG.out.vc
              have cl := VG.out.cells.2.2.2.2
              clear hbg
              go_wp2_with fail
              refine (va_lost VG.out).mono ?_
              rintro e wh ⟨⟨v, zs, rfl, -, hz, -, hsl, -⟩, hbh⟩
              obtain rfl : zs = [] := no_lost (file_nolost (over_lost HG1.out)) hz
              obtain ⟨sp2, cap2, hv⟩ := hsl.shape
              subst hv
              have KH := Lib.hid (KG.out.then hbh)
              clear hbh hsl hz c0 c1 c2 t0 t1 cl
              simp only [List.length_nil]
              go_wp2
              rw [← HP.out]
              have hb : Below B w wh := (HB1.out.trans ((HB2.out.trans (KH.out.below HB2.out.size)).mono HB1.out.size)).mono HE.out.size
              first
                | exact ⟨rfl, hb⟩
                | (go_ret; exact ⟨rfl, hb⟩)
            case neg =>
              subst hF0
              have hY : Y = 256 * A + 0 := by have := HY.out.1; omega
              have hz1 : min (Z : Int) 256 = (Z : Int) := by have := HM.out; omega
              have hz2 : ((Z : Int) == 256) = false := by rw [beq_eq_false_iff_ne]; omega
              have hz3 : (Z == 256) = false := by rw [beq_eq_false_iff_ne]; exact hZ0
              have hz4 : ¬ (Z : Int) = 256 := by omega
              rw [hY, lost_part (nm := nmF) HNA.out.2.1 HNA.out.1 (List.length_replicate) HM.out.1 (by have := HM.out; omega) (fun h => hZ0 (by rw [← HM.out.2.2.1 rfl]; exact h.2))] at hWC
              refine hWC.mono ?_
              rintro e wn ⟨rfl, hn, kn⟩
              have VN := Lib.hid hn
              have KN := Lib.hid (KM.out.trans kn)
              clear hn kn hWC hY
              have CE := Lib.hid (show errOf E 107 = errV E 5 from errOf_code (g := 5) (by decide))
              simp only
              rw [CE.out]
              go_wp2_with fail
              rw [← CE.out]
              refine (is_of 107 107 (by decide) wn VN.out.env.toEnv).mono ?_
              rintro e wo ⟨rfl, hbo⟩
              rw [show ((107 : Int) == 107) = true from rfl]
              have VP := Lib.hid (VN.out.below hbo)
              have KP := Lib.hid (KN.out.then hbo)
              obtain ⟨g1, hg1⟩ : ∃ g1, lostG j A = g1 := ⟨_, rfl⟩
              have HG1 : Hid (LostS g1 j A) := Lib.hid (by rw [← hg1]; exact lostG_s HNA.out.1)
              rw [hg1] at VP
              clear hbo hg1 hz1 hz2 hz3 hz4
              have htA : wrap64 (256 * (A : Int)) = ((256 * A : Nat) : Int) := by have := HNA.out; unfold wrap64; omega
              go_wp2_with fail
              rw [htA]
              clear htA
              refine (vseek_any VP.out 0 (in64_of (by decide) (by decide)) (q := ((256 * A : Nat) : Int)) (in64_of (by omega) (by have := HNA.out; omega))).mono ?_
              rintro e wa ⟨rfl, ha, ka⟩
              rw [file_seek (by omega) (by have := HNA.out; omega)] at ha ⊢
              have VA0 := Lib.hid ha
              have KA0 := Lib.hid (KP.out.trans ka)
              clear ha ka
              go_wp2_with (at_make; refine wpList_mk _ rfl _ _ _ rfl 5 (.int .u8 0) 1 Tryz.underlying32 u8_info rfl 256 rfl rfl (by omega) (by unfold maxLen; omega) ?_; intro wb hrb hbb; have HRB := Lib.hid hrb; have HBB := Lib.hid hbb; clear hrb hbb)
              have VB := Lib.hid (VA0.out.below HBB.out)
              have KB := Lib.hid (KA0.out.then HBB.out)
              have SB := Lib.hid (slk_rep (B := w1.heap.size) (L := fun _ => False) (x := 0) HRB.out)
              have hOV := over_write' (nm := nmF) HG1.out HNA.out.2.1 HNA.out.1 zs_len
              have hWC := vwritel_any (b := zs256) (cap := 256) VB.out (fd := 0) (x := ⟨2, _⟩) rfl (r := ⟨⟨2, 1, 1, _, noText, 0⟩, []⟩) rfl rfl SB.out (by rw [zs_len]; exact Nat.le_refl _) (by unfold maxLen; omega)
              rw [zs_len, hOV] at hWC
              refine hWC.mono ?_
              rintro e wc ⟨rfl, hc, kc⟩
              have VC0 := Lib.hid hc
              have KC := Lib.hid (KB.out.trans kc)
              clear hc kc hWC hOV VB KB SB
              rw [errOf_zero]
              have htA : wrap64 (256 * (A : Int)) = ((256 * A : Nat) : Int) := by have := HNA.out; unfold wrap64; omega
              go_wp2_with fail
              rw [htA]
              clear htA
              refine (vseek_any VC0.out 0 (in64_of (by decide) (by decide)) (q := ((256 * A : Nat) : Int)) (in64_of (by omega) (by have := HNA.out; omega))).mono ?_
              rintro e wd ⟨rfl, hd, kd⟩
              rw [file_seek (by omega) (by have := HNA.out; omega)] at hd ⊢
              have VD := Lib.hid hd
              have KD := Lib.hid (KC.out.trans kd)
              clear hd kd
              go_wp2_with fail
              have hRD := over_read (nm := nmF) (g := g1) (n := j) (a := A) (b := zs256) HNA.out.2.1 HNA.out.1 zs_len
              refine (vread_any VD.out (fd := 0) (x := ⟨2, _⟩) rfl (r := ⟨⟨2, 1, 1, _, noText, 0⟩, []⟩) rfl (over_lost HG1.out) (m := 256) (in64_of (by decide) (by decide)) (by decide)).mono ?_
              rintro e we ⟨⟨v, rfl, hs⟩, he, ke⟩
              rw [hRD] at he hs ⊢
              have RV := hs.rdB8
              obtain ⟨sp, cap, hv⟩ := hs.shape
              rw [zs_len] at hv
              subst hv
              have VE := Lib.hid he
              have KE := Lib.hid (KD.out.trans ke)
              have HRV := Lib.hid RV
              clear he ke hs RV hRD
              rw [errOf_zero]
              have h256 : ((256 : Int) == 256) = true := rfl
              go_wp2_with (at_make; refine wpList_mkG _ (by rfl) _ _ _ rfl 5 (.int .u8 0) 1 Tryz.underlying32 u8_info rfl 256 rfl rfl (by omega) (by unfold maxLen; omega) ?_; intro wf hrf hbf; have HRF := Lib.hid hrf; have HBF := Lib.hid hbf; clear hrf hbf)
              have VF := Lib.hid (VE.out.below HBF.out)
              have KF := Lib.hid (KE.out.then HBF.out)
              refine (samebytes_any (HRV.out.below HBF.out) (rdB_rep (x := 0) HRF.out) (by rw [zs_len]; omega)).mono ?_
              rintro e wg ⟨rfl, hbg⟩
              rw [decide_eq_true rfl]
              have VG := Lib.hid (VF.out.below hbg)
              have KG := Lib.hid (KF.out.then hbg)
              obtain ⟨c0, c1, c2, t0, t1⟩ := VG.out.vc
              have cl := VG.out.cells.2.2.2.2
              clear hbg
              go_wp2_with fail
              refine (va_lost VG.out).mono ?_
              rintro e wh ⟨⟨v, zs, rfl, -, hz, -, hsl, -⟩, hbh⟩
              obtain rfl : zs = [] := no_lost (file_nolost (over_lost HG1.out)) hz
              obtain ⟨sp2, cap2, hv⟩ := hsl.shape
              subst hv
              have KH := Lib.hid (KG.out.then hbh)
              clear hbh hsl hz c0 c1 c2 t0 t1 cl
              simp only [List.length_nil]
              go_wp2
              rw [← HP.out]
              have hb : Below B w wh := (HB1.out.trans ((HB2.out.trans (KH.out.below HB2.out.size)).mono HB1.out.size)).mono HE.out.size
              first
                | exact ⟨rfl, hb⟩
                | (go_ret; exact ⟨rfl, hb⟩)
          case neg =>
            have hf1 : ((F : Int) == 0) = false := by rw [beq_eq_false_iff_ne]; omega
            have hf2 : (F == 0) = false := by rw [beq_eq_false_iff_ne]; exact hF0
            have hf3 : ¬ (F : Int) = 0 := by omega
            have hY : Y = 256 * A + F := HY.out.1.symm
            rw [hY, lost_part (nm := nmF) HNA.out.2.1 HNA.out.1 (List.length_replicate) HM.out.1 HM.out.2.1 (fun h => hF0 h.1)] at hWC
            refine hWC.mono ?_
            rintro e wn ⟨rfl, hn, kn⟩
            have VN := Lib.hid hn
            have KN := Lib.hid (KM.out.trans kn)
            clear hn kn hWC hY
            have CE := Lib.hid (show errOf E 107 = errV E 5 from errOf_code (g := 5) (by decide))
            simp only
            rw [CE.out]
            go_wp2_with fail
            rw [← CE.out]
            refine (is_of 107 107 (by decide) wn VN.out.env.toEnv).mono ?_
            rintro e wo ⟨rfl, hbo⟩
            rw [show ((107 : Int) == 107) = true from rfl]
            have VP := Lib.hid (VN.out.below hbo)
            have KP := Lib.hid (KN.out.then hbo)
            obtain ⟨g1, hg1⟩ : ∃ g1, lostG j A = g1 := ⟨_, rfl⟩
            have HG1 : Hid (LostS g1 j A) := Lib.hid (by rw [← hg1]; exact lostG_s HNA.out.1)
            rw [hg1] at VP
            clear hbo hg1 hf1 hf2 hf3
            have htA : wrap64 (256 * (A : Int)) = ((256 * A : Nat) : Int) := by have := HNA.out; unfold wrap64; omega
            go_wp2_with fail
            rw [htA]
            clear htA
            refine (vseek_any VP.out 0 (in64_of (by decide) (by decide)) (q := ((256 * A : Nat) : Int)) (in64_of (by omega) (by have := HNA.out; omega))).mono ?_
            rintro e wa ⟨rfl, ha, ka⟩
            rw [file_seek (by omega) (by have := HNA.out; omega)] at ha ⊢
            have VA0 := Lib.hid ha
            have KA0 := Lib.hid (KP.out.trans ka)
            clear ha ka
            go_wp2_with (at_make; refine wpList_mk _ rfl _ _ _ rfl 5 (.int .u8 0) 1 Tryz.underlying32 u8_info rfl 256 rfl rfl (by omega) (by unfold maxLen; omega) ?_; intro wb hrb hbb; have HRB := Lib.hid hrb; have HBB := Lib.hid hbb; clear hrb hbb)
            have VB := Lib.hid (VA0.out.below HBB.out)
            have KB := Lib.hid (KA0.out.then HBB.out)
            have SB := Lib.hid (slk_rep (B := w1.heap.size) (L := fun _ => False) (x := 0) HRB.out)
            have hOV := over_write' (nm := nmF) HG1.out HNA.out.2.1 HNA.out.1 zs_len
            have hWC := vwritel_any (b := zs256) (cap := 256) VB.out (fd := 0) (x := ⟨2, _⟩) rfl (r := ⟨⟨2, 1, 1, _, noText, 0⟩, []⟩) rfl rfl SB.out (by rw [zs_len]; exact Nat.le_refl _) (by unfold maxLen; omega)
            rw [zs_len, hOV] at hWC
            refine hWC.mono ?_
            rintro e wc ⟨rfl, hc, kc⟩
            have VC0 := Lib.hid hc
            have KC := Lib.hid (KB.out.trans kc)
            clear hc kc hWC hOV VB KB SB
            rw [errOf_zero]
            have htA : wrap64 (256 * (A : Int)) = ((256 * A : Nat) : Int) := by have := HNA.out; unfold wrap64; omega
            go_wp2_with fail
            rw [htA]
            clear htA
            refine (vseek_any VC0.out 0 (in64_of (by decide) (by decide)) (q := ((256 * A : Nat) : Int)) (in64_of (by omega) (by have := HNA.out; omega))).mono ?_
            rintro e wd ⟨rfl, hd, kd⟩
            rw [file_seek (by omega) (by have := HNA.out; omega)] at hd ⊢
            have VD := Lib.hid hd
            have KD := Lib.hid (KC.out.trans kd)
            clear hd kd
            go_wp2_with fail
            have hRD := over_read (nm := nmF) (g := g1) (n := j) (a := A) (b := zs256) HNA.out.2.1 HNA.out.1 zs_len
            refine (vread_any VD.out (fd := 0) (x := ⟨2, _⟩) rfl (r := ⟨⟨2, 1, 1, _, noText, 0⟩, []⟩) rfl (over_lost HG1.out) (m := 256) (in64_of (by decide) (by decide)) (by decide)).mono ?_
            rintro e we ⟨⟨v, rfl, hs⟩, he, ke⟩
            rw [hRD] at he hs ⊢
            have RV := hs.rdB8
            obtain ⟨sp, cap, hv⟩ := hs.shape
            rw [zs_len] at hv
            subst hv
            have VE := Lib.hid he
            have KE := Lib.hid (KD.out.trans ke)
            have HRV := Lib.hid RV
            clear he ke hs RV hRD
            rw [errOf_zero]
            have h256 : ((256 : Int) == 256) = true := rfl
            go_wp2_with (at_make; refine wpList_mkG _ (by rfl) _ _ _ rfl 5 (.int .u8 0) 1 Tryz.underlying32 u8_info rfl 256 rfl rfl (by omega) (by unfold maxLen; omega) ?_; intro wf hrf hbf; have HRF := Lib.hid hrf; have HBF := Lib.hid hbf; clear hrf hbf)
            have VF := Lib.hid (VE.out.below HBF.out)
            have KF := Lib.hid (KE.out.then HBF.out)
            refine (samebytes_any (HRV.out.below HBF.out) (rdB_rep (x := 0) HRF.out) (by rw [zs_len]; omega)).mono ?_
            rintro e wg ⟨rfl, hbg⟩
            rw [decide_eq_true rfl]
            have VG := Lib.hid (VF.out.below hbg)
            have KG := Lib.hid (KF.out.then hbg)
            obtain ⟨c0, c1, c2, t0, t1⟩ := VG.out.vc
            have cl := VG.out.cells.2.2.2.2
            clear hbg
            go_wp2_with fail
            refine (va_lost VG.out).mono ?_
            rintro e wh ⟨⟨v, zs, rfl, -, hz, -, hsl, -⟩, hbh⟩
            obtain rfl : zs = [] := no_lost (file_nolost (over_lost HG1.out)) hz
            obtain ⟨sp2, cap2, hv⟩ := hsl.shape
            subst hv
            have KH := Lib.hid (KG.out.then hbh)
            clear hbh hsl hz c0 c1 c2 t0 t1 cl
            simp only [List.length_nil]
            go_wp2
            rw [← HP.out]
            have hb : Below B w wh := (HB1.out.trans ((HB2.out.trans (KH.out.below HB2.out.size)).mono HB1.out.size)).mono HE.out.size
            first
              | exact ⟨rfl, hb⟩
              | (go_ret; exact ⟨rfl, hb⟩)
end
end Go.Proofs.YthhipeceeagpnaaGreatDoor
end

section
/- What the card of VolLost asks beside the walk. -/
namespace Go.Proofs.YthhipeceeagpnaaGreatDoor.volLost
open Go.ChangeShapes Go.WideShapes Go.ChangeAt Go.RowKit
set_option maxRecDepth 100000

theorem own : ownKnob Tryz.prog.godebug = none := by kernel_rfl
theorem door_met (os : Os) (args : Array Value) : laidMetH Tryz.prog Rows.volLostRow.laid ((World.laidAll Tryz.prog os Rows.volLostRow.laid).forCall (fun _ _ => 0) ⟨#[], args, []⟩).memory := by
  rw [MakeChecks.laidMetH_plain _ _ _ (by kernel_rfl)]
  exact laidMet_laidAll _ (by kernel_rfl) (by kernel_rfl)
theorem joined : joinedFacts Tryz.prog 4 Tryz.f4 Rows.volLostSpec Rows.volLostRow = true := by
  unfold joinedFacts
  rw [seat_laidOut, seat_mapsRowed, seat_stopsHeard, seat_mayEnter, seat_plainKeys, seat_lifted, seat_make]
  kernel_rfl
theorem inst : Tryz.f4.isInstance Tryz.prog Rows.volLostRow.origin Rows.volLostRow.targs := of_decide_eq_true (by kernel_rfl)
theorem wrap : Tryz.f4.isWrapper Tryz.prog Rows.volLostRow.wrapper Rows.volLostRow.mainSum := by
  unfold Func.isWrapper
  first | (rw [if_pos (by decide +kernel)]; kernel_rfl) | (rw [if_neg (by decide +kernel)]; exact ⟨rfl, rfl⟩)
end Go.Proofs.YthhipeceeagpnaaGreatDoor.volLost
end

section
namespace Go.Proofs.YthhipeceeagpnaaGreatDoor.volLost
open Go.ChangeShapes Go.WideShapes Go.ChangeAt Go.RowKit
set_option maxRecDepth 100000

theorem lifted (os : Os) (started : os.Started) (H : Type) (enc : TypeId × Value → H) :
    ReturnsInHanded {} Tryz.checked os 4 .any (fun w args => (Rows.volLostSpec.pre enc Tryz.prog Tryz.f4 [] false w args ∧ laidMetH Tryz.prog Rows.volLostRow.laid w) ∧ sizedMet enc Tryz.prog Tryz.f4 (OpenSpec.ofChange Rows.volLostSpec) false w args)
      (Rows.volLostSpec.post enc Tryz.prog Tryz.f4 false true false false) := by
  refine handed_and_shaped (C := Tryz.checked) (X := fun w _ => laidMetH Tryz.prog Rows.volLostRow.laid w) (fun _ _ _ hh h => h.of_heap hh) own started (by kernel_rfl) Tryz.func4
    (ChangeSpec.witness_shaped (enc := enc) (C := Tryz.checked) (os := os) (X := fun w _ => laidMetH Tryz.prog Rows.volLostRow.laid w) false (World.laidAll Tryz.prog os Rows.volLostRow.laid) #[.int .i64 0, .int .i64 0, .int .i64 0, .int .i64 0] 8 (World.laidAll_os _ _ _) (World.shaped_of_ZipB (by kernel_rfl) (by kernel_rfl)) (by kernel_rfl) (by kernel_rfl) (by kernel_rfl) (door_met os _)) ?_
  intro W base args ds gs before hval0 hW _ _ hL hSh _
  have hval : ∀ (j : Nat) t v, Tryz.f4.params[j]? = some t → args[j]? = some v → Value.okWide Tryz.prog W .any base t v := hval0
  have hW' := hW
  obtain ⟨p, q, hA0, hV, rfl, hfz, hnd⟩ := hW
  have hA : DataW.TrodAll enc Tryz.prog W 0 (fun _ => true) true Tryz.f4.params.toList args.toList ds p := hA0
  rw [Tryz.params4] at hA hval
  obtain ⟨v0, vs0, d0, ds0, p0, q0, hargs, rfl, rfl, h0, r0⟩ := trodAll_cons hA
  obtain ⟨v1, vs1, d1, ds1, p1, q1, rfl, rfl, rfl, h1, r1⟩ := trodAll_cons r0
  obtain ⟨v2, vs2, d2, ds2, p2, q2, rfl, rfl, rfl, h2, r2⟩ := trodAll_cons r1
  obtain ⟨v3, vs3, d3, ds3, p3, q3, rfl, rfl, rfl, h3, r3⟩ := trodAll_cons r2
  obtain ⟨rfl, rfl, rfl⟩ := trodAll_nil r3
  obtain rfl : args = #[v0, v1, v2, v3] := by cases args; simp_all
  obtain ⟨rfl, rfl⟩ := trodVars_none hV
  obtain ⟨a0, rfl, rfl, rfl, w0⟩ := open_int Tryz.underlying3 (hval 0 3 v0 rfl rfl) h0
  obtain ⟨a1, rfl, rfl, rfl, w1⟩ := open_int Tryz.underlying3 (hval 1 3 v1 rfl rfl) h1
  obtain ⟨a2, rfl, rfl, rfl, w2⟩ := open_int Tryz.underlying3 (hval 2 3 v2 rfl rfl) h2
  obtain ⟨a3, rfl, rfl, rfl, w3⟩ := open_int Tryz.underlying3 (hval 3 3 v3 rfl rfl) h3
  obtain ⟨E, hE0⟩ := env_of_laid_mid 1 24 hL (by kernel_rfl) (by kernel_rfl) (by kernel_rfl)
  have hE := envM_of hE0 hSh

  clear hA0 hval0
  simp only [List.append_nil] at hW'
  refine (vollost_any a0 a1 a2 a3 W hE).mono fun e W' ⟨he, bel⟩ => ?_
  subst he
  exact ⟨_, rfl, _, _, _, [], [], [], hW', trodAll_mk1 (shut_bool Tryz.underlying4 _), (trodAll_cons_mk (shut_int Tryz.underlying3 w0) (trodAll_cons_mk (shut_int Tryz.underlying3 w1) (trodAll_cons_mk (shut_int Tryz.underlying3 w2) (trodAll_cons_mk (shut_int Tryz.underlying3 w3) trodAll_mk0)))), rfl, bel.frame _, fun h => by cases h⟩
theorem over : Rows.volLostRow.holds Tryz.pinned (OpenSpec.ofChange Rows.volLostSpec) :=
  OpenClaim.holds_of_wide 4 Tryz.f4 rfl rfl rfl rfl rfl rfl rfl ⟨rfl, rfl, rfl, rfl, rfl⟩ rfl rfl rfl rfl rfl (by kernel_rfl) Tryz.func4 joined inst wrap
    (fun os started H enc _ => lifted os started H enc)
theorem proved : Rows.VolLostCardSaid :=
  Claim7.holds_tied_plain_at .later [] Rows.volLostCard.laidKinds true Rows.volLostCard.stood.harness true
    over (fun _ h => by cases h) (by kernel_rfl) (fun _ h => by cases h) volLost_row_tie rfl ⟨rfl, rfl⟩ (by kernel_rfl) rfl
    (fun f fn hf hfn => by
      obtain rfl : f = 4 := Option.some.inj ((show Tryz.prog.funcNamed "breviary/breviarylaw21.VolLost" = some 4 by kernel_rfl).symm.trans hf) |>.symm
      obtain rfl : fn = Tryz.f4 := (Option.some.inj (Tryz.func4.symm.trans hfn)).symm
      exact ⟨by kernel_rfl, fun j t ht => by
        rw [Tryz.params4] at ht
        have hm : t ∈ [3, 3, 3, 3] := by
          have := Array.mem_of_getElem? ht
          simpa using this
        have hall : [3, 3, 3, 3].all (fun t => !(Tryz.prog.wantsStandIn t)) = true := by kernel_rfl
        have h := (List.all_eq_true.1 hall) t hm
        simp only [Bool.not_eq_true'] at h
        exact h⟩)
    (by kernel_rfl)
#print axioms proved
end Go.Proofs.YthhipeceeagpnaaGreatDoor.volLost
end
