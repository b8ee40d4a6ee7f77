/- PROVED: Rows.VolBigCardSaid: for every input the law VolBig returns true, and each argument reads as before. Conditions: none beyond the listed package variables, which the card ties to the program's text. -/
import Derived.Test.YthhipeceeagpnaaGreatDoorMBase44
import Derived.Test.YthhipeceeagpnaaGreatDoorMBase12
import Derived.Test.YthhipeceeagpnaaGreatDoorMBase43
import Derived.Test.YthhipeceeagpnaaGreatDoorMBase41
import Derived.Test.YthhipeceeagpnaaGreatDoorRows
import Derived.Test.YthhipeceeagpnaaGreatDoorCards
import Derived.Test.YthhipeceeagpnaaGreatDoorTie
import Derived.Test.YthhipeceeagpnaaGreatDoorMBase05
import Derived.Test.YthhipeceeagpnaaGreatDoorMBase06
import Derived.Test.YthhipeceeagpnaaGreatDoorMBase27
import Derived.Test.YthhipeceeagpnaaGreatDoorMBase28
import Derived.ProofKit
import Derived.OpenShut
import Derived.ChangeOld
import Derived.LaidMore
import Derived.ChangeSame
import Derived.ChangeVars
import Derived.JoinedOf
import Derived.Lay
import Derived.MakeChecks
import Derived.SevenTiedAt
import Derived.Stop.Joined
import Derived.ChangeMaps5
section
/- The bytes that the holes' law writes. -/
namespace Go.Proofs.YthhipeceeagpnaaGreatDoor
open Go Go.RowKit
set_option maxRecDepth 100000
set_option linter.unusedSimpArgs false
set_option linter.unusedVariables false
attribute [local go_sem] giv
theorem ones_set {n j : Nat} (h : j < n) : ((List.replicate j (Value.int .u8 1)) ++ List.replicate (n - j) (Value.int .u8 0)).set j (.int .u8 1) = (List.replicate (j + 1) (Value.int .u8 1)) ++ List.replicate (n - (j + 1)) (Value.int .u8 0) := by
  rw [List.set_append_right _ _ (by simp)]
  obtain ⟨k, hk⟩ : ∃ k, n - j = k + 1 := ⟨n - j - 1, by omega⟩
  rw [hk, show n - (j + 1) = k by omega, List.length_replicate, Nat.sub_self, List.replicate_succ, List.set_cons_zero, List.replicate_succ', List.append_assoc]
  rfl
set_option maxHeartbeats 1000000 in
theorem ones_any (w : World) {n : Nat} (hn : n ≤ 16384) : Calls Tryz.prog 15 #[.int .i64 n] w fun e w' => (∃ h, e = .returned (.slice (some ⟨h, 0, none⟩) n n) ∧ Row w' h 5 (List.replicate n (.int .u8 1)) ∧ w.heap.size ≤ h) ∧ Below w.heap.size w w' := by
  have q1 : (0 : Int) ≤ (n : Int) := by omega
  go_enter Tryz.func15, Tryz.ntmps15
  go_wp2_with (at_make; refine wpList_mk _ rfl _ _ _ rfl 5 (.int .u8 0) 1 Tryz.underlying32 u8_info rfl n rfl rfl (by omega) (by unfold maxLen; omega) ?_; intro w2 hr2 hb2; have HR2 := Lib.hid hr2; have HB2 := Lib.hid hb2; clear hr2 hb2)
  go_loopw [4] (fun i wr => ∃ j : Nat, j ≤ n ∧ i = .int .i64 j ∧ Hid (Row wr w.heap.size 5 (List.replicate j (Value.int .u8 1) ++ List.replicate (n - j) (Value.int .u8 0)) ∧ Below w.heap.size w wr)) (fun i _ => n - (intOf i).toNat)
  case atStart => exact ⟨0, Nat.zero_le _, rfl, Lib.hid ⟨by simpa using HR2.out, HB2.out⟩⟩
  case round =>
    obtain ⟨j, hj, rfl, HI⟩ := hrel
    clear HR2 HB2
    by_cases hlt : j < n
    · have hj2 : (j : Int) < (n : Int) := by omega
      obtain ⟨u, hu⟩ : ∃ u, wr.cell? ⟨w.heap.size, j, none⟩ = some u := by
        rw [HI.out.1.cell, List.getElem?_eq_getElem (by simp; omega)]
        exact ⟨_, rfl⟩
      have hf := HI.out.1.froz j
      go_wp2
      go_roundw
      case rel => exact ⟨j + 1, by omega, by go_num, Lib.hid ⟨by rw [← ones_set hlt]; exact HI.out.1.set _ _, HI.out.2.trans ((Below.refl w.heap.size wr).setCell (p := ⟨w.heap.size, j, none⟩) (Nat.le_refl _) _)⟩⟩
      case measure => simp [intOf]; omega
    · obtain rfl : j = n := by omega
      have hr3 := HI.out.1
      rw [Nat.sub_self, List.replicate_zero, List.append_nil] at hr3
      have HR3 := Lib.hid (And.intro hr3 HI.out.2)
      clear hr3
      go_wp2
      go_ret
      exact ⟨⟨_, rfl, HR3.out.1, Nat.le_refl _⟩, HR3.out.2⟩
end Go.Proofs.YthhipeceeagpnaaGreatDoor
end

section
/- The walk of VolBig. -/
namespace Go.Proofs.YthhipeceeagpnaaGreatDoor
open Go Go.RowKit
set_option maxRecDepth 100000
set_option linter.unusedSimpArgs false
set_option linter.unusedVariables false
attribute [local go_sem] giv
theorem big_cases {A M : Nat} {b : List Int} (hb : (b.take 1024).length = M) : ∃ (c k : Int) (g : Nat → FBlk) (S P : Int), writeV (fileV nmF (fun _ => none) 0 A 100) 0 b = (c, k, fileV nmF g S P 100) ∧ ((∀ i, g i ≠ some none) ∧ Wf g) ∧ (0 ≤ S ∧ S ≤ 16384) ∧
    ((c = 118 ∧ k = 0 ∧ S = 0 ∧ 0 < M ∧ 16384 < A + M) ∨ (c = 0 ∧ k = M ∧ M = 0) ∨ (c = 0 ∧ k = M ∧ 0 < M ∧ S = ((A + M : Nat) : Int) ∧ A + M ≤ 16384)) := by
  by_cases h0 : M = 0
  · refine ⟨0, 0, fun _ => none, 0, A, ?_, ⟨fun i h => (by cases h), none_wf⟩, ⟨by decide, by decide⟩, .inr (.inl ⟨rfl, by rw [h0]; rfl, h0⟩)⟩
    have hn : b.take 1024 = [] := List.eq_nil_of_length_eq_zero (by rw [hb]; exact h0)
    rw [writeV_take, hn]
    exact file_none
  · by_cases h1 : 16384 < A + M
    · refine ⟨118, 0, fun _ => none, 0, A, ?_, ⟨fun i h => (by cases h), none_wf⟩, ⟨by decide, by decide⟩, .inl ⟨rfl, rfl, rfl, by omega, h1⟩⟩
      exact file_big (fun e => by rw [e] at hb; simp at hb; omega) (by rw [hb]; omega)
    · exact ⟨0, M, _, _, _, big_write hb (by omega) (by omega), ⟨laid_lost (fun i h => by cases h) _ _, layAt_wf none_wf _ _⟩, ⟨by omega, by omega⟩, .inr (.inr ⟨rfl, rfl, by omega, rfl, by omega⟩)⟩
section
variable {E : Nat → Addr} {B : Nat} {w w' : World}
set_option maxHeartbeats 4000000 in
theorem volbig_any (a n : Int) (w : World) (hE : EnvM E B w) :
    Calls Tryz.prog 7 #[.int .i64 a, .int .i64 n] w fun e w' => e = .returned (.bool true) ∧ Below B w w' := by
  have HE := Lib.hid hE
  generalize hP : (fun (e : Ending) (w' : World) => e = .returned (.bool true) ∧ Below B w w') = Post
  have HP := Lib.hid hP
  clear hP hE
  go_enter Tryz.func7, Tryz.ntmps7
  go_wp2_with fail
  refine (first_any (HE.out.up HE.out.size (Nat.le_refl _))).mono ?_
  rintro e w1 ⟨rfl, hb1⟩
  have HB1 := Lib.hid hb1
  have HE1 := Lib.hid ((HE.out.up HE.out.size (Nat.le_refl _)).below hb1)
  clear hb1
  go_wp2_with fail
  refine (number_any a 1200 (by decide) w1).mono ?_
  rintro e w1' ⟨rfl, rfl⟩
  obtain ⟨A0, hA⟩ : ∃ A0 : Nat, a % 1200 = A0 := ⟨(a % 1200).toNat, by omega⟩
  rw [hA]
  have hA1 : A0 < 1200 := by omega
  obtain ⟨A, hA2⟩ : ∃ A : Nat, 16384 - A0 = A := ⟨_, rfl⟩
  have hwA : wrap64 (16384 - (A0 : Int)) = (A : Int) := by unfold wrap64; omega
  have HAN : Hid (15184 < A ∧ A ≤ 16384) := Lib.hid ⟨by omega, by omega⟩
  clear hA hA1 hA2
  go_wp2_with fail
  rw [hwA]
  clear hwA
  refine (number_any n 1500 (by decide) w1).mono ?_
  rintro e w1' ⟨rfl, rfl⟩
  obtain ⟨N, hN⟩ : ∃ N : Nat, n % 1500 = N := ⟨(n % 1500).toNat, by omega⟩
  rw [hN]
  have HNN : Hid (N < 1500) := Lib.hid (by omega)
  clear hN
  go_wp2_with fail
  refine (vnew_any (L := fun _ => False) (HE1.out.up HE1.out.size (Nat.le_refl _)) (fun _ h => h.elim) 100).mono ?_
  rintro e w2 ⟨⟨p, rfl, hv2, hpv⟩, hb2⟩
  have V2 := Lib.hid hv2
  have HB2 := Lib.hid hb2
  clear hv2 hb2 hpv
  go_wp2_with fail
  refine (vopen_new V2.out (x := pF) pF_look).mono ?_
  rintro e w3 ⟨rfl, h3, k3⟩
  rw [open_new (by decide)] at h3 ⊢
  have V3 := Lib.hid h3
  have K3 := Lib.hid k3
  clear h3 k3
  rw [errOf_zero]
  go_wp2_with fail
  refine (vseek_any V3.out 0 (in64_of (by decide) (by decide)) (q := (A : Int)) (in64_of (by omega) (by have := HAN.out; omega))).mono ?_
  rintro e w4 ⟨rfl, h4, k4⟩
  rw [file_seek (by omega) (by have := HAN.out; omega)] at h4 ⊢
  have V4 := Lib.hid h4
  have K4 := Lib.hid (K3.out.trans k4)
  clear h4 k4
  rw [errOf_zero]
  have hn0 : (0 : Int) ≤ (N : Int) := by omega
  have hn1 : N < 1500 := HNN.out
  go_wp2_with (at_make; refine wpList_mk _ rfl _ _ _ rfl 5 (.int .u8 0) 1 Tryz.underlying32 u8_info rfl N rfl rfl (by omega) (by have := HNN.out; unfold maxLen; omega) ?_; intro w5 hr5 hb5; have HR5 := Lib.hid hr5; have HB5 := Lib.hid hb5; clear hr5 hb5)
  have V5 := Lib.hid (V4.out.below HB5.out)
  have K5 := Lib.hid (K4.out.then HB5.out)
  obtain ⟨b, hb⟩ : ∃ b, List.replicate N (0 : Int) = b := ⟨_, rfl⟩
  have hbl : b.length = N := by rw [← hb, List.length_replicate]
  obtain ⟨M, hM⟩ : ∃ M, (b.take 1024).length = M := ⟨_, rfl⟩
  have hmin : min (N : Int) 1024 = (M : Int) := by rw [← hM, List.length_take, hbl]; omega
  have HMN : Hid (M ≤ 1024) := Lib.hid (by rw [← hM, List.length_take]; omega)
  have S5 : Hid (SlK w1.heap.size (fun _ => False) w5 (some ⟨w4.heap.size, 0, none⟩) b) := Lib.hid (fun h0 => ⟨w4.heap.size, 0, rfl, .inr (.inr (by
    rw [hbl] at h0
    obtain ⟨k, hk⟩ : ∃ k, N = k + 1 := ⟨N - 1, by omega⟩
    have hr := HR5.out
    rw [hk, List.replicate_succ] at hr
    exact hr.plain (plainI _ _))), HR5.out.lt, fun i hi => by
      rw [Nat.zero_add, HR5.out.cell, ← hb]
      rw [hbl] at hi
      simp [hi, List.getD_eq_getElem?_getD]⟩)
  obtain ⟨c, k, g, S, P, hwr, hg, hs, hcase⟩ := big_cases (A := A) (M := M) hM
  have HWR := Lib.hid hwr
  have HG := Lib.hid hg
  have HS := Lib.hid hs
  have HCASE := Lib.hid hcase
  have HBL := Lib.hid hbl
  clear hb hbl hM hwr hg hs hcase hn0 hn1
  have hbl2 := HBL.out
  rw [← hbl2]
  refine (vwrite_any (b := b) (cap := b.length) V5.out (fd := 0) (x := ⟨2, A⟩) rfl (r := ⟨⟨2, 1, 1, 0, noText, 0⟩, []⟩) rfl rfl (fun i h => by cases h) S5.out (Nat.le_refl _) (by rw [hbl2]; have := HNN.out; unfold maxLen; omega)).mono ?_
  rintro e w6 ⟨rfl, h6, k6⟩
  rw [HWR.out] at h6 ⊢
  rw [hbl2]
  have V6 := Lib.hid h6
  have K6 := Lib.hid (K5.out.trans k6)
  clear h6 k6 hbl2 S5 V5 K5
  go_wp2_with fail
  refine (vfstat_any V6.out (fd := 0) (by decide) (x := ⟨2, P⟩) rfl (n := ⟨2, 1, 1, S, noText, 0⟩) rfl (in64_of (by show (0 : Int) ≤ 2; decide) (by show (2 : Int) ≤ 16777215; decide))).mono ?_
  rintro e w7 ⟨rfl, hb7⟩
  have hst : staC (statN (fileV nmF g S P 100) ⟨2, 1, 1, S, noText, 0⟩) = .agg #[.int .i64 2, .int .i64 1, .int .i64 1, .int .i64 S, .int .i64 (nBlk g)] := rfl
  rw [hst]
  obtain ⟨D, hD⟩ : ∃ D, w7.heap.size = D := ⟨_, rfl⟩
  obtain ⟨T, hT⟩ : ∃ T : Int, (nBlk g : Int) = T := ⟨_, rfl⟩
  rw [hT]
  obtain ⟨w8, hw8⟩ : ∃ w8, w8 = w7.alloc (.cells #[.int .i64 2, .int .i64 1, .int .i64 1, .int .i64 S, .int .i64 T] 35) := ⟨_, rfl⟩
  have hb8 : Below w7.heap.size w7 w8 := by rw [hw8]; exact bl_alloc (Below.refl _ _) _
  have R8 : Hid (Row w8 D 35 [.int .i64 2, .int .i64 1, .int .i64 1, .int .i64 S, .int .i64 T]) := Lib.hid (by rw [hw8, ← hD]; exact Row.new _ _ _)
  have V8 := Lib.hid ((V6.out.below hb7).below hb8)
  have K8 := Lib.hid ((K6.out.then hb7).then hb8)
  have HW8 := Lib.hid hw8
  have HD8 := Lib.hid hD
  clear hw8 hb8 hb7 hD hT hst
  have hwam : wrap64 ((A : Int) + (M : Int)) = (A : Int) + (M : Int) := by have h1 := HAN.out; have h2 := HMN.out; clear hmin; unfold wrap64; omega
  rcases HCASE.out with ⟨rfl, rfl, rfl, c1, c2⟩ | ⟨rfl, rfl, c1⟩ | ⟨rfl, rfl, c1, hse, c2⟩
  case inl =>
    have c1' : (0 : Int) < (M : Int) := by omega
    have c2' : (16384 : Int) < (A : Int) + (M : Int) := by omega
    clear c1 c2 HCASE
    go_wp2_with fail
    rw [← HW8.out]
    simp only [HD8.out]
    refine (is_of 118 118 (by decide) w8 V8.out.env.toEnv).mono ?_
    rintro e w9 ⟨rfl, hb9⟩
    rw [show ((118 : Int) == 118) = true from rfl]
    have V9 := Lib.hid (V8.out.below hb9)
    have K9 := Lib.hid (K8.out.then hb9)
    have x3 := (R8.out.below hb9).cell' (i := 3) rfl
    clear hb9
    go_wp2_with fail
    refine (vtrunc_any V9.out (fd := 0) (x := ⟨2, P⟩) rfl (r := ⟨⟨2, 1, 1, 0, noText, 0⟩, []⟩) rfl rfl (m := 16385) (in64_of (by decide) (by decide))).mono ?_
    rintro e wa ⟨rfl, ha, ka⟩
    rw [file_trunc_big (by decide)] at ha ⊢
    have VA0 := Lib.hid ha
    have KA0 := Lib.hid (K9.out.trans ka)
    clear ha ka
    go_wp2_with fail
    refine (is_of 118 118 (by decide) wa VA0.out.env.toEnv).mono ?_
    rintro e wb ⟨rfl, hbb⟩
    rw [show ((118 : Int) == 118) = true from rfl]
    have KB := Lib.hid (KA0.out.then hbb)
    clear hbb
    go_wp2
    rw [← HP.out]
    have hb : Below B w wb := (HB1.out.trans ((HB2.out.trans (KB.out.below HB2.out.size)).mono HB1.out.size)).mono HE.out.size
    first
      | exact ⟨rfl, hb⟩
      | (go_ret; exact ⟨rfl, hb⟩)
  case inr.inl =>
    have c1' : ¬ (0 : Int) < (M : Int) := by omega
    have c3' : ((M : Int) > 0) = False := eq_false (by omega)
    rw [errOf_zero]
    clear c1 HCASE
    go_wp2_with fail
    rw [← HW8.out]
    simp only [HD8.out]
    go_wp2_with fail
    refine (vtrunc_any V8.out (fd := 0) (x := ⟨2, P⟩) rfl (r := ⟨⟨2, 1, 1, _, noText, 0⟩, []⟩) rfl rfl (m := 16384) (in64_of (by decide) (by decide))).mono ?_
    rintro e w9 ⟨rfl, h9, k9⟩
    rw [file_trunc (by decide) (by decide) HG.out.1] at h9 ⊢
    have V9 := Lib.hid h9
    have K9 := Lib.hid (K8.out.trans k9)
    clear h9 k9
    rw [errOf_zero]
    go_wp2_with fail
    refine (vseek_any V9.out 0 (in64_of (by decide) (by decide)) (q := 3) (in64_of (by decide) (by decide))).mono ?_
    rintro e wa ⟨rfl, ha, ka⟩
    rw [file_seek (by decide) (by decide)] at ha ⊢
    have VA0 := Lib.hid ha
    have KA0 := Lib.hid (K9.out.trans ka)
    clear ha ka
    rw [errOf_zero]
    go_wp2_with fail
    obtain ⟨g2, hg2⟩ : ∃ g2, truncG g S 16384 = g2 := ⟨_, rfl⟩
    have HG2 : Hid ((∀ i, g2 i ≠ some none) ∧ Wf g2) := Lib.hid (by rw [← hg2]; exact ⟨truncG_lost HG.out.1 _, truncG_wf HG.out.2 _⟩)
    rw [hg2] at VA0
    clear hg2
    have HRD := Lib.hid (file_read (nm := nmF) (g := g2) (sz := 16384) (pos := 3) (q := 100) (n := 5000) (by decide) (by decide) (by decide) (by decide) HG2.out.1)
    refine (vread_any VA0.out (fd := 0) (x := ⟨2, 3⟩) rfl (r := ⟨⟨2, 1, 1, 16384, noText, 0⟩, []⟩) rfl HG2.out.1 (m := 5000) (in64_of (by decide) (by decide)) (by decide)).mono ?_
    rintro e wb ⟨⟨v, rfl, hs⟩, hb, kb⟩
    rw [HRD.out] at hb hs ⊢
    obtain ⟨sp, cap, hv⟩ := hs.shape
    rw [big_len HG2.out.2] at hv
    have hv2 : v = .slice sp 1024 cap := hv
    subst hv2
    have VB := Lib.hid hb
    have KB := Lib.hid (KA0.out.trans kb)
    clear hs hb kb hv
    rw [errOf_zero]
    go_wp2_with fail
    refine (vread_any VB.out (fd := 0) (x := ⟨2, _⟩) rfl (r := ⟨⟨2, 1, 1, 16384, noText, 0⟩, []⟩) rfl HG2.out.1 (m := -1) (by unfold In64; omega) (by decide)).mono ?_
    rintro e wc ⟨⟨v2, rfl, hs⟩, hc, kc⟩
    rw [file_read_neg (by decide)] at hc hs ⊢
    have VC0 := Lib.hid hc
    have KC := Lib.hid (KB.out.trans kc)
    obtain ⟨sp2, cap2, hv⟩ := hs.shape
    subst hv
    clear hs hc kc
    go_wp2_with fail
    refine (is_of 114 114 (by decide) wc VC0.out.env.toEnv).mono ?_
    rintro e wd ⟨rfl, hbd⟩
    rw [show ((114 : Int) == 114) = true from rfl]
    have VD := Lib.hid (VC0.out.below hbd)
    have KD := Lib.hid (KC.out.then hbd)
    clear hbd
    go_wp2_with fail
    refine (vtrunc_any VD.out (fd := 0) (x := ⟨2, _⟩) rfl (r := ⟨⟨2, 1, 1, 16384, noText, 0⟩, []⟩) rfl rfl (m := -1) (by unfold In64; omega)).mono ?_
    rintro e we ⟨rfl, he, ke⟩
    rw [file_trunc_neg (by decide)] at he ⊢
    have VE := Lib.hid he
    have KE := Lib.hid (KD.out.trans ke)
    clear he ke
    go_wp2_with fail
    refine (is_of 114 114 (by decide) we VE.out.env.toEnv).mono ?_
    rintro e wf ⟨rfl, hbf⟩
    rw [show ((114 : Int) == 114) = true from rfl]
    have VF := Lib.hid (VE.out.below hbf)
    have KF := Lib.hid (KE.out.then hbf)
    clear hbf
    go_wp2_with fail
    refine (vseek_any VF.out 0 (in64_of (by decide) (by decide)) (q := -1) (by unfold In64; omega)).mono ?_
    rintro e wg ⟨rfl, hg, kg⟩
    rw [file_seek_neg (by decide)] at hg ⊢
    have VG := Lib.hid hg
    have KG := Lib.hid (KF.out.trans kg)
    clear hg kg
    go_wp2_with fail
    refine (is_of 114 114 (by decide) wg VG.out.env.toEnv).mono ?_
    rintro e wh ⟨rfl, hbh⟩
    rw [show ((114 : Int) == 114) = true from rfl]
    have KH := Lib.hid (KG.out.then hbh)
    clear hbh
    go_wp2
    rw [← HP.out]
    have hb : Below B w wh := (HB1.out.trans ((HB2.out.trans (KH.out.below HB2.out.size)).mono HB1.out.size)).mono HE.out.size
    first
      | exact ⟨rfl, hb⟩
      | (go_ret; exact ⟨rfl, hb⟩)
  case inr.inr =>
    have c1' : (0 : Int) < (M : Int) := by omega
    have c2' : ¬ (16384 : Int) < (A : Int) + (M : Int) := by omega
    have hse2 : S = (A : Int) + (M : Int) := by rw [hse]; omega
    clear hse
    subst hse2
    rw [errOf_zero]
    clear c1 c2 HCASE
    go_wp2_with fail
    rw [← HW8.out]
    simp only [HD8.out]
    go_wp2_with fail
    refine (vtrunc_any V8.out (fd := 0) (x := ⟨2, P⟩) rfl (r := ⟨⟨2, 1, 1, _, noText, 0⟩, []⟩) rfl rfl (m := 16384) (in64_of (by decide) (by decide))).mono ?_
    rintro e w9 ⟨rfl, h9, k9⟩
    rw [file_trunc (by decide) (by decide) HG.out.1] at h9 ⊢
    have V9 := Lib.hid h9
    have K9 := Lib.hid (K8.out.trans k9)
    clear h9 k9
    rw [errOf_zero]
    go_wp2_with fail
    refine (vseek_any V9.out 0 (in64_of (by decide) (by decide)) (q := 3) (in64_of (by decide) (by decide))).mono ?_
    rintro e wa ⟨rfl, ha, ka⟩
    rw [file_seek (by decide) (by decide)] at ha ⊢
    have VA0 := Lib.hid ha
    have KA0 := Lib.hid (K9.out.trans ka)
    clear ha ka
    rw [errOf_zero]
    go_wp2_with fail
    obtain ⟨g2, hg2⟩ : ∃ g2, truncG g ((A : Int) + (M : Int)) 16384 = g2 := ⟨_, rfl⟩
    have HG2 : Hid ((∀ i, g2 i ≠ some none) ∧ Wf g2) := Lib.hid (by rw [← hg2]; exact ⟨truncG_lost HG.out.1 _, truncG_wf HG.out.2 _⟩)
    rw [hg2] at VA0
    clear hg2
    have HRD := Lib.hid (file_read (nm := nmF) (g := g2) (sz := 16384) (pos := 3) (q := 100) (n := 5000) (by decide) (by decide) (by decide) (by decide) HG2.out.1)
    refine (vread_any VA0.out (fd := 0) (x := ⟨2, 3⟩) rfl (r := ⟨⟨2, 1, 1, 16384, noText, 0⟩, []⟩) rfl HG2.out.1 (m := 5000) (in64_of (by decide) (by decide)) (by decide)).mono ?_
    rintro e wb ⟨⟨v, rfl, hs⟩, hb, kb⟩
    rw [HRD.out] at hb hs ⊢
    obtain ⟨sp, cap, hv⟩ := hs.shape
    rw [big_len HG2.out.2] at hv
    have hv2 : v = .slice sp 1024 cap := hv
    subst hv2
    have VB := Lib.hid hb
    have KB := Lib.hid (KA0.out.trans kb)
    clear hs hb kb hv
    rw [errOf_zero]
    go_wp2_with fail
    refine (vread_any VB.out (fd := 0) (x := ⟨2, _⟩) rfl (r := ⟨⟨2, 1, 1, 16384, noText, 0⟩, []⟩) rfl HG2.out.1 (m := -1) (by unfold In64; omega) (by decide)).mono ?_
    rintro e wc ⟨⟨v2, rfl, hs⟩, hc, kc⟩
    rw [file_read_neg (by decide)] at hc hs ⊢
    have VC0 := Lib.hid hc
    have KC := Lib.hid (KB.out.trans kc)
    obtain ⟨sp2, cap2, hv⟩ := hs.shape
    subst hv
    clear hs hc kc
    go_wp2_with fail
    refine (is_of 114 114 (by decide) wc VC0.out.env.toEnv).mono ?_
    rintro e wd ⟨rfl, hbd⟩
    rw [show ((114 : Int) == 114) = true from rfl]
    have VD := Lib.hid (VC0.out.below hbd)
    have KD := Lib.hid (KC.out.then hbd)
    clear hbd
    go_wp2_with fail
    refine (vtrunc_any VD.out (fd := 0) (x := ⟨2, _⟩) rfl (r := ⟨⟨2, 1, 1, 16384, noText, 0⟩, []⟩) rfl rfl (m := -1) (by unfold In64; omega)).mono ?_
    rintro e we ⟨rfl, he, ke⟩
    rw [file_trunc_neg (by decide)] at he ⊢
    have VE := Lib.hid he
    have KE := Lib.hid (KD.out.trans ke)
    clear he ke
    go_wp2_with fail
    refine (is_of 114 114 (by decide) we VE.out.env.toEnv).mono ?_
    rintro e wf ⟨rfl, hbf⟩
    rw [show ((114 : Int) == 114) = true from rfl]
    have VF := Lib.hid (VE.out.below hbf)
    have KF := Lib.hid (KE.out.then hbf)
    clear hbf
    go_wp2_with fail
    refine (vseek_any VF.out 0 (in64_of (by decide) (by decide)) (q := -1) (by unfold In64; omega)).mono ?_
    rintro e wg ⟨rfl, hg, kg⟩
    rw [file_seek_neg (by decide)] at hg ⊢
    have VG := Lib.hid hg
    have KG := Lib.hid (KF.out.trans kg)
    clear hg kg
    go_wp2_with fail
    refine (is_of 114 114 (by decide) wg VG.out.env.toEnv).mono ?_
    rintro e wh ⟨rfl, hbh⟩
    rw [show ((114 : Int) == 114) = true from rfl]
    have KH := Lib.hid (KG.out.then hbh)
    clear hbh
    go_wp2
    rw [← HP.out]
    have hb : Below B w wh := (HB1.out.trans ((HB2.out.trans (KH.out.below HB2.out.size)).mono HB1.out.size)).mono HE.out.size
    first
      | exact ⟨rfl, hb⟩
      | (go_ret; exact ⟨rfl, hb⟩)
end
end Go.Proofs.YthhipeceeagpnaaGreatDoor
end

section
/- What the card of VolBig asks beside the walk. -/
namespace Go.Proofs.YthhipeceeagpnaaGreatDoor.volBig
open Go.ChangeShapes Go.WideShapes Go.ChangeAt Go.RowKit
set_option maxRecDepth 100000

theorem own : ownKnob Tryz.prog.godebug = none := by kernel_rfl
theorem door_met (os : Os) (args : Array Value) : laidMetH Tryz.prog Rows.volBigRow.laid ((World.laidAll Tryz.prog os Rows.volBigRow.laid).forCall (fun _ _ => 0) ⟨#[], args, []⟩).memory := by
  rw [MakeChecks.laidMetH_plain _ _ _ (by kernel_rfl)]
  exact laidMet_laidAll _ (by kernel_rfl) (by kernel_rfl)
theorem joined : joinedFacts Tryz.prog 7 Tryz.f7 Rows.volBigSpec Rows.volBigRow = true := by
  unfold joinedFacts
  rw [seat_laidOut, seat_mapsRowed, seat_stopsHeard, seat_mayEnter, seat_plainKeys, seat_lifted, seat_make]
  kernel_rfl
theorem inst : Tryz.f7.isInstance Tryz.prog Rows.volBigRow.origin Rows.volBigRow.targs := of_decide_eq_true (by kernel_rfl)
theorem wrap : Tryz.f7.isWrapper Tryz.prog Rows.volBigRow.wrapper Rows.volBigRow.mainSum := by
  unfold Func.isWrapper
  first | (rw [if_pos (by decide +kernel)]; kernel_rfl) | (rw [if_neg (by decide +kernel)]; exact ⟨rfl, rfl⟩)
end Go.Proofs.YthhipeceeagpnaaGreatDoor.volBig
end

section
namespace Go.Proofs.YthhipeceeagpnaaGreatDoor.volBig
open Go.ChangeShapes Go.WideShapes Go.ChangeAt Go.RowKit
set_option maxRecDepth 100000

theorem lifted (os : Os) (started : os.Started) (H : Type) (enc : TypeId × Value → H) :
    ReturnsInHanded {} Tryz.checked os 7 .any (fun w args => (Rows.volBigSpec.pre enc Tryz.prog Tryz.f7 [] false w args ∧ laidMetH Tryz.prog Rows.volBigRow.laid w) ∧ sizedMet enc Tryz.prog Tryz.f7 (OpenSpec.ofChange Rows.volBigSpec) false w args)
      (Rows.volBigSpec.post enc Tryz.prog Tryz.f7 false true false false) := by
  refine handed_and_shaped (C := Tryz.checked) (X := fun w _ => laidMetH Tryz.prog Rows.volBigRow.laid w) (fun _ _ _ hh h => h.of_heap hh) own started (by kernel_rfl) Tryz.func7
    (ChangeSpec.witness_shaped (enc := enc) (C := Tryz.checked) (os := os) (X := fun w _ => laidMetH Tryz.prog Rows.volBigRow.laid w) false (World.laidAll Tryz.prog os Rows.volBigRow.laid) #[.int .i64 0, .int .i64 0] 8 (World.laidAll_os _ _ _) (World.shaped_of_ZipB (by kernel_rfl) (by kernel_rfl)) (by kernel_rfl) (by kernel_rfl) (by kernel_rfl) (door_met os _)) ?_
  intro W base args ds gs before hval0 hW _ _ hL hSh _
  have hval : ∀ (j : Nat) t v, Tryz.f7.params[j]? = some t → args[j]? = some v → Value.okWide Tryz.prog W .any base t v := hval0
  have hW' := hW
  obtain ⟨p, q, hA0, hV, rfl, hfz, hnd⟩ := hW
  have hA : DataW.TrodAll enc Tryz.prog W 0 (fun _ => true) true Tryz.f7.params.toList args.toList ds p := hA0
  rw [Tryz.params7] at hA hval
  obtain ⟨v0, vs0, d0, ds0, p0, q0, hargs, rfl, rfl, h0, r0⟩ := trodAll_cons hA
  obtain ⟨v1, vs1, d1, ds1, p1, q1, rfl, rfl, rfl, h1, r1⟩ := trodAll_cons r0
  obtain ⟨rfl, rfl, rfl⟩ := trodAll_nil r1
  obtain rfl : args = #[v0, v1] := by cases args; simp_all
  obtain ⟨rfl, rfl⟩ := trodVars_none hV
  obtain ⟨a0, rfl, rfl, rfl, w0⟩ := open_int Tryz.underlying3 (hval 0 3 v0 rfl rfl) h0
  obtain ⟨a1, rfl, rfl, rfl, w1⟩ := open_int Tryz.underlying3 (hval 1 3 v1 rfl rfl) h1
  obtain ⟨E, hE0⟩ := env_of_laid_mid 1 24 hL (by kernel_rfl) (by kernel_rfl) (by kernel_rfl)
  have hE := envM_of hE0 hSh

  clear hA0 hval0
  simp only [List.append_nil] at hW'
  refine (volbig_any a0 a1 W hE).mono fun e W' ⟨he, bel⟩ => ?_
  subst he
  exact ⟨_, rfl, _, _, _, [], [], [], hW', trodAll_mk1 (shut_bool Tryz.underlying4 _), (trodAll_cons_mk (shut_int Tryz.underlying3 w0) (trodAll_cons_mk (shut_int Tryz.underlying3 w1) trodAll_mk0)), rfl, bel.frame _, fun h => by cases h⟩
theorem over : Rows.volBigRow.holds Tryz.pinned (OpenSpec.ofChange Rows.volBigSpec) :=
  OpenClaim.holds_of_wide 7 Tryz.f7 rfl rfl rfl rfl rfl rfl rfl ⟨rfl, rfl, rfl, rfl, rfl⟩ rfl rfl rfl rfl rfl (by kernel_rfl) Tryz.func7 joined inst wrap
    (fun os started H enc _ => lifted os started H enc)
theorem proved : Rows.VolBigCardSaid :=
  Claim7.holds_tied_plain_at .later [] Rows.volBigCard.laidKinds true Rows.volBigCard.stood.harness true
    over (fun _ h => by cases h) (by kernel_rfl) (fun _ h => by cases h) volBig_row_tie rfl ⟨rfl, rfl⟩ (by kernel_rfl) rfl
    (fun f fn hf hfn => by
      obtain rfl : f = 7 := Option.some.inj ((show Tryz.prog.funcNamed "breviary/breviarylaw21.VolBig" = some 7 by kernel_rfl).symm.trans hf) |>.symm
      obtain rfl : fn = Tryz.f7 := (Option.some.inj (Tryz.func7.symm.trans hfn)).symm
      exact ⟨by kernel_rfl, fun j t ht => by
        rw [Tryz.params7] at ht
        have hm : t ∈ [3, 3] := by
          have := Array.mem_of_getElem? ht
          simpa using this
        have hall : [3, 3].all (fun t => !(Tryz.prog.wantsStandIn t)) = true := by kernel_rfl
        have h := (List.all_eq_true.1 hall) t hm
        simp only [Bool.not_eq_true'] at h
        exact h⟩)
    (by kernel_rfl)
#print axioms proved
end Go.Proofs.YthhipeceeagpnaaGreatDoor.volBig
end
