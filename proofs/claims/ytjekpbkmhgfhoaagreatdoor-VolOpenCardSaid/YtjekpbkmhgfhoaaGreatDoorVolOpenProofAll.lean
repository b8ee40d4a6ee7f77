/- PROVED: Rows.VolOpenCardSaid: for every input the law VolOpen returns true, and each argument reads as before. Conditions: none beyond the listed package variables, which the card ties to the program's text. -/
import Derived.Test.YtjekpbkmhgfhoaaGreatDoorPBase44
import Derived.Test.YtjekpbkmhgfhoaaGreatDoorPBase18
import Derived.Test.YtjekpbkmhgfhoaaGreatDoorPBase43
import Derived.Test.YtjekpbkmhgfhoaaGreatDoorPBase42
import Derived.Deep.DeepCutAuto
import Derived.Deep.CutBlock
import Derived.Test.YtjekpbkmhgfhoaaGreatDoorRows
import Derived.Test.YtjekpbkmhgfhoaaGreatDoorCards
import Derived.Test.YtjekpbkmhgfhoaaGreatDoorTie
import Derived.Test.YtjekpbkmhgfhoaaGreatDoorPBase04
import Derived.Test.YtjekpbkmhgfhoaaGreatDoorPBase01
import Derived.Test.YtjekpbkmhgfhoaaGreatDoorPBase05
import Derived.Test.YtjekpbkmhgfhoaaGreatDoorPBase26
import Derived.ProofKit
import Derived.OpenShut
import Derived.ChangeOld
import Derived.LaidMore
import Derived.ChangeSame
import Derived.ChangeVars
import Derived.JoinedOf
import Derived.Lay
import Derived.MakeChecks
import Derived.SevenTiedAt
import Derived.Stop.Joined
import Derived.ChangeMaps5
section
/- The bytes that the holes' law writes. -/
namespace Go.Proofs.YtjekpbkmhgfhoaaGreatDoor
open Go Go.RowKit
set_option maxRecDepth 100000
set_option linter.unusedSimpArgs false
set_option linter.unusedVariables false
attribute [local go_sem] giv
theorem ones_set {n j : Nat} (h : j < n) : ((List.replicate j (Value.int .u8 1)) ++ List.replicate (n - j) (Value.int .u8 0)).set j (.int .u8 1) = (List.replicate (j + 1) (Value.int .u8 1)) ++ List.replicate (n - (j + 1)) (Value.int .u8 0) := by
  rw [List.set_append_right _ _ (by simp)]
  obtain ⟨k, hk⟩ : ∃ k, n - j = k + 1 := ⟨n - j - 1, by omega⟩
  rw [hk, show n - (j + 1) = k by omega, List.length_replicate, Nat.sub_self, List.replicate_succ, List.set_cons_zero, List.replicate_succ', List.append_assoc]
  rfl
end Go.Proofs.YtjekpbkmhgfhoaaGreatDoor
end

section
/- The walk of VolOpen. -/
namespace Go.Proofs.YtjekpbkmhgfhoaaGreatDoor
open Go Go.RowKit
set_option maxRecDepth 100000
set_option linter.unusedSimpArgs false
set_option linter.unusedVariables false
attribute [local go_sem] giv
theorem opE_count (last : Int) : (opE last).st.count = 0 := by
  unfold St.count opE
  simp
section
variable {E : Nat → Addr} {B : Nat} {w w' : World}
theorem slk_zs {L : Nat → Prop} {c n : Nat} {x : Int} (r : Row w c 5 (List.replicate n (.int .u8 x))) : SlK B L w (some ⟨c, 0, none⟩) (List.replicate n x) := fun h0 => by
  rw [List.length_replicate] at h0
  refine ⟨c, 0, rfl, .inr (.inr ?_), r.lt, fun i hi => ?_⟩
  · obtain ⟨k, hk⟩ : ∃ k, n = k + 1 := ⟨n - 1, by omega⟩
    rw [hk, List.replicate_succ] at r
    exact r.plain (plainI _ _)
  · rw [List.length_replicate] at hi
    rw [Nat.zero_add, r.cell]
    simp [hi, List.getD_eq_getElem?_getD]
set_option maxHeartbeats 8000000 in
theorem volopen_any (a t z : Int) (w : World) (hE : EnvM E B w) :
    Calls Tryz.prog 3 #[.int .i64 a, .int .i64 t, .int .i64 z] w fun e w' => e = .returned (.bool true) ∧ Below B w w' := by
  have HE := Lib.hid hE
  generalize hP : (fun (e : Ending) (w' : World) => e = .returned (.bool true) ∧ Below B w w') = Post
  have HP := Lib.hid hP
  clear hP hE
  go_enter Tryz.func3, Tryz.ntmps3
  go_wp2_with fail
  refine (first_any (HE.out.up HE.out.size (Nat.le_refl _))).mono ?_
  rintro e w1 ⟨rfl, hb1⟩
  have HB1 := Lib.hid hb1
  have HE1 := Lib.hid ((HE.out.up HE.out.size (Nat.le_refl _)).below hb1)
  clear hb1
  go_wp2_with fail
  refine (number_any a 8 (by decide) w1).mono ?_
  rintro e w1' ⟨rfl, rfl⟩
  obtain ⟨A0, hA⟩ : ∃ A0 : Nat, a % 8 = A0 := ⟨(a % 8).toNat, by omega⟩
  rw [hA]
  have hA1 : A0 < 8 := by omega
  obtain ⟨R, hR⟩ : ∃ R : Nat, A0 + 1 = R := ⟨_, rfl⟩
  have hwq : wrap64 ((A0 : Int) + 1) = (R : Int) := by unfold wrap64; omega
  have HRQ : Hid (1 ≤ R ∧ R ≤ 8) := Lib.hid ⟨by omega, by omega⟩
  clear hA hA1 hR
  go_wp2_with fail
  try rw [hwq]
  clear hwq
  refine (vnew_any (L := fun _ => False) (HE1.out.up HE1.out.size (Nat.le_refl _)) (fun _ h => h.elim) 60).mono ?_
  rintro e w2 ⟨⟨p, rfl, hv2, hpv⟩, hb2⟩
  have V2 := Lib.hid hv2
  have HB2 := Lib.hid hb2
  clear hv2 hb2 hpv
  go_wp2_with fail
  refine (vopen_new V2.out (x := pF) pF_look).mono ?_
  rintro e w3 ⟨rfl, h3, k3⟩
  rw [open_new (by decide)] at h3 ⊢
  have V3 := Lib.hid h3
  have K3 := Lib.hid k3
  clear h3 k3
  rw [errOf_zero]
  go_wp2_with fail
  refine (vopen_old V3.out (x := pF) (n := ⟨2, 1, 1, 0, noText, 0⟩) op_look rfl (r := ⟨⟨2, 1, 1, 0, noText, 0⟩, []⟩) rfl rfl (in64_of (by show (0 : Int) ≤ 2; decide) (by show (2 : Int) ≤ 16777215; decide)) (op_fd 0 60)).mono ?_
  rintro e w4 ⟨rfl, h4, k4⟩
  have V4 : Hid (VAt E w1.heap.size (fun _ => False) p (opV (opS1 0) (fun _ => none) (fs01 0 0)) w4) := Lib.hid (by
    rw [← op_second (g := fun _ => none) (sz := 0) (p0 := 0) (p1 := 0)]
    exact h4)
  have K4 := Lib.hid (K3.out.trans k4)
  clear h4 k4
  go_wp2_with fail
  go_loopw [13, 14, 15] (fun v13 _ _ wr => ∃ (i : Nat) (g : Nat → FBlk), v13 = .int .i64 i ∧ i ≤ R ∧ FullS g i ∧ VAt E w1.heap.size (fun _ => False) p (opV (opS1 ((256 * i : Nat) : Int)) g (fs01 ((256 * i : Nat) : Int) 0)) wr ∧ KV w1.heap.size (fun _ => False) NoB w2 wr) (fun v13 _ _ _ => R - (intOf v13).toNat)
  case atStart => exact ⟨0, _, rfl, Nat.zero_le _, FullS.zero, V4.out, K4.out⟩
  case round =>
    obtain ⟨i, g, rfl, hi, hfs, hv, hk⟩ := hrel
    have HI := Lib.hid hi
    have HF := Lib.hid hfs
    have HV := Lib.hid hv
    have HK := Lib.hid hk
    clear hi hfs hv hk
    by_cases hlt : i < R
    case pos =>
      have hlt2 : (i : Int) < (R : Int) := by omega
      have HLT := Lib.hid hlt
      obtain ⟨g', hwr, hf'⟩ := op_write HF.out (by have := HRQ.out; omega)
      have HWR := Lib.hid hwr
      have HF' := Lib.hid hf'
      clear hlt hwr hf'
      go_wp2_with (at_make; refine wpList_mk _ rfl _ _ _ rfl 5 (.int .u8 0) 1 Tryz.underlying31 u8_info rfl 256 rfl rfl (by omega) (by unfold maxLen; omega) ?_; intro w5 hr5 hb5; have HR5 := Lib.hid hr5; have HB5 := Lib.hid hb5; clear hr5 hb5)
      have V5 := Lib.hid (HV.out.below HB5.out)
      have K5 := Lib.hid (HK.out.then HB5.out)
      have S5 := Lib.hid (slk_zs (B := w1.heap.size) (L := fun _ => False) (x := 0) HR5.out)
      have hWC := vwrite_any (b := zs256) (cap := 256) V5.out (fd := 0) (x := ⟨2, _⟩) rfl (r := ⟨⟨2, 1, 1, _, noText, 0⟩, []⟩) rfl rfl HF.out.lost S5.out (by rw [zs_len]; exact Nat.le_refl _) (by unfold maxLen; omega)
      rw [zs_len, HWR.out] at hWC
      refine hWC.mono ?_
      rintro e w6 ⟨rfl, h6, k6⟩
      have V6 := Lib.hid h6
      have K6 := Lib.hid (K5.out.trans k6)
      clear h6 k6 hWC V5 K5 S5
      rw [errOf_zero]
      have hw : wrap64 ((i : Int) + 1) = ((i + 1 : Nat) : Int) := by have := HRQ.out; have := HLT.out; unfold wrap64; omega
      go_wp2
      go_roundw
      case rel => exact ⟨i + 1, g', by rw [hw], HLT.out, HF'.out, V6.out, K6.out⟩
      case measure =>
        have h3 := HLT.out
        rw [hw]
        simp only [intOf, Int.toNat_natCast]
        clear hw hlt2
        omega
    case neg =>
      obtain rfl : i = R := by have := HI.out; omega
      have hlt2 : ¬ ((i : Int) < (i : Int)) := by omega
      clear hlt HI
      have HNB : Hid (nBlk g = i) := Lib.hid (HF.out.pre.nBlk (by have := HRQ.out; omega))
      obtain ⟨SZ, hSZ⟩ : ∃ SZ : Int, ((256 * i : Nat) : Int) = SZ := ⟨_, rfl⟩
      have HSZ := Lib.hid hSZ
      rw [hSZ] at HV
      clear hSZ
      go_wp2_with fail
      refine (number_any z 2 (by decide) wr).mono ?_
      rintro e wx ⟨rfl, hww⟩
      subst hww
      obtain ⟨Z, hZ⟩ : ∃ Z, z % 2 = Z := ⟨_, rfl⟩
      rw [hZ]
      clear hZ hlt2
      obtain ⟨c, hc⟩ : ∃ c : Bool, (Z == 0) = c := ⟨_, rfl⟩
      go_upto_if 62 with fail
      go_cut [16, 17] (fun _ _ wx => ∃ last : Int, VAt E w1.heap.size (fun _ => False) p (opV (opS last SZ) g (fs01 SZ 0)) wx ∧ KV w1.heap.size (fun _ => False) NoB w2 wx)
      case first =>
        cases c
        case true =>
          go_wp2_with fail
          refine (vunlink_any HV.out pF (by show In64 (unlinkT (opS1 SZ) pF).2.1; rw [show unlinkT (opS1 SZ) pF = (0, 2, opS 2 SZ) from op_unlink (g := fun _ => none) (pos := 0) (q := 0)]; show In64 2; exact in64_of (by decide) (by decide))).mono ?_
          rintro e w5 ⟨rfl, h5, k5⟩
          rw [opv_unlink] at h5 ⊢
          have V5 := Lib.hid h5
          have K5 := Lib.hid (HK.out.trans k5)
          clear h5 k5
          rw [errOf_zero]
          go_wp2_with fail
          go_meet
          case rel => exact ⟨2, V5.out, K5.out⟩
        case false =>
          go_wp2_with fail
          refine (vopen_new HV.out (x := pG) (show (lookT (opS1 SZ) pG true).1 = 109 from op_none (g := fun _ => none) (pos := 0) (q := 0))).mono ?_
          rintro e w5 ⟨rfl, h5, k5⟩
          rw [opv_open (by rw [HNB.out]; have := HRQ.out; omega)] at h5 ⊢
          have V5 := Lib.hid h5
          have K5 := Lib.hid (HK.out.trans k5)
          clear h5 k5
          rw [errOf_zero]
          go_wp2_with fail
          refine (vclose_any V5.out 2 (in64_of (by decide) (by decide))).mono ?_
          rintro e w6 ⟨rfl, h6, k6⟩
          rw [opv_close2] at h6 ⊢
          have V6 := Lib.hid h6
          have K6 := Lib.hid (K5.out.trans k6)
          clear h6 k6
          rw [errOf_zero]
          go_wp2_with fail
          refine (vrename_any V6.out pG pF (by show In64 (renameT (opS2 SZ) pG pF).2.1; rw [op_rename]; show In64 2; exact in64_of (by decide) (by decide))).mono ?_
          rintro e w7 ⟨rfl, h7, k7⟩
          rw [opv_rename] at h7 ⊢
          have V7 := Lib.hid h7
          have K7 := Lib.hid (K6.out.trans k7)
          clear h7 k7
          rw [errOf_zero]
          go_wp2_with fail
          refine (vunlink_any V7.out pF (by show In64 (unlinkT (opS3 SZ) pF).2.1; rw [op_unlink3]; show In64 3; exact in64_of (by decide) (by decide))).mono ?_
          rintro e w8 ⟨rfl, h8, k8⟩
          rw [opv_unlink3] at h8 ⊢
          have V8 := Lib.hid h8
          have K8 := Lib.hid (K7.out.trans k8)
          clear h8 k8
          rw [errOf_zero]
          go_wp2_with fail
          go_meet
          case rel => exact ⟨3, V8.out, K8.out⟩
      case rest =>
        obtain ⟨last, hvc, hkc⟩ := hcut
        obtain ⟨w5, rfl⟩ : ∃ w5, w5 = wc := ⟨_, rfl⟩
        have V5 := Lib.hid hvc
        have K5 := Lib.hid hkc
        clear hvc hkc hc HV HK
        go_wp2_with fail
        refine (vcount_any V5.out).mono ?_
        rintro e w6 ⟨rfl, h6, k6⟩
        obtain ⟨q1, q2, q3⟩ := op_counts (sz := SZ) (g := g) last (fs01 SZ 0)
        rw [q1, q2, q3, HNB.out]
        have V6 := Lib.hid h6
        have K6 := Lib.hid (K5.out.trans k6)
        clear h6 k6 q1 q2 q3
        obtain ⟨D, hD⟩ : ∃ D, w6.heap.size = D := ⟨_, rfl⟩
        obtain ⟨w7, hw7⟩ : ∃ w7, w7 = w6.alloc (.cells #[.int .i64 2, .int .i64 0, .int .i64 i] 36) := ⟨_, rfl⟩
        have hb7 : Below w6.heap.size w6 w7 := by rw [hw7]; exact bl_alloc (Below.refl _ _) _
        have hz7 : w7.heap.size = D + 1 := by rw [hw7]; simp [hD]
        obtain ⟨L1, hL1⟩ : ∃ L1 : Nat → Prop, L1 = fun x => x = D := ⟨_, rfl⟩
        have HL1 : Hid (L1 D) := Lib.hid (by rw [hL1])
        have V7 : Hid (VAt E w1.heap.size L1 p (opV (opS last SZ) g (fs01 SZ 0)) w7) := Lib.hid (V6.out.loc hb7 (fun x hx => by
          rw [hL1] at hx
          right; omega) (fun x hx => hx.elim))
        have RD7 : Hid (Row w7 D 36 [.int .i64 2, .int .i64 0, .int .i64 i]) := Lib.hid (by rw [hw7, ← hD]; exact Row.new _ _ _)
        have K7 := Lib.hid (K6.out.then hb7)
        have HDB : Hid (w1.heap.size ≤ D ∧ w2.heap.size ≤ D) := Lib.hid (by rw [← hD]; exact ⟨V6.out.hB, K6.out.size⟩)
        have HW7 := Lib.hid hw7
        have HD := Lib.hid hD
        clear hD hw7 hb7 hz7 hL1
        go_wp2_with fail
        rw [← HW7.out]
        simp only [HD.out]
        refine (vfstat_any V7.out (fd := 0) (by decide) (x := ⟨2, _⟩) rfl (n := ⟨2, 1, 0, SZ, noText, 0⟩) rfl (in64_of (by show (0 : Int) ≤ 2; decide) (by show (2 : Int) ≤ 16777215; decide))).mono ?_
        rintro e w8 ⟨rfl, hb8⟩
        have hst : staC (statN (opV (opS last SZ) g (fs01 SZ 0)) ⟨2, 1, 0, SZ, noText, 0⟩) = .agg #[.int .i64 2, .int .i64 1, .int .i64 0, .int .i64 SZ, .int .i64 i] := by
          rw [show (i : Int) = ((nBlk g : Nat) : Int) by rw [HNB.out]]
          rfl
        rw [hst]
        obtain ⟨D2, hD2⟩ : ∃ D2, w8.heap.size = D2 := ⟨_, rfl⟩
        obtain ⟨w9, hw9⟩ : ∃ w9, w9 = w8.alloc (.cells #[.int .i64 2, .int .i64 1, .int .i64 0, .int .i64 SZ, .int .i64 i] 39) := ⟨_, rfl⟩
        have hb9 : Below w8.heap.size w8 w9 := by rw [hw9]; exact bl_alloc (Below.refl _ _) _
        have hb79 : Below w7.heap.size w7 w9 := hb8.trans (hb9.mono hb8.size)
        have rd9 := RD7.out.below hb79
        have rs9 : Row w9 D2 39 [.int .i64 2, .int .i64 1, .int .i64 0, .int .i64 SZ, .int .i64 i] := by rw [hw9, ← hD2]; exact Row.new _ _ _
        have V9 := Lib.hid (V7.out.below hb79)
        have K9 : Hid (KV w1.heap.size L1 NoB w7 w9) := Lib.hid (KV.of_below hb79)
        have RD9 := Lib.hid rd9
        have x0 := rd9.cell' (i := 0) rfl
        have x1 := rd9.cell' (i := 1) rfl
        have x2 := rd9.cell' (i := 2) rfl
        have xl := rd9.lt
        have y2 := rs9.cell' (i := 2) rfl
        have y3 := rs9.cell' (i := 3) rfl
        have y4 := rs9.cell' (i := 4) rfl
        have yl := rs9.lt
        have HW9 := Lib.hid hw9
        have HD2 := Lib.hid hD2
        have hmul : wrap64 (256 * (i : Int)) = SZ := by rw [← HSZ.out]; have := HRQ.out; unfold wrap64; omega
        clear hb8 hst hD2 hw9 hb9 hb79 rd9 rs9
        go_upto_region 24 with fail
        rw [← HW9.out]
        simp only [HD2.out]
        go_wp2_with fail
        clear x0 x1 x2 xl y2 y3 y4 yl hmul
        obtain ⟨l, hl, hrd⟩ := op_read (last := last) (p0 := SZ) HF.out HRQ.out.1 HRQ.out.2
        obtain ⟨M, hM⟩ : ∃ M, min 300 (256 * i) = M := ⟨_, rfl⟩
        rw [hM] at hl hrd
        rw [HSZ.out] at hrd
        refine (vread_any V9.out (fd := 1) (x := ⟨2, 0⟩) rfl (r := ⟨⟨2, 1, 0, SZ, noText, 0⟩, []⟩) rfl HF.out.lost (m := 300) (in64_of (by decide) (by decide)) (by decide)).mono ?_
        rintro e wa ⟨⟨v, rfl, hs⟩, ha, ka⟩
        rw [hrd] at ha hs ⊢
        obtain ⟨sp, cap, hv⟩ := hs.shape
        rw [hl] at hv
        subst hv
        have VA0 := Lib.hid ha
        have KA0 := Lib.hid (K9.out.trans ka)
        have hmin : min 300 (wrap64 (256 * (i : Int))) = (M : Int) := by have := HRQ.out; unfold wrap64; omega
        clear hs ha ka hrd hl hM
        rw [errOf_zero]
        go_wp2_with fail
        clear hmin
        refine (vclose_any VA0.out 0 (in64_of (by decide) (by decide))).mono ?_
        rintro e wb ⟨rfl, hb, kb⟩
        rw [opv_close0] at hb ⊢
        have VB := Lib.hid hb
        have KB := Lib.hid (KA0.out.trans kb)
        clear hb kb
        rw [errOf_zero]
        go_wp2_with fail
        refine (vcount_any VB.out).mono ?_
        rintro e wd ⟨rfl, hd, kd⟩
        obtain ⟨q1, q2, q3⟩ := op_counts (sz := SZ) (g := g) last (fs1 (M : Int))
        rw [q1, q2, q3]
        have VD := Lib.hid hd
        have KD := Lib.hid (KB.out.trans kd)
        clear hd kd q1 q2 q3
        have hfl : ∀ (a b c : Int) (w : World), (Instr.field 36 (.agg #[.int .i64 a, .int .i64 b, .int .i64 c]) 0).run Tryz.prog w = .ok (.int .i64 a) w := fun _ _ _ _ => rfl
        obtain ⟨c, hc⟩ : ∃ c : Bool, (Int.tmod t 2 == 0) = c := ⟨_, rfl⟩
        go_upto_if 163 with fail
        clear hfl
        go_cut [21] (fun _ wx => VAt E w1.heap.size L1 p (opE last) wx ∧ KV w1.heap.size L1 NoB w7 wx)
        case first =>
          cases c
          case true =>
            go_wp2_with fail
            refine (vsettle_any VD.out).mono ?_
            rintro e we ⟨rfl, he, ke⟩
            rw [op_settle] at he
            have VE := Lib.hid he
            have KE := Lib.hid (KD.out.trans ke)
            clear he ke
            go_wp2_with fail
            go_meet
            case rel => exact ⟨VE.out, KE.out⟩
          case false =>
            go_wp2_with fail
            refine (vclose_any VD.out 1 (in64_of (by decide) (by decide))).mono ?_
            rintro e we ⟨rfl, he, ke⟩
            rw [opv_close1] at he ⊢
            have VE := Lib.hid he
            have KE := Lib.hid (KD.out.trans ke)
            clear he ke
            rw [errOf_zero]
            go_wp2_with fail
            go_meet
            case rel => exact ⟨VE.out, KE.out⟩
        case rest =>
          obtain ⟨hvc, hkc⟩ := hcut
          obtain ⟨we, rfl⟩ : ∃ we, we = wc := ⟨_, rfl⟩
          have VE := Lib.hid hvc
          have KE := Lib.hid hkc
          clear hvc hkc hc VD KD
          go_wp2_with fail
          refine (vcount_any VE.out).mono ?_
          rintro e wf ⟨rfl, hf, kf⟩
          obtain ⟨q1, q2⟩ := opE_counts last
          rw [q1, q2, opE_count]
          have VF := Lib.hid hf
          have KF := Lib.hid (KE.out.trans kf)
          clear hf kf q1 q2
          have rd := RD7.out.kv (plainI _ _) KF.out
          have x0 := rd.cell' (i := 0) rfl
          have x1 := rd.cell' (i := 1) rfl
          have x2 := rd.cell' (i := 2) rfl
          have xf := fun i => rd.froz i
          have xl := rd.lt
          go_upto_region 34 with fail
          obtain ⟨wg, hwg⟩ : ∃ wg, wg = ((wf.setCell ⟨D, 0, none⟩ (.int .i64 1)).setCell ⟨D, 1, none⟩ (.int .i64 0)).setCell ⟨D, 2, none⟩ (.int .i64 0) := ⟨_, rfl⟩
          have rg : Row wg D 36 [.int .i64 1, .int .i64 0, .int .i64 0] := by
            rw [hwg]
            exact ((rd.set 0 _).set 1 _).set 2 _
          have VG : Hid (VAt E w1.heap.size L1 p (opE last) wg) := Lib.hid (by
            rw [hwg]
            exact ((VF.out.set HL1.out HDB.out.1 _ _).set HL1.out HDB.out.1 _ _).set HL1.out HDB.out.1 _ _)
          have KG : Hid (KV w1.heap.size (fun _ => False) NoB w2 wg) := Lib.hid (by
            rw [hwg]
            exact Touch.setCell (Touch.setCell (Touch.setCell (K7.out.trans (KF.out.less (fun _ h => h.elim))) (.inr HDB.out.2) _) (.inr HDB.out.2) _) (.inr HDB.out.2) _)
          have HWG := Lib.hid hwg
          clear rd x0 x1 x2 xf xl hwg VF KF
          have x0 := rg.cell' (i := 0) rfl
          have x2 := rg.cell' (i := 2) rfl
          have xl := rg.lt
          clear rg
          rw [← HWG.out]
          go_wp2_with fail
          clear x0 x2 xl
          refine (vclose_any VG.out 1 (in64_of (by decide) (by decide))).mono ?_
          rintro e wh ⟨rfl, hh, kh⟩
          rw [opE_close] at hh ⊢
          have VH := Lib.hid hh
          have KH := Lib.hid (KG.out.trans (kh.less fun _ h => h.elim))
          clear hh kh
          go_wp2_with fail
          refine (is_of 121 121 (by decide) wh VH.out.env.toEnv).mono ?_
          rintro e wi ⟨rfl, hbi⟩
          rw [show ((121 : Int) == 121) = true from rfl]
          have KI := Lib.hid (KH.out.then hbi)
          have hb : Below B w wi := (HB1.out.trans ((HB2.out.trans (KI.out.below HB2.out.size)).mono HB1.out.size)).mono HE.out.size
          have HBF := Lib.hid hb
          clear hbi hb
          go_wp2
          rw [← HP.out]
          first
            | exact ⟨rfl, HBF.out⟩
            | (go_ret; exact ⟨rfl, HBF.out⟩)
end
end Go.Proofs.YtjekpbkmhgfhoaaGreatDoor
end

section
/- What the card of VolOpen asks beside the walk. -/
namespace Go.Proofs.YtjekpbkmhgfhoaaGreatDoor.volOpen
open Go.ChangeShapes Go.WideShapes Go.ChangeAt Go.RowKit
set_option maxRecDepth 100000

theorem own : ownKnob Tryz.prog.godebug = none := by kernel_rfl
theorem door_met (os : Os) (args : Array Value) : laidMetH Tryz.prog Rows.volOpenRow.laid ((World.laidAll Tryz.prog os Rows.volOpenRow.laid).forCall (fun _ _ => 0) ⟨#[], args, []⟩).memory := by
  rw [MakeChecks.laidMetH_plain _ _ _ (by kernel_rfl)]
  exact laidMet_laidAll _ (by kernel_rfl) (by kernel_rfl)
theorem joined : joinedFacts Tryz.prog 3 Tryz.f3 Rows.volOpenSpec Rows.volOpenRow = true := by
  unfold joinedFacts
  rw [seat_laidOut, seat_mapsRowed, seat_stopsHeard, seat_mayEnter, seat_plainKeys, seat_lifted, seat_make]
  kernel_rfl
theorem inst : Tryz.f3.isInstance Tryz.prog Rows.volOpenRow.origin Rows.volOpenRow.targs := of_decide_eq_true (by kernel_rfl)
theorem wrap : Tryz.f3.isWrapper Tryz.prog Rows.volOpenRow.wrapper Rows.volOpenRow.mainSum := by
  unfold Func.isWrapper
  first | (rw [if_pos (by decide +kernel)]; kernel_rfl) | (rw [if_neg (by decide +kernel)]; exact ⟨rfl, rfl⟩)
end Go.Proofs.YtjekpbkmhgfhoaaGreatDoor.volOpen
end

section
namespace Go.Proofs.YtjekpbkmhgfhoaaGreatDoor.volOpen
open Go.ChangeShapes Go.WideShapes Go.ChangeAt Go.RowKit
set_option maxRecDepth 100000

theorem lifted (os : Os) (started : os.Started) (H : Type) (enc : TypeId × Value → H) :
    ReturnsInHanded {} Tryz.checked os 3 .any (fun w args => (Rows.volOpenSpec.pre enc Tryz.prog Tryz.f3 [] false w args ∧ laidMetH Tryz.prog Rows.volOpenRow.laid w) ∧ sizedMet enc Tryz.prog Tryz.f3 (OpenSpec.ofChange Rows.volOpenSpec) false w args)
      (Rows.volOpenSpec.post enc Tryz.prog Tryz.f3 false true false false) := by
  refine handed_and_shaped (C := Tryz.checked) (X := fun w _ => laidMetH Tryz.prog Rows.volOpenRow.laid w) (fun _ _ _ hh h => h.of_heap hh) own started (by kernel_rfl) Tryz.func3
    (ChangeSpec.witness_shaped (enc := enc) (C := Tryz.checked) (os := os) (X := fun w _ => laidMetH Tryz.prog Rows.volOpenRow.laid w) false (World.laidAll Tryz.prog os Rows.volOpenRow.laid) #[.int .i64 0, .int .i64 0, .int .i64 0] 8 (World.laidAll_os _ _ _) (World.shaped_of_ZipB (by kernel_rfl) (by kernel_rfl)) (by kernel_rfl) (by kernel_rfl) (by kernel_rfl) (door_met os _)) ?_
  intro W base args ds gs before hval0 hW _ _ hL hSh _
  have hval : ∀ (j : Nat) t v, Tryz.f3.params[j]? = some t → args[j]? = some v → Value.okWide Tryz.prog W .any base t v := hval0
  have hW' := hW
  obtain ⟨p, q, hA0, hV, rfl, hfz, hnd⟩ := hW
  have hA : DataW.TrodAll enc Tryz.prog W 0 (fun _ => true) true Tryz.f3.params.toList args.toList ds p := hA0
  rw [Tryz.params3] at hA hval
  obtain ⟨v0, vs0, d0, ds0, p0, q0, hargs, rfl, rfl, h0, r0⟩ := trodAll_cons hA
  obtain ⟨v1, vs1, d1, ds1, p1, q1, rfl, rfl, rfl, h1, r1⟩ := trodAll_cons r0
  obtain ⟨v2, vs2, d2, ds2, p2, q2, rfl, rfl, rfl, h2, r2⟩ := trodAll_cons r1
  obtain ⟨rfl, rfl, rfl⟩ := trodAll_nil r2
  obtain rfl : args = #[v0, v1, v2] := by cases args; simp_all
  obtain ⟨rfl, rfl⟩ := trodVars_none hV
  obtain ⟨a0, rfl, rfl, rfl, w0⟩ := open_int Tryz.underlying3 (hval 0 3 v0 rfl rfl) h0
  obtain ⟨a1, rfl, rfl, rfl, w1⟩ := open_int Tryz.underlying3 (hval 1 3 v1 rfl rfl) h1
  obtain ⟨a2, rfl, rfl, rfl, w2⟩ := open_int Tryz.underlying3 (hval 2 3 v2 rfl rfl) h2
  obtain ⟨E, hE0⟩ := env_of_laid_mid 1 24 hL (by kernel_rfl) (by kernel_rfl) (by kernel_rfl)
  have hE := envM_of hE0 hSh

  clear hA0 hval0
  simp only [List.append_nil] at hW'
  refine (volopen_any a0 a1 a2 W hE).mono fun e W' ⟨he, bel⟩ => ?_
  subst he
  exact ⟨_, rfl, _, _, _, [], [], [], hW', trodAll_mk1 (shut_bool Tryz.underlying4 _), (trodAll_cons_mk (shut_int Tryz.underlying3 w0) (trodAll_cons_mk (shut_int Tryz.underlying3 w1) (trodAll_cons_mk (shut_int Tryz.underlying3 w2) trodAll_mk0))), rfl, bel.frame _, fun h => by cases h⟩
theorem over : Rows.volOpenRow.holds Tryz.pinned (OpenSpec.ofChange Rows.volOpenSpec) :=
  OpenClaim.holds_of_wide 3 Tryz.f3 rfl rfl rfl rfl rfl rfl rfl ⟨rfl, rfl, rfl, rfl, rfl⟩ rfl rfl rfl rfl rfl (by kernel_rfl) Tryz.func3 joined inst wrap
    (fun os started H enc _ => lifted os started H enc)
theorem proved : Rows.VolOpenCardSaid :=
  Claim7.holds_tied_plain_at .later [] Rows.volOpenCard.laidKinds true Rows.volOpenCard.stood.harness true
    over (fun _ h => by cases h) (by kernel_rfl) (fun _ h => by cases h) volOpen_row_tie rfl ⟨rfl, rfl⟩ (by kernel_rfl) rfl
    (fun f fn hf hfn => by
      obtain rfl : f = 3 := Option.some.inj ((show Tryz.prog.funcNamed "breviary/breviarylaw21.VolOpen" = some 3 by kernel_rfl).symm.trans hf) |>.symm
      obtain rfl : fn = Tryz.f3 := (Option.some.inj (Tryz.func3.symm.trans hfn)).symm
      exact ⟨by kernel_rfl, fun j t ht => by
        rw [Tryz.params3] at ht
        have hm : t ∈ [3, 3, 3] := by
          have := Array.mem_of_getElem? ht
          simpa using this
        have hall : [3, 3, 3].all (fun t => !(Tryz.prog.wantsStandIn t)) = true := by kernel_rfl
        have h := (List.all_eq_true.1 hall) t hm
        simp only [Bool.not_eq_true'] at h
        exact h⟩)
    (by kernel_rfl)
#print axioms proved
end Go.Proofs.YtjekpbkmhgfhoaaGreatDoor.volOpen
end
