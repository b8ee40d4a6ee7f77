/- PROVED: Rows.VolLinksCardSaid: for every input the law VolLinks returns true, and each argument reads as before. Conditions: none beyond the listed package variables, which the card ties to the program's text. -/
import Derived.Test.YthhipeceeagpnaaGreatDoorLBase45
import Derived.Test.YthhipeceeagpnaaGreatDoorLBase43
import Derived.Test.YthhipeceeagpnaaGreatDoorLBase44
import Derived.Test.YthhipeceeagpnaaGreatDoorLBase42
import Derived.Test.YthhipeceeagpnaaGreatDoorRows
import Derived.Test.YthhipeceeagpnaaGreatDoorCards
import Derived.Test.YthhipeceeagpnaaGreatDoorTie
import Derived.Test.YthhipeceeagpnaaGreatDoorLBase05
import Derived.Test.YthhipeceeagpnaaGreatDoorLBase06
import Derived.Test.YthhipeceeagpnaaGreatDoorLBase28
import Derived.Test.YthhipeceeagpnaaGreatDoorLBase29
import Derived.ProofKit
import Derived.OpenShut
import Derived.ChangeOld
import Derived.LaidMore
import Derived.ChangeSame
import Derived.ChangeVars
import Derived.JoinedOf
import Derived.Lay
import Derived.MakeChecks
import Derived.SevenTiedAt
import Derived.Stop.Joined
import Derived.ChangeMaps5
import Derived.Test.YthhipeceeagpnaaGreatDoorLBase15
import Derived.Test.YthhipeceeagpnaaGreatDoorLBase46
section
/- The walk of VolLinks. -/
namespace Go.Proofs.YthhipeceeagpnaaGreatDoor
open Go Go.RowKit
set_option maxRecDepth 100000
set_option linter.unusedSimpArgs false
set_option linter.unusedVariables false
attribute [local go_sem] giv
theorem links_open (sz : Int) (g : Nat → FBlk) (pos P : Int) : openV (lkO sz g pos P) pM true = (109, 0, lkO sz g pos P) := by
  have h := createV_there (s := lkO sz g pos P) (x := pM) (lk_m (sz := sz)).1 (show (lastP (lkS3 sz) (parseP pM).2).1 = 0 from (lk_m (sz := sz)).2.1) (show 0 < (lastP (lkS3 sz) (parseP pM).2).2.node by rw [(lk_m (sz := sz)).2.2]; decide)
  unfold openV
  simp only
  rw [if_pos ⟨show (lookT (lkS3 sz) pM true).1 = 109 from lk_none, trivial⟩, h]
theorem SlE.rdKV {B : Nat} {L : Nat → Prop} {w w' : World} {base : Nat} {sp : Option Addr} {n cap : Nat} {l : List Int} (h : SlE w base 5 1 encB1 (.slice sp n cap) l) (hn : l.length = n) (k : KV B L NoB w w') : RdB w' (.slice sp n cap) l := by
  by_cases h0 : l = []
  · subst h0
    subst hn
    exact ⟨sp, cap, rfl, .inl rfl⟩
  · exact (h.kvB h0 k).rdB8
section
variable {E : Nat → Addr} {B : Nat} {w w' : World}
set_option maxHeartbeats 4000000 in
theorem vollinks_any {sp1 : Option Addr} {cap1 : Nat} {b : List Int} (r1 : RdB w (.slice sp1 b.length cap1) b) (hs1 : b ≠ [] → ∀ h off s, sp1 = some ⟨h, off, s⟩ → h < w.heap.size) (l1 : b.length ≤ maxLen) (hcap : b.length ≤ cap1 ∧ cap1 ≤ maxLen) (z : Int) (hE : EnvM E B w) :
    Calls Tryz.prog 8 #[.slice sp1 b.length cap1, .int .i64 z] w fun e w' => e = .returned (.bool true) ∧ Below w.heap.size w w' := by
  have HE := Lib.hid hE
  have HR1 := Lib.hid r1
  have HS1 := Lib.hid hs1
  have HCAP := Lib.hid hcap
  generalize hP : (fun (e : Ending) (w' : World) => e = .returned (.bool true) ∧ Below w.heap.size w w') = Post
  have HP := Lib.hid hP
  obtain ⟨NB, hNB⟩ : ∃ NB, b.length = NB := ⟨_, rfl⟩
  have HNB := Lib.hid hNB
  rw [hNB]
  clear hP hE r1 hs1 hcap hNB l1
  go_enter Tryz.func8, Tryz.ntmps8
  go_wp2_with fail
  refine (first_any (HE.out.up HE.out.size (Nat.le_refl _))).mono ?_
  rintro e w1 ⟨rfl, hb1⟩
  have HB1 := Lib.hid hb1
  have HE1 := Lib.hid ((HE.out.up HE.out.size (Nat.le_refl _)).below hb1)
  clear hb1
  by_cases hbig2 : 700 < NB
  · have hb2 : (700 : Int) < (NB : Int) := by omega
    clear hbig2
    go_wp2
    rw [← HP.out]
    first
      | exact ⟨rfl, HB1.out⟩
      | (go_ret; exact ⟨rfl, HB1.out⟩)
  have hq2 : ¬ (700 : Int) < (NB : Int) := by omega
  have HSM : Hid (NB ≤ 700) := Lib.hid (by omega)
  clear hbig2
  go_wp2_with fail
  clear hq2
  refine (vnew_any (L := fun _ => False) (HE1.out.up HE1.out.size (Nat.le_refl _)) (fun _ h => h.elim) 100).mono ?_
  rintro e w2 ⟨⟨p, rfl, hv2, hpv⟩, hb2⟩
  have V2 := Lib.hid hv2
  have HB2 := Lib.hid hb2
  clear hv2 hb2 hpv
  have HCW : Hid (w.heap.size ≤ w1.heap.size) := Lib.hid HB1.out.size
  have BLW : Hid (∀ wr, KV w1.heap.size (fun _ => False) NoB w2 wr → Below w.heap.size w wr) := Lib.hid fun wr h => HB1.out.trans ((HB2.out.trans (h.below HB2.out.size)).mono HB1.out.size)
  go_wp2_with fail
  refine (vopen_new V2.out (x := pF) pF_look).mono ?_
  rintro e w3 ⟨rfl, h3, k3⟩
  rw [open_new (by decide)] at h3 ⊢
  have V3 := Lib.hid h3
  have K3 := Lib.hid k3
  clear h3 k3
  rw [errOf_zero]
  obtain ⟨g, hwr, hl, hw, hrd⟩ := links_write (b := b) (by have := HSM.out; have := HNB.out; omega)
  have HWR := Lib.hid hwr
  have HG := Lib.hid (And.intro hl (And.intro hw hrd))
  clear hwr hl hw hrd
  have RBA := Lib.hid (HR1.out.below (BLW.out _ K3.out))
  have SA : Hid (SlK w1.heap.size (fun _ => False) w3 sp1 b) := Lib.hid (fun h0 => by
    obtain ⟨sp', cap', he, hd⟩ := RBA.out
    injection he with e1 e2 e3
    subst e1
    rcases hd with hd | ⟨h, off, e4, e5, e6⟩
    · rw [hd] at h0; simp at h0
    · exact ⟨h, off, e4, .inl (Nat.lt_of_lt_of_le (HS1.out (fun e => by rw [e] at h0; simp at h0) h off none e4) HCW.out), e5, e6⟩)
  go_wp2_with fail
  have hWC := vwrite_any (b := b) (cap := cap1) V3.out (fd := 0) (x := ⟨2, 0⟩) rfl (r := ⟨⟨2, 1, 1, 0, noText, 0⟩, []⟩) rfl rfl (fun i h => by cases h) SA.out HCAP.out.1 HCAP.out.2
  rw [HWR.out, HNB.out] at hWC
  refine hWC.mono ?_
  rintro e w4 ⟨rfl, h4, k4⟩
  have V4 := Lib.hid h4
  have K4 := Lib.hid (K3.out.trans k4)
  clear h4 k4 hWC SA RBA
  rw [errOf_zero]
  go_wp2_with fail
  refine (vlink_any V4.out pF pG).mono ?_
  rintro e w5 ⟨rfl, h5, k5⟩
  rw [lkv_link] at h5 ⊢
  have V5 := Lib.hid h5
  have K5 := Lib.hid (K4.out.trans k5)
  clear h5 k5
  rw [errOf_zero]
  go_wp2_with fail
  refine (vsymlink_any V5.out pG pL).mono ?_
  rintro e w6 ⟨rfl, h6, k6⟩
  rw [lkv_sym1] at h6 ⊢
  have V6 := Lib.hid h6
  have K6 := Lib.hid (K5.out.trans k6)
  clear h6 k6
  rw [errOf_zero]
  go_wp2_with fail
  refine (vsymlink_any V6.out txNone pM).mono ?_
  rintro e w7 ⟨rfl, h7, k7⟩
  rw [lkv_sym2] at h7 ⊢
  have V7 := Lib.hid h7
  have K7 := Lib.hid (K6.out.trans k7)
  clear h7 k7
  rw [errOf_zero]
  go_wp2_with fail
  obtain ⟨S, hS⟩ : ∃ S, w7.heap.size = S := ⟨_, rfl⟩
  obtain ⟨w8, hw8⟩ : ∃ w8, w8 = w7.alloc (.cells #[.string pF, .string pG, .string pL] 9) := ⟨_, rfl⟩
  have hb8 : Below w7.heap.size w7 w8 := by rw [hw8]; exact bl_alloc (Below.refl _ _) _
  have hr8 : Row w8 S 9 [.string pF, .string pG, .string pL] := by rw [hw8, ← hS]; exact Row.new _ _ _
  have V8 := Lib.hid (V7.out.below hb8)
  have K8 := Lib.hid (K7.out.then hb8)
  have R8 := Lib.hid hr8
  have HW8 := Lib.hid hw8
  have HS := Lib.hid hS
  clear hb8 hr8 hw8 hS
  rw [← HW8.out]
  simp only [HS.out]
  refine (number_any z 3 (by decide) w8).mono ?_
  rintro e w' ⟨rfl, hww⟩
  subst hww
  obtain ⟨M, hM⟩ : ∃ M : Nat, z % 3 = M := ⟨(z % 3).toNat, by omega⟩
  have hM3 : M < 3 := by omega
  rw [hM]
  obtain ⟨x, hc, hx⟩ : ∃ x : ByteArray, w8.cell? ⟨S, M, none⟩ = some (.string x) ∧ (x = pF ∨ x = pG ∨ x = pL) := by
    rw [R8.out.cell]
    have h3 : M = 0 ∨ M = 1 ∨ M = 2 := by omega
    rcases h3 with rfl | rfl | rfl
    · exact ⟨pF, rfl, .inl rfl⟩
    · exact ⟨pG, rfl, .inr (.inl rfl)⟩
    · exact ⟨pL, rfl, .inr (.inr rfl)⟩
  have hM4 : (M : Int) < 3 := Int.ofNat_lt.2 hM3
  have HX := Lib.hid hx
  clear hM hx
  go_wp2_with fail
  refine (number_any z 2 (by decide) w8).mono ?_
  rintro e w' ⟨rfl, hww⟩
  subst hww
  obtain ⟨y, hy⟩ : ∃ y, z % 2 = y := ⟨_, rfl⟩
  rw [hy]
  clear hy hc hM3 hM4
  go_wp2_with fail
  refine (vopen_old V8.out (x := x) (n := ⟨2, 1, 2, NB, noText, 0⟩) (lk_look x HX.out) rfl (r := ⟨⟨2, 1, 2, NB, noText, 0⟩, []⟩) rfl rfl (in64_of (by show (0 : Int) ≤ 2; decide) (by show (2 : Int) ≤ 16777215; decide)) lk_fd).mono ?_
  rintro e w9 ⟨rfl, h9, k9⟩
  have V9 : Hid (VAt E w1.heap.size (fun _ => False) p (lkO NB g NB 0) w9) := Lib.hid h9
  have K9 := Lib.hid (K8.out.trans k9)
  clear h9 k9
  obtain ⟨P, hrd⟩ := links_read (pos := (NB : Int)) (b := b) (by have := HSM.out; have := HNB.out; omega) HG.out.1 HG.out.2.2
  rw [HNB.out] at hrd
  go_wp2_with fail
  refine (vread_any V9.out (fd := 1) (x := ⟨2, 0⟩) rfl (r := ⟨⟨2, 1, 2, NB, noText, 0⟩, []⟩) rfl HG.out.1 (m := 1000) (in64_of (by decide) (by decide)) (by decide)).mono ?_
  rintro e wa ⟨⟨v, rfl, hs⟩, ha, ka⟩
  rw [hrd] at ha hs ⊢
  obtain ⟨sp, cap, hv⟩ := hs.shape
  rw [show b.length = NB from HNB.out] at hv
  subst hv
  have VA0 := Lib.hid ha
  have KA0 := Lib.hid (K9.out.trans ka)
  have HSV := Lib.hid hs
  clear hs ha ka hrd
  rw [errOf_zero]
  go_wp2_with fail
  refine (vstat_any VA0.out (x := x) (fo := true) (n := ⟨2, 1, 2, NB, noText, 0⟩) (lk_look x HX.out)).mono ?_
  rintro e wb ⟨rfl, hb, kb⟩
  obtain ⟨T, hT⟩ : ∃ T : Int, (nBlk g : Int) = T := ⟨_, rfl⟩
  have hst : staC (statN (lkO NB g NB P) ⟨2, 1, 2, NB, noText, 0⟩) = .agg #[.int .i64 2, .int .i64 1, .int .i64 2, .int .i64 NB, .int .i64 T] := by rw [← hT]; rfl
  rw [hst]
  obtain ⟨D, hD⟩ : ∃ D, wb.heap.size = D := ⟨_, rfl⟩
  obtain ⟨wc, hwc⟩ : ∃ wc, wc = wb.alloc (.cells #[.int .i64 2, .int .i64 1, .int .i64 2, .int .i64 NB, .int .i64 T] 35) := ⟨_, rfl⟩
  have hbc : Below wb.heap.size wb wc := by rw [hwc]; exact bl_alloc (Below.refl _ _) _
  have RC : Hid (Row wc D 35 [.int .i64 2, .int .i64 1, .int .i64 2, .int .i64 NB, .int .i64 T]) := Lib.hid (by rw [hwc, ← hD]; exact Row.new _ _ _)
  have VC0 := Lib.hid (hb.below hbc)
  have KC := Lib.hid ((KA0.out.trans kb).then hbc)
  have KS := Lib.hid (kb.then hbc)
  have HWC := Lib.hid hwc
  have HD := Lib.hid hD
  clear hb kb hT hst hD hwc hbc
  go_wp2_with fail
  rw [← HWC.out]
  simp only [HD.out]
  refine (vopen_new VC0.out (x := pM) lk_none).mono ?_
  rintro e wd ⟨rfl, hd, kd⟩
  rw [links_open] at hd ⊢
  have VD := Lib.hid hd
  have KD := Lib.hid (KC.out.trans kd)
  have KS2 := Lib.hid (KS.out.trans kd)
  have RD := Lib.hid (RC.out.kv (plainI _ _) kd)
  clear hd kd
  go_wp2_with fail
  have hRL := vreadlink_any VD.out (x := pL) (n := ⟨3, 3, 1, 0, pG, 0⟩) lk_l
  rw [if_pos rfl, if_pos rfl, errOf_zero] at hRL
  refine hRL.mono ?_
  rintro e we ⟨rfl, he, ke⟩
  have VE := Lib.hid he
  have KE := Lib.hid (KD.out.trans ke)
  have KS3 := Lib.hid (KS2.out.trans ke)
  have RE := Lib.hid (RD.out.kv (plainI _ _) ke)
  clear he ke hRL
  go_wp2_with fail
  have hRL := vreadlink_any VE.out (x := pF) (n := ⟨2, 1, 2, NB, noText, 0⟩) lk_f
  rw [if_neg (show ¬ ((1 : Int) = 3) by decide), if_neg (show ¬ ((1 : Int) = 3) by decide)] at hRL
  refine hRL.mono ?_
  rintro e wf ⟨rfl, hf, kf⟩
  have VF := Lib.hid hf
  have KF := Lib.hid (KE.out.trans kf)
  have RVF := Lib.hid (HSV.out.rdKV HNB.out (KS3.out.trans kf))
  have RF := Lib.hid (RE.out.kv (plainI _ _) kf)
  clear hf kf hRL
  go_wp2_with fail
  have RBF := HR1.out.below (BLW.out _ KF.out)
  rw [HNB.out] at RBF
  have hSB := samebytes_any RVF.out RBF (by have := HSM.out; have := HNB.out; omega)
  rw [decide_eq_true rfl] at hSB
  refine hSB.mono ?_
  rintro e wg ⟨rfl, hbg⟩
  have VG := Lib.hid (VF.out.below hbg)
  have KG := Lib.hid (KF.out.then hbg)
  have rg := RF.out.below hbg
  have x0 := rg.cell' (i := 0) rfl
  have x2 := rg.cell' (i := 2) rfl
  have xl := rg.lt
  clear hbg hSB RBF rg
  go_wp2_with fail
  refine (is_of 109 109 (by decide) wg VG.out.env.toEnv).mono ?_
  rintro e wh ⟨rfl, hbh⟩
  rw [show ((109 : Int) == 109) = true from rfl]
  have VH := Lib.hid (VG.out.below hbh)
  have KH := Lib.hid (KG.out.then hbh)
  clear hbh x0 x2 xl
  go_wp2_with fail
  refine (is_of 114 114 (by decide) wh VH.out.env.toEnv).mono ?_
  rintro e wi ⟨rfl, hbi⟩
  rw [show ((114 : Int) == 114) = true from rfl]
  have KI := Lib.hid (KH.out.then hbi)
  clear hbi
  go_wp2
  rw [← HP.out]
  have hb := BLW.out _ KI.out
  first
    | exact ⟨rfl, hb⟩
    | (go_ret; exact ⟨rfl, hb⟩)
end
end Go.Proofs.YthhipeceeagpnaaGreatDoor
end

section
/- What the card of VolLinks asks beside the walk. -/
namespace Go.Proofs.YthhipeceeagpnaaGreatDoor.volLinks
open Go.ChangeShapes Go.WideShapes Go.ChangeAt Go.RowKit
set_option maxRecDepth 100000

theorem own : ownKnob Tryz.prog.godebug = none := by kernel_rfl
theorem door_met (os : Os) (args : Array Value) : laidMetH Tryz.prog Rows.volLinksRow.laid ((World.laidAll Tryz.prog os Rows.volLinksRow.laid).forCall (fun _ _ => 0) ⟨#[], args, []⟩).memory := by
  rw [MakeChecks.laidMetH_plain _ _ _ (by kernel_rfl)]
  exact laidMet_laidAll _ (by kernel_rfl) (by kernel_rfl)
theorem joined : joinedFacts Tryz.prog 8 Tryz.f8 Rows.volLinksSpec Rows.volLinksRow = true := by
  unfold joinedFacts
  rw [seat_laidOut, seat_mapsRowed, seat_stopsHeard, seat_mayEnter, seat_plainKeys, seat_lifted, seat_make]
  kernel_rfl
theorem inst : Tryz.f8.isInstance Tryz.prog Rows.volLinksRow.origin Rows.volLinksRow.targs := of_decide_eq_true (by kernel_rfl)
theorem wrap : Tryz.f8.isWrapper Tryz.prog Rows.volLinksRow.wrapper Rows.volLinksRow.mainSum := by
  unfold Func.isWrapper
  first | (rw [if_pos (by decide +kernel)]; kernel_rfl) | (rw [if_neg (by decide +kernel)]; exact ⟨rfl, rfl⟩)
end Go.Proofs.YthhipeceeagpnaaGreatDoor.volLinks
end

section
namespace Go.Proofs.YthhipeceeagpnaaGreatDoor.volLinks
open Go.ChangeShapes Go.WideShapes Go.ChangeAt Go.RowKit
set_option maxRecDepth 100000

theorem lifted (os : Os) (started : os.Started) (H : Type) (enc : TypeId × Value → H) :
    ReturnsInHanded {} Tryz.checked os 8 .any (fun w args => (Rows.volLinksSpec.pre enc Tryz.prog Tryz.f8 [] false w args ∧ laidMetH Tryz.prog Rows.volLinksRow.laid w) ∧ sizedMet enc Tryz.prog Tryz.f8 (OpenSpec.ofChange Rows.volLinksSpec) false w args)
      (Rows.volLinksSpec.post enc Tryz.prog Tryz.f8 false true false false) := by
  refine handed_and_shaped (C := Tryz.checked) (X := fun w _ => laidMetH Tryz.prog Rows.volLinksRow.laid w) (fun _ _ _ hh h => h.of_heap hh) own started (by kernel_rfl) Tryz.func8
    (ChangeSpec.witness_shaped (enc := enc) (C := Tryz.checked) (os := os) (X := fun w _ => laidMetH Tryz.prog Rows.volLinksRow.laid w) false (World.laidAll Tryz.prog os Rows.volLinksRow.laid) #[.slice none 0 0, .int .i64 0] 8 (World.laidAll_os _ _ _) (World.shaped_of_ZipB (by kernel_rfl) (by kernel_rfl)) (by kernel_rfl) (by kernel_rfl) (by kernel_rfl) (door_met os _)) ?_
  intro W base args ds gs before hval0 hW _ _ hL hSh _
  have hval : ∀ (j : Nat) t v, Tryz.f8.params[j]? = some t → args[j]? = some v → Value.okWide Tryz.prog W .any base t v := hval0
  have hW' := hW
  obtain ⟨p, q, hA0, hV, rfl, hfz, hnd⟩ := hW
  have hA : DataW.TrodAll enc Tryz.prog W 0 (fun _ => true) true Tryz.f8.params.toList args.toList ds p := hA0
  rw [Tryz.params8] at hA hval
  obtain ⟨v0, vs0, d0, ds0, p0, q0, hargs, rfl, rfl, h0, r0⟩ := trodAll_cons hA
  obtain ⟨v1, vs1, d1, ds1, p1, q1, rfl, rfl, rfl, h1, r1⟩ := trodAll_cons r0
  obtain ⟨rfl, rfl, rfl⟩ := trodAll_nil r1
  obtain rfl : args = #[v0, v1] := by cases args; simp_all
  obtain ⟨rfl, rfl⟩ := trodVars_none hV
  have hW0 := hW'
  simp only [List.append_nil] at hW0
  have hlt := fun x hx => by simpa using hW0.lt x hx
  have hl0 : ∀ x ∈ p0, x.block < W.heap.size := fun x hx => hlt x (by simp [hx])
  have k0 : ∀ (W' : World), Below W.heap.size W W' → DataW.Trod enc Tryz.prog W' 0 (fun b => decide (b < W.heap.size)) true 32 v0 d0 p0 := fun W' hn => Below.trod seat_laidOut (by kernel_rfl) (of_decide_eq_true (by kernel_rfl)) h0 hn hl0
  obtain ⟨sp0, cap0, a0, rfl, rd0, hs0, wr0, wl0⟩ := open_bytes_arg (hval 0 32 v0 rfl rfl) h0 hl0
  obtain ⟨a1, rfl, rfl, rfl, w1⟩ := open_int Tryz.underlying3 (hval 1 3 v1 rfl rfl) h1
  obtain ⟨E, hE0⟩ := env_of_laid_mid 1 24 hL (by kernel_rfl) (by kernel_rfl) (by kernel_rfl)
  have hE := envM_of hE0 hSh

  clear hA0 hval0
  simp only [List.append_nil] at hW'
  refine (vollinks_any rd0 hs0 wl0 (open_room_arg (hval 0 32 _ rfl rfl) h0) a1 hE).mono fun e W' ⟨he, bel⟩ => ?_
  subst he
  refine ⟨_, rfl, _, _, _, [], p0 ++ ([] ++ ([])), [], hW', trodAll_mk1 (shut_bool Tryz.underlying4 _), ?_, rfl, bel.frame _, fun h => by cases h⟩
  exact trodAll_cons_mk (k0 _ bel) (trodAll_cons_mk (shut_int Tryz.underlying3 w1) trodAll_mk0)
theorem over : Rows.volLinksRow.holds Tryz.pinned (OpenSpec.ofChange Rows.volLinksSpec) :=
  OpenClaim.holds_of_wide 8 Tryz.f8 rfl rfl rfl rfl rfl rfl rfl ⟨rfl, rfl, rfl, rfl, rfl⟩ rfl rfl rfl rfl rfl (by kernel_rfl) Tryz.func8 joined inst wrap
    (fun os started H enc _ => lifted os started H enc)
theorem proved : Rows.VolLinksCardSaid :=
  Claim7.holds_tied_plain_at .later [] Rows.volLinksCard.laidKinds true Rows.volLinksCard.stood.harness true
    over (fun _ h => by cases h) (by kernel_rfl) (fun _ h => by cases h) volLinks_row_tie rfl ⟨rfl, rfl⟩ (by kernel_rfl) rfl
    (fun f fn hf hfn => by
      obtain rfl : f = 8 := Option.some.inj ((show Tryz.prog.funcNamed "breviary/breviarylaw21.VolLinks" = some 8 by kernel_rfl).symm.trans hf) |>.symm
      obtain rfl : fn = Tryz.f8 := (Option.some.inj (Tryz.func8.symm.trans hfn)).symm
      exact ⟨by kernel_rfl, fun j t ht => by
        rw [Tryz.params8] at ht
        have hm : t ∈ [32, 3] := by
          have := Array.mem_of_getElem? ht
          simpa using this
        have hall : [32, 3].all (fun t => !(Tryz.prog.wantsStandIn t)) = true := by kernel_rfl
        have h := (List.all_eq_true.1 hall) t hm
        simp only [Bool.not_eq_true'] at h
        exact h⟩)
    (by kernel_rfl)
#print axioms proved
end Go.Proofs.YthhipeceeagpnaaGreatDoor.volLinks
end
