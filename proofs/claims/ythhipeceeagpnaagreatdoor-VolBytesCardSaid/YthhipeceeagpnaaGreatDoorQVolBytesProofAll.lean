/- PROVED: Rows.VolBytesCardSaid: for every input the law VolBytes returns true, and each argument reads as before. Conditions: none beyond the listed package variables, which the card ties to the program's text. -/
import Derived.Test.YthhipeceeagpnaaGreatDoorQYBase45
import Derived.Test.YthhipeceeagpnaaGreatDoorQYBase42
import Derived.Test.YthhipeceeagpnaaGreatDoorRows
import Derived.Test.YthhipeceeagpnaaGreatDoorCards
import Derived.Test.YthhipeceeagpnaaGreatDoorTie
import Derived.Test.YthhipeceeagpnaaGreatDoorQYBase05
import Derived.Test.YthhipeceeagpnaaGreatDoorQYBase06
import Derived.Test.YthhipeceeagpnaaGreatDoorQYBase28
import Derived.Test.YthhipeceeagpnaaGreatDoorQYBase29
import Derived.ProofKit
import Derived.OpenShut
import Derived.ChangeOld
import Derived.LaidMore
import Derived.ChangeSame
import Derived.ChangeVars
import Derived.JoinedOf
import Derived.Lay
import Derived.MakeChecks
import Derived.SevenTiedAt
import Derived.Stop.Joined
import Derived.ChangeMaps5
import Derived.Test.YthhipeceeagpnaaGreatDoorQYBase15
import Derived.Test.YthhipeceeagpnaaGreatDoorQYBase46
section
/- The walk of VolBytes. -/
namespace Go.Proofs.YthhipeceeagpnaaGreatDoor
open Go Go.RowKit
set_option maxRecDepth 100000
set_option linter.unusedSimpArgs false
set_option linter.unusedVariables false
attribute [local go_sem] giv
theorem rdB_cut {w : World} {c l n cap : Nat} {H : List Int} (r : Row w c 5 (H.map (Value.int .u8))) (h : l + n ≤ H.length) : RdB w (.slice (some ⟨c, l, none⟩) n cap) ((H.drop l).take n) := by
  have hl : ((H.drop l).take n).length = n := by rw [List.length_take, List.length_drop]; omega
  refine ⟨some ⟨c, l, none⟩, cap, by rw [hl], .inr ⟨c, l, rfl, r.lt, fun i hi => ?_⟩⟩
  rw [hl] at hi
  rw [r.cell, List.getElem?_map, List.getElem?_eq_getElem (by omega), getD_take, if_pos hi, List.getD_eq_getElem?_getD, List.getElem?_drop, List.getElem?_eq_getElem (by omega)]
  rfl
theorem bytes_write {H g sz} (h : Has H g sz) {A n : Nat} {b : List Int} (hA : A < 15000) (hn : n ≤ b.length) (hb : b.length ≤ 700) : ∃ (g' : Nat → FBlk) (sz' P' : Int), writeV (fileV nmF g sz A 400) 0 (b.take n) = (0, (n : Int), fileV nmF g' sz' P' 400) ∧ Has (spl H A (b.take n)) g' sz' := by
  have hl : (b.take n).length = n := by rw [List.length_take]; omega
  by_cases h0 : n = 0
  · subst h0
    refine ⟨g, sz, A, ?_, by rw [List.take_zero, spl_nil]; exact h⟩
    rw [List.take_zero]
    exact file_none
  · refine ⟨layAt g A (b.take n), max sz ((A : Int) + (b.take n).length), (A : Int) + (b.take n).length, ?_, h.laid (p := A) (b := b.take n) (by omega)⟩
    have hne : b.take n ≠ [] := fun e => by rw [e] at hl; simp at hl; omega
    rw [file_write (b := b.take n) (by omega) (by omega) hne (by omega) h.lost (by
      have := nBlk_le (layAt g (A : Int).toNat (b.take n))
      omega)]
    rw [Int.toNat_natCast]
    simp only [hl]
theorem bytes_read {H g} (h : Has H g 16000) {r : Nat} (hr : r < 16) : readV (fileV nmF g 16000 ((1000 * r : Nat) : Int) 400) 0 1000 = (0, (H.drop (1000 * r)).take 1000, fileV nmF g 16000 ((1000 * (r + 1) : Nat) : Int) 400) := by
  have hf := file_read (nm := nmF) (g := g) (sz := 16000) (pos := ((1000 * r : Nat) : Int)) (q := 400) (n := 1000) (by omega) (by decide) (by decide) (by omega) h.lost
  have hk : (min (min (1000 : Int) 1024) ((16000 : Int) - ((1000 * r : Nat) : Int))).toNat = 1000 := by omega
  have hk2 : ((1000 * r : Nat) : Int) + min (min (1000 : Int) 1024) ((16000 : Int) - ((1000 * r : Nat) : Int)) = ((1000 * (r + 1) : Nat) : Int) := by omega
  rw [hk, hk2, Int.toNat_natCast, h.read (by omega)] at hf
  exact hf
section
variable {E : Nat → Addr} {B : Nat} {w w' : World}
set_option maxHeartbeats 8000000 in
theorem volbytes_any {sp0 : Option Addr} {n0 cap0 : Nat} {I0 : List Int} (r0 : RdE w 1 encI1 (.slice sp0 n0 cap0) I0) (l0 : I0.length ≤ maxLen) {sp1 : Option Addr} {cap1 : Nat} {b : List Int} (r1 : RdB w (.slice sp1 b.length cap1) b) (hs1 : b ≠ [] → ∀ h off s, sp1 = some ⟨h, off, s⟩ → h < w.heap.size) (l1 : b.length ≤ maxLen) (hcap : b.length ≤ cap1 ∧ cap1 ≤ maxLen) (z : Int) (hE : EnvM E B w) (hBw : B ≤ w.heap.size) :
    Calls Tryz.prog 6 #[.slice sp0 n0 cap0, .slice sp1 b.length cap1, .int .i64 z] w fun e w' => e = .returned (.bool true) ∧ Below w.heap.size w w' := by
  have hn0 := r0.len.1
  have hc0 := r0.len.2
  subst hn0
  have HE := Lib.hid hE
  have HR0 := Lib.hid r0
  have HR1 := Lib.hid r1
  have HS1 := Lib.hid hs1
  have HCAP := Lib.hid hcap
  generalize hP : (fun (e : Ending) (w' : World) => e = .returned (.bool true) ∧ Below w.heap.size w w') = Post
  have HP := Lib.hid hP
  obtain ⟨NI, hNI⟩ : ∃ NI, I0.length = NI := ⟨_, rfl⟩
  obtain ⟨NB, hNB⟩ : ∃ NB, b.length = NB := ⟨_, rfl⟩
  have HNI := Lib.hid hNI
  have HNB := Lib.hid hNB
  have HL0 : Hid (NI ≤ maxLen ∧ NB ≤ maxLen ∧ NI ≤ cap0) := Lib.hid ⟨by omega, by omega, by omega⟩
  rw [hNI, hNB]
  clear hP hE r0 r1 hs1 hcap hNI hNB l0 l1 hc0
  go_enter Tryz.func6, Tryz.ntmps6
  go_wp2_with fail
  refine (first_any (HE.out.up HE.out.size (Nat.le_refl _))).mono ?_
  rintro e w1 ⟨rfl, hb1⟩
  have HB1 := Lib.hid hb1
  have HE1 := Lib.hid ((HE.out.up HE.out.size (Nat.le_refl _)).below hb1)
  clear hb1
  by_cases hbig : 20 < NI
  · have hb1 : (20 : Int) < (NI : Int) := by omega
    clear hbig
    go_wp2
    rw [← HP.out]
    first
      | exact ⟨rfl, HB1.out⟩
      | (go_ret; exact ⟨rfl, HB1.out⟩)
  by_cases hbig2 : 700 < NB
  · have hb1 : ¬ (20 : Int) < (NI : Int) := by omega
    have hb2 : (700 : Int) < (NB : Int) := by omega
    clear hbig hbig2
    go_wp2
    rw [← HP.out]
    first
      | exact ⟨rfl, HB1.out⟩
      | (go_ret; exact ⟨rfl, HB1.out⟩)
  have hq1 : ¬ (20 : Int) < (NI : Int) := by omega
  have hq2 : ¬ (700 : Int) < (NB : Int) := by omega
  have HSM : Hid (NI ≤ 20 ∧ NB ≤ 700) := Lib.hid (by omega)
  clear hbig hbig2
  go_wp2_with fail
  clear hq1 hq2
  refine (vnew_any (L := fun _ => False) (HE1.out.up HE1.out.size (Nat.le_refl _)) (fun _ h => h.elim) 400).mono ?_
  rintro e w2 ⟨⟨p, rfl, hv2, hpv⟩, hb2⟩
  have V2 := Lib.hid hv2
  have HB2 := Lib.hid hb2
  clear hv2 hb2 hpv
  go_wp2_with fail
  refine (vopen_new V2.out (x := pF) pF_look).mono ?_
  rintro e w3 ⟨rfl, h3, k3⟩
  rw [open_new (by decide)] at h3 ⊢
  have V3 := Lib.hid h3
  have K3 := Lib.hid k3
  clear h3 k3
  rw [errOf_zero]
  go_wp2_with (at_make; refine wpList_mk _ rfl _ _ _ rfl 5 (.int .u8 0) 1 Tryz.underlying32 u8_info rfl 20000 rfl rfl (by omega) (by unfold maxLen; omega) ?_; intro w5 hr5 hb5; have HR5 := Lib.hid hr5; have HB5 := Lib.hid hb5; clear hr5 hb5)
  obtain ⟨H0, hH0⟩ : ∃ H0, List.replicate 20000 (0 : Int) = H0 := ⟨_, rfl⟩
  have hr0 : Row w5 w3.heap.size 5 (H0.map (Value.int .u8)) := by
    rw [← hH0, List.map_replicate]
    exact HR5.out
  have hhas : Has H0 (fun _ => none) 0 := by rw [← hH0]; exact Has.start
  clear hH0 HR5
  obtain ⟨C, hC⟩ : ∃ C, w3.heap.size = C := ⟨_, rfl⟩
  rw [hC] at hr0
  have R5 := Lib.hid hr0
  have HH0 := Lib.hid hhas
  have HC := Lib.hid hC
  simp only [HC.out]
  obtain ⟨L1, hL1⟩ : ∃ L1 : Nat → Prop, L1 = fun y => y = C := ⟨_, rfl⟩
  have HL1 : Hid (L1 C) := Lib.hid (by rw [hL1])
  have HBC : Hid (w1.heap.size ≤ C) := Lib.hid (by rw [← hC]; exact V3.out.hB)
  have V5 : Hid (VAt E w1.heap.size L1 p (fileV nmF (fun _ => none) 0 0 400) w5) := Lib.hid (V3.out.loc HB5.out (fun y hy => by
    rw [hL1] at hy
    subst hy
    right
    exact ⟨by omega, hr0.lt⟩) (fun y hy => hy.elim))
  have K5 := Lib.hid (K3.out.then HB5.out)
  have HCW : Hid (w2.heap.size ≤ C ∧ w.heap.size ≤ w1.heap.size) := Lib.hid ⟨by rw [← hC]; exact Touch.size K3.out, HB1.out.size⟩
  have KL : Hid (∀ a c, KV w1.heap.size L1 NoB a c → KV w1.heap.size (fun _ => False) NoB a c) := Lib.hid fun a c h => h.less fun x hx => hx.elim
  have BLW : Hid (∀ wr, KV w1.heap.size (fun _ => False) NoB w2 wr → Below w.heap.size w wr) := Lib.hid fun wr h => HB1.out.trans ((HB2.out.trans (h.below HB2.out.size)).mono HB1.out.size)
  clear hr0 hhas hC hL1 HB5
  go_loopw [12, 13, 14, 15, 16, 17, 18] (fun v12 v13 _ _ _ _ _ wr => ∃ (i : Nat) (en : Int) (H : List Int) (g : Nat → FBlk) (sz P : Int), v13 = .int .i64 i ∧ v12 = .int .i64 en ∧ (0 ≤ en ∧ en ≤ 20000) ∧ i ≤ NI ∧ Has H g sz ∧ VAt E w1.heap.size L1 p (fileV nmF g sz P 400) wr ∧ KV w1.heap.size (fun _ => False) NoB w2 wr ∧ Row wr C 5 (H.map (Value.int .u8))) (fun _ v13 _ _ _ _ _ _ => NI - (intOf v13).toNat)
  case atStart => exact ⟨0, 0, _, _, _, _, rfl, rfl, ⟨by omega, by omega⟩, Nat.zero_le _, HH0.out, V5.out, K5.out, R5.out⟩
  case round =>
    obtain ⟨i, en, H, g, sz, P, rfl, rfl, hen, hi, hh, hv, hk, hr⟩ := hrel
    have HEN := Lib.hid hen
    have HI := Lib.hid hi
    have HH := Lib.hid hh
    have HV := Lib.hid hv
    have HK := Lib.hid hk
    have HRW := Lib.hid hr
    clear hen hi hh hv hk hr
    by_cases hlt : i < NI
    case pos =>
      have hlt2 : (i : Int) < (NI : Int) := by omega
      have HLT := Lib.hid hlt
      have hne : I0 ≠ [] := fun e => by have := HNI.out; rw [e] at this; simp at this; omega
      obtain ⟨sp', cap', he, h1, h2, h3⟩ := HR0.out.below (BLW.out _ HK.out)
      injection he with e1 e2 e3
      subst e1 e3
      obtain ⟨h, off, rfl, h5, h6⟩ := h3 hne
      have hc := h6 i 0 (by rw [HNI.out]; exact hlt) (by decide)
      rw [List.getElem?_eq_getElem (by rw [HNI.out]; exact hlt)] at hc
      obtain ⟨xi, hxi⟩ : ∃ xi, I0[i]'(by rw [HNI.out]; exact hlt) = xi := ⟨_, rfl⟩
      rw [hxi] at hc
      simp only [Nat.mul_one, Nat.add_zero] at hc
      have hc' : wr.cell? ⟨h, off + i, none⟩ = some (.int .i64 xi) := hc
      have hcl : i < cap0 := by have := HL0.out; omega
      clear hne h1 h2 h3 h6 hc hxi e2 hlt
      have hnb : wrap64 ((NB : Int) + 1) = (NB : Int) + 1 := by have := HSM.out; unfold wrap64; omega
      go_wp2_with fail
      refine (number_any xi 15000 (by decide) wr).mono ?_
      rintro e w' ⟨rfl, hww⟩
      subst hww
      obtain ⟨A, hA⟩ : ∃ A : Nat, xi % 15000 = A := ⟨(xi % 15000).toNat, by omega⟩
      rw [hA]
      have HA : Hid (A < 15000) := Lib.hid (by omega)
      clear hA
      go_wp2_with fail
      refine (number_any _ ((NB : Int) + 1) (by have := HSM.out; omega) wr).mono ?_
      rintro e w' ⟨rfl, hww⟩
      subst hww
      obtain ⟨X, hX⟩ : ∃ X, wrap64 (xi.tdiv 7) = X := ⟨_, rfl⟩
      rw [hX]
      obtain ⟨n, hn⟩ : ∃ n : Nat, X % ((NB : Int) + 1) = n := ⟨(X % ((NB : Int) + 1)).toNat, by have := Int.emod_nonneg X (show ((NB : Int) + 1) ≠ 0 by omega); omega⟩
      rw [hn]
      have HN : Hid (n ≤ NB) := Lib.hid (by have := Int.emod_lt_of_pos X (show (0 : Int) < (NB : Int) + 1 by omega); omega)
      clear hX hn hc' hcl hnb
      go_wp2_with fail
      refine (vseek_any HV.out 0 (in64_of (by decide) (by decide)) (q := (A : Int)) (in64_of (by omega) (by have := HA.out; omega))).mono ?_
      rintro e wa ⟨rfl, ha, ka⟩
      rw [file_seek (by omega) (by have := HA.out; omega)] at ha ⊢
      have VA0 := Lib.hid ha
      have KA0 := Lib.hid (HK.out.trans (KL.out _ _ ka))
      have RA := Lib.hid (HRW.out.keep (Touch.block ka C HRW.out.lt (fun hs => by
        rcases hs with hs | hs
        · exact hs.2.1 HL1.out
        · exact hs.elim)))
      clear ha ka
      rw [errOf_zero]
      have hs1 : (n : Int) ≤ (cap1 : Int) := by have := HCAP.out; have := HN.out; have := HNB.out; omega
      have hs2 : (0 : Int) ≤ (n : Int) := by omega
      obtain ⟨g', sz', P', hwr, hh'⟩ := bytes_write HH.out (A := A) (n := n) (b := b) HA.out (by have := HN.out; have := HNB.out; omega) (by have := HSM.out; have := HNB.out; omega)
      have HWR := Lib.hid hwr
      have HH' := Lib.hid hh'
      have hlt : (b.take n).length = n := by rw [List.length_take]; have := HN.out; have := HNB.out; omega
      have HLT2 := Lib.hid hlt
      clear hwr hh' hlt
      have RBA := Lib.hid (HR1.out.below (BLW.out _ KA0.out))
      have SA : Hid (SlK w1.heap.size L1 wa sp1 (b.take n)) := Lib.hid (SlK.take (fun h0 => by
        obtain ⟨sp', cap', he, hd⟩ := RBA.out
        injection he with e1 e2 e3
        subst e1
        rcases hd with hd | ⟨h, off, e4, e5, e6⟩
        · rw [hd] at h0; simp at h0
        · exact ⟨h, off, e4, .inl (Nat.lt_of_lt_of_le (HS1.out (fun e => by rw [e] at h0; simp at h0) h off none e4) HCW.out.2), e5, e6⟩) n)
      go_wp2_with fail
      have hWC := vwrite_any (b := b.take n) (cap := cap1) VA0.out (fd := 0) (x := ⟨2, _⟩) rfl (r := ⟨⟨2, 1, 1, _, noText, 0⟩, []⟩) rfl rfl HH.out.lost SA.out (by rw [HLT2.out]; have := HCAP.out; have := HN.out; have := HNB.out; omega) HCAP.out.2
      rw [HLT2.out, HWR.out] at hWC
      refine hWC.mono ?_
      rintro e wb ⟨rfl, hb, kb⟩
      have VB := Lib.hid hb
      have KB := Lib.hid (KA0.out.trans (KL.out _ _ kb))
      have RB := Lib.hid (RA.out.keep (Touch.block kb C RA.out.lt (fun hs => by
        rcases hs with hs | hs
        · exact hs.2.1 HL1.out
        · exact hs.elim)))
      clear hb kb hWC SA RBA hs1 hs2
      rw [errOf_zero]
      go_wp2_with fail
      go_loopw [18] (fun v18 wc => ∃ j : Nat, v18 = .int .i64 j ∧ j ≤ n ∧ VAt E w1.heap.size L1 p (fileV nmF g' sz' P' 400) wc ∧ KV w1.heap.size (fun _ => False) NoB w2 wc ∧ Row wc C 5 ((spl H A (b.take j)).map (Value.int .u8))) (fun v18 _ => n - (intOf v18).toNat)
      case atStart => exact ⟨0, rfl, Nat.zero_le _, VB.out, KB.out, by rw [List.take_zero, spl_nil]; exact RB.out⟩
      case round =>
        obtain ⟨j, rfl, hj, hv, hk, hr⟩ := hrel
        have HJ := Lib.hid hj
        have HVJ := Lib.hid hv
        have HKJ := Lib.hid hk
        have HRJ := Lib.hid hr
        clear hj hv hk hr hlt2
        by_cases hjn : j < n
        case pos =>
          have hjn2 : (j : Int) < (n : Int) := by omega
          have HJN := Lib.hid hjn
          obtain ⟨sp', cap', he, hd⟩ := HR1.out.below (BLW.out _ HKJ.out)
          injection he with e1 e2 e3
          subst e1 e3
          have hb0 : b ≠ [] := fun e => by
            have h1 := HNB.out
            have h2 := HN.out
            rw [e] at h1
            simp only [List.length_nil] at h1
            omega
          rcases hd with hd | ⟨h2, off2, rfl, g5, g6⟩
          · exact absurd hd hb0
          have hc := g6 j (by have := HNB.out; have := HN.out; omega)
          obtain ⟨x, hx⟩ : ∃ x, b.getD j 0 = x := ⟨_, rfl⟩
          rw [hx] at hc
          have hA20 : A + j < 20000 := by have := HA.out; have := HSM.out; have := HN.out; omega
          have hjNB : (j : Int) < (NB : Int) := Int.ofNat_lt.2 (Nat.lt_of_lt_of_le HJN.out HN.out)
          have hj64 : j < 1000 := by have := HN.out; have := HSM.out; omega
          have hlen : ((spl H A (b.take j)).map (Value.int .u8)).length = 20000 := by
            rw [List.length_map, spl_len (by rw [List.length_take, HH.out.len]; clear hx hc; have := HNB.out; have := HN.out; omega)]
            exact HH.out.len
          obtain ⟨u, hu⟩ : ∃ u, wr.cell? ⟨C, A + j, none⟩ = some u := by
            rw [HRJ.out.cell, List.getElem?_eq_getElem (by rw [hlen]; exact hA20)]
            exact ⟨_, rfl⟩
          have hw1 : wrap64 ((j : Int) + 1) = ((j + 1 : Nat) : Int) := by clear hx hc hlen hu; unfold wrap64; omega
          have hwAj : wrap64 ((A : Int) + (j : Int)) = ((A + j : Nat) : Int) := by clear hx hc hlen hu hw1; unfold wrap64; omega
          have hul := HRJ.out.lt
          have HX := Lib.hid hx
          have HLEN := Lib.hid hlen
          obtain ⟨X, hX⟩ : ∃ X, A + j = X := ⟨_, rfl⟩
          rw [hX] at hu hwAj hA20
          have hf := HRJ.out.froz X
          have hXI : (X : Int) < 20000 := Int.ofNat_lt.2 hA20
          have HXE := Lib.hid hX
          have HW1 := Lib.hid hw1
          clear hx hlen hb0 e2 hjn g6 hj64 hw1 hX hA20
          go_wp2_with fail
          have hrow := HRJ.out.set X (.int .u8 x)
          have hset : ((spl H A (b.take j)).map (Value.int .u8)).set X (.int .u8 x) = (spl H A (b.take (j + 1))).map (Value.int .u8) := by
            rw [← List.map_set, ← HXE.out, ← HX.out, spl_set (by have := HNB.out; have := HN.out; have := HJN.out; omega) (by rw [HH.out.len]; have := HNB.out; have := HA.out; have := HSM.out; omega)]
          rw [hset] at hrow
          exact ⟨⟨j + 1, rfl, HJN.out, HVJ.out.set HL1.out HBC.out X _, Touch.setCell HKJ.out (.inr HCW.out.1) _, hrow⟩, meas_step HJN.out⟩
        case neg =>
          obtain rfl : j = n := by have := HJ.out; omega
          have hjn2 : ¬ ((j : Int) < (j : Int)) := by omega
          have HRN : Hid (Row wr C 5 ((spl H A (b.take j)).map (Value.int .u8))) := HRJ
          have hw1 : wrap64 ((i : Int) + 1) = ((i + 1 : Nat) : Int) := by have := HSM.out; have := HLT.out; unfold wrap64; omega
          have HW1 := Lib.hid hw1
          clear hjn HJ hw1
          by_cases hn0 : 0 < j
          case pos =>
            have hn1 : (0 : Int) < (j : Int) := by omega
            obtain ⟨en', hen'⟩ : ∃ en', max en ((A : Int) + (j : Int)) = en' := ⟨_, rfl⟩
            have HEN2 : Hid (0 ≤ en' ∧ en' ≤ 20000) := Lib.hid (by have := HEN.out; have := HA.out; have := HSM.out; have := HN.out; omega)
            have hwAj : wrap64 ((A : Int) + (j : Int)) = (A : Int) + (j : Int) := by have := HA.out; have := HSM.out; have := HN.out; clear hen'; unfold wrap64; omega
            rw [← hwAj] at hen'
            clear hwAj
            clear hn0
            go_wp2
            go_roundw
            case rel => exact ⟨i + 1, en', _, _, _, _, by rw [HW1.out], rfl, HEN2.out, HLT.out, HH'.out, HVJ.out, HKJ.out, HRN.out⟩
            case measure =>
              have h3 := HLT.out
              rw [HW1.out]
              simp only [intOf, Int.toNat_natCast]
              clear hjn2 hen'
              omega
          case neg =>
            have hn1 : ¬ (0 : Int) < (j : Int) := by omega
            clear hn0
            go_wp2
            go_roundw
            case rel => exact ⟨i + 1, en, _, _, _, _, by rw [HW1.out], rfl, HEN.out, HLT.out, HH'.out, HVJ.out, HKJ.out, HRN.out⟩
            case measure =>
              have h3 := HLT.out
              rw [HW1.out]
              simp only [intOf, Int.toNat_natCast]
              clear hjn2
              omega
    case neg =>
      obtain rfl : i = NI := by have := HI.out; omega
      have hlt2 : ¬ ((i : Int) < (i : Int)) := by omega
      clear hlt HI
      go_wp2_with fail
      refine (number_any z 16000 (by decide) wr).mono ?_
      rintro e w' ⟨rfl, hww⟩
      subst hww
      obtain ⟨Z, hZ⟩ : ∃ Z : Nat, z % 16000 = Z := ⟨(z % 16000).toNat, by omega⟩
      rw [hZ]
      have HZ : Hid (Z < 16000) := Lib.hid (by omega)
      clear hZ hlt2
      go_wp2_with fail
      refine (vtrunc_any HV.out (fd := 0) (x := ⟨2, _⟩) rfl (r := ⟨⟨2, 1, 1, _, noText, 0⟩, []⟩) rfl rfl (m := (Z : Int)) (in64_of (by omega) (by have := HZ.out; omega))).mono ?_
      rintro e wa ⟨rfl, ha, ka⟩
      rw [file_trunc (by omega) (by have := HZ.out; omega) HH.out.lost] at ha ⊢
      have HH2 := Lib.hid (HH.out.trunc (n := Z) (by have := HZ.out; omega))
      have VA0 := Lib.hid ha
      have KA0 := Lib.hid (HK.out.trans (KL.out _ _ ka))
      have RA := Lib.hid (HRW.out.keep (Touch.block ka C HRW.out.lt (fun hs => by
        rcases hs with hs | hs
        · exact hs.2.1 HL1.out
        · exact hs.elim)))
      have HHL := Lib.hid HH.out.len
      obtain ⟨g2, hg2⟩ : ∃ g2, truncG g sz Z = g2 := ⟨_, rfl⟩
      rw [hg2] at HH2 VA0
      clear ha ka hg2 HK HV HRW HH
      rw [errOf_zero]
      go_wp2_with fail
      go_loopw [19] (fun v19 wc => ∃ j : Nat, v19 = .int .i64 j ∧ Z ≤ j ∧ j ≤ 20000 ∧ VAt E w1.heap.size L1 p (fileV nmF g2 Z P 400) wc ∧ KV w1.heap.size (fun _ => False) NoB w2 wc ∧ Row wc C 5 ((spl H Z ((List.replicate (20000 - Z) 0).take (j - Z))).map (Value.int .u8))) (fun v19 _ => 20000 - (intOf v19).toNat)
      case atStart => exact ⟨Z, rfl, Nat.le_refl _, by have := HZ.out; omega, VA0.out, KA0.out, by rw [Nat.sub_self, List.take_zero, spl_nil]; exact RA.out⟩
      case round =>
        obtain ⟨j, rfl, hzj, hj, hv, hk, hr⟩ := hrel
        have HJ := Lib.hid (And.intro hzj hj)
        have HVJ := Lib.hid hv
        have HKJ := Lib.hid hk
        have HRJ := Lib.hid hr
        clear hzj hj hv hk hr
        by_cases hjn : j < 20000
        case pos =>
          have hlen : ((spl H Z ((List.replicate (20000 - Z) 0).take (j - Z))).map (Value.int .u8)).length = 20000 := by
            rw [List.length_map, spl_len (by rw [List.length_take, List.length_replicate, HHL.out]; have := HZ.out; omega)]
            exact HHL.out
          obtain ⟨u, hu⟩ : ∃ u, wr.cell? ⟨C, j, none⟩ = some u := by
            rw [HRJ.out.cell, List.getElem?_eq_getElem (by rw [hlen]; exact hjn)]
            exact ⟨_, rfl⟩
          have hul := HRJ.out.lt
          have hf := HRJ.out.froz j
          have hjI : (j : Int) < 20000 := Int.ofNat_lt.2 hjn
          have HJN := Lib.hid hjn
          clear hlen hjn
          go_wp2_with fail
          have hw1 : wrap64 ((j : Int) + 1) = (j : Int) + 1 := by have := HJN.out; clear hu; unfold wrap64; omega
          have hrow := HRJ.out.set j (.int .u8 0)
          have hset : ((spl H Z ((List.replicate (20000 - Z) 0).take (j - Z))).map (Value.int .u8)).set j (.int .u8 0) = (spl H Z ((List.replicate (20000 - Z) 0).take (j + 1 - Z))).map (Value.int .u8) := by
            have hz := HJ.out
            have hjn := HJN.out
            have e := spl_set (H := H) (p := Z) (b := List.replicate (20000 - Z) 0) (j := j - Z) (by rw [List.length_replicate]; omega) (by rw [List.length_replicate, HHL.out]; omega)
            rw [show Z + (j - Z) = j by omega, show j - Z + 1 = j + 1 - Z by omega] at e
            rw [← e, ← List.map_set]
            congr 1
            rw [List.getD_eq_getElem?_getD, List.getElem?_replicate]
            split <;> rfl
          rw [hset] at hrow
          first
            | exact ⟨⟨j + 1, rfl, by have := HJ.out; omega, HJN.out, HVJ.out.set HL1.out HBC.out j _, Touch.setCell HKJ.out (.inr HCW.out.1) _, hrow⟩, meas_step HJN.out⟩
            | (rw [hw1]; exact ⟨⟨j + 1, rfl, by have := HJ.out; omega, HJN.out, HVJ.out.set HL1.out HBC.out j _, Touch.setCell HKJ.out (.inr HCW.out.1) _, hrow⟩, meas_step HJN.out⟩)
        case neg =>
          obtain rfl : j = 20000 := by have := HJ.out; omega
          have hr2 := HRJ.out
          rw [List.take_of_length_le (by rw [List.length_replicate]; omega)] at hr2
          obtain ⟨H2, hH2⟩ : ∃ H2, spl H Z (List.replicate (20000 - Z) 0) = H2 := ⟨_, rfl⟩
          rw [hH2] at hr2 HH2
          have RJ := Lib.hid hr2
          have hjj : ¬ ((20000 : Int) < 20000) := by decide
          clear hr2 hH2 hjn HJ HRJ
          go_wp2_with fail
          refine (vfstat_any HVJ.out (fd := 0) (by decide) (x := ⟨2, P⟩) rfl (n := ⟨2, 1, 1, Z, noText, 0⟩) rfl (in64_of (by show (0 : Int) ≤ 2; decide) (by show (2 : Int) ≤ 16777215; decide))).mono ?_
          rintro e wb ⟨rfl, hbb⟩
          obtain ⟨T, hT⟩ : ∃ T : Int, (nBlk g2 : Int) = T := ⟨_, rfl⟩
          have hst : staC (statN (fileV nmF g2 Z P 400) ⟨2, 1, 1, Z, noText, 0⟩) = .agg #[.int .i64 2, .int .i64 1, .int .i64 1, .int .i64 Z, .int .i64 T] := by rw [← hT]; rfl
          rw [hst]
          obtain ⟨wc, hwc⟩ : ∃ wc, wc = wb.alloc (.cells #[.int .i64 2, .int .i64 1, .int .i64 1, .int .i64 Z, .int .i64 T] 35) := ⟨_, rfl⟩
          have hbc : Below wb.heap.size wb wc := by rw [hwc]; exact bl_alloc (Below.refl _ _) _
          have VC0 := Lib.hid ((HVJ.out.below hbb).below hbc)
          have KC := Lib.hid ((HKJ.out.then hbb).then hbc)
          have RC := Lib.hid ((RJ.out.below hbb).below hbc)
          have HWC := Lib.hid hwc
          clear hwc hbc hbb hT hst
          go_wp2_with fail
          rw [← HWC.out]
          refine (vtrunc_any VC0.out (fd := 0) (x := ⟨2, _⟩) rfl (r := ⟨⟨2, 1, 1, _, noText, 0⟩, []⟩) rfl rfl (m := 16000) (in64_of (by decide) (by decide))).mono ?_
          rintro e wd ⟨rfl, hd, kd⟩
          rw [file_trunc (by decide) (by decide) HH2.out.lost] at hd ⊢
          have HH3 := Lib.hid (HH2.out.longer (n := 16000) (by have := HZ.out; omega) (by decide))
          have VD := Lib.hid hd
          have KD := Lib.hid (KC.out.trans (KL.out _ _ kd))
          have RD := Lib.hid (RC.out.keep (Touch.block kd C RC.out.lt (fun hs => by
            rcases hs with hs | hs
            · exact hs.2.1 HL1.out
            · exact hs.elim)))
          obtain ⟨g3, hg3⟩ : ∃ g3, truncG g2 Z 16000 = g3 := ⟨_, rfl⟩
          rw [hg3] at HH3 VD
          clear hd kd hg3
          rw [errOf_zero]
          go_wp2_with fail
          refine (vseek_any VD.out 0 (in64_of (by decide) (by decide)) (q := 0) (in64_of (by decide) (by decide))).mono ?_
          rintro e we ⟨rfl, he, ke⟩
          rw [file_seek (by decide) (by decide)] at he ⊢
          have VE := Lib.hid he
          have KE := Lib.hid (KD.out.trans (KL.out _ _ ke))
          have RE := Lib.hid (RD.out.keep (Touch.block ke C RD.out.lt (fun hs => by
            rcases hs with hs | hs
            · exact hs.2.1 HL1.out
            · exact hs.elim)))
          clear he ke
          rw [errOf_zero]
          go_wp2_with fail
          go_loopw [22, 23, 24, 25] (fun v22 v23 _ _ wr => ∃ (r Q : Nat), v23 = .int .i64 r ∧ v22 = .int .i64 Q ∧ Q = 1000 * r ∧ r ≤ 16 ∧ VAt E w1.heap.size L1 p (fileV nmF g3 16000 (Q : Int) 400) wr ∧ KV w1.heap.size (fun _ => False) NoB w2 wr ∧ Row wr C 5 (H2.map (Value.int .u8))) (fun _ v23 _ _ _ => 16 - (intOf v23).toNat)
          case atStart => exact ⟨0, 0, rfl, rfl, rfl, by omega, VE.out, KE.out, RE.out⟩
          case round =>
            obtain ⟨r, Q, rfl, rfl, hQ, hr, hv, hk, hrw⟩ := hrel
            have HQ := Lib.hid hQ
            have HRR := Lib.hid hr
            have HVR := Lib.hid hv
            have HKR := Lib.hid hk
            have HRWR := Lib.hid hrw
            by_cases hr16 : r < 16
            case pos =>
              have hr40 : (r : Int) < 40 := by omega
              have hQ16 : (Q : Int) < 16000 := by omega
              have HR16 := Lib.hid hr16
              clear hQ hr hv hk hrw hr16
              go_wp2_with fail
              refine (vread_any HVR.out (fd := 0) (x := ⟨2, _⟩) rfl (r := ⟨⟨2, 1, 1, 16000, noText, 0⟩, []⟩) rfl HH3.out.lost (m := 1000) (in64_of (by decide) (by decide)) (by decide)).mono ?_
              rintro e wf ⟨⟨v, rfl, hs⟩, hf, kf⟩
              have hrd := bytes_read HH3.out HR16.out
              rw [← HQ.out] at hrd
              rw [hrd] at hf hs ⊢
              have hll : ((H2.drop Q).take 1000).length = 1000 := by rw [List.length_take, List.length_drop, HH3.out.len]; have := HQ.out; have := HR16.out; omega
              have RV := Lib.hid hs.rdB8
              obtain ⟨sp, cap, hv⟩ := hs.shape
              rw [hll] at hv
              subst hv
              have VF := Lib.hid hf
              have KF := Lib.hid (HKR.out.trans (KL.out _ _ kf))
              have RF := Lib.hid (HRWR.out.keep (Touch.block kf C HRWR.out.lt (fun hs => by
                rcases hs with hs | hs
                · exact hs.2.1 HL1.out
                · exact hs.elim)))
              clear hs hf kf hrd
              rw [errOf_zero]
              obtain ⟨Q2, hQ2⟩ : ∃ Q2, Q + 1000 = Q2 := ⟨_, rfl⟩
              have hwq : wrap64 ((Q : Int) + 1000) = (Q2 : Int) := by clear hr40; unfold wrap64; omega
              have HQ2 : Hid (Q + 1000 = Q2 ∧ Q2 ≤ 16000) := Lib.hid ⟨hQ2, by have := HQ.out; have := HR16.out; omega⟩
              have hmin : min (Q2 : Int) 16000 = (Q2 : Int) := by have := HQ2.out; clear hwq; omega
              have hle1 : (Q : Int) ≤ (Q2 : Int) := by clear hwq hmin; omega
              have hle2 : (Q2 : Int) ≤ 20000 := by clear hwq hmin; have := HQ2.out; omega
              have hcf : ((20000 : Nat) = Q) = False := eq_false (by clear hwq hmin; have := HQ2.out; omega)
              have hcf2 : (Q = 20000) = False := eq_false (by clear hwq hmin; have := HQ2.out; omega)
              have HLL := Lib.hid hll
              clear hQ2 hll
              go_wp2_with fail
              have e1 : (min ((Q : Int) + 1000) 16000).toNat - Q = 1000 := by clear hwq hmin; have := HQ2.out; omega
              rw [e1]
              have RM := Lib.hid (rdB_cut (l := Q) (n := 1000) (cap := 20000 - Q) RF.out (by rw [HH3.out.len]; clear hwq hmin; have := HQ2.out; omega))
              clear e1 hcf hcf2 hle1 hle2
              refine (samebytes_any RV.out RM.out (by rw [HLL.out]; omega)).mono ?_
              rw [decide_eq_true rfl]
              rintro e wg ⟨rfl, hbg⟩
              have VG := Lib.hid (VF.out.below hbg)
              have KG := Lib.hid (KF.out.then hbg)
              have RG := Lib.hid (RF.out.below hbg)
              clear hbg hmin
              have HWQ := Lib.hid hwq
              clear hwq
              go_wp2
              have hw1 : wrap64 ((r : Int) + 1) = (r : Int) + 1 := by have := HR16.out; unfold wrap64; omega
              have e2 : wrap64 ((Q : Int) + 1000) = (Q : Int) + 1000 := by rw [HWQ.out]; have := HQ2.out.1; omega
              go_roundw
              case rel =>
                have hq3 : Q2 = 1000 * (r + 1) := by have := HQ.out; have := HQ2.out; clear hw1 e2; omega
                rw [← hq3] at VG
                exact ⟨r + 1, Q2, by first | rfl | (rw [hw1]; rfl), by first | (rw [HWQ.out]) | rfl | (rw [← HQ2.out.1]; rfl), hq3, HR16.out, VG.out, KG.out, RG.out⟩
              case measure =>
                first
                  | exact meas_step HR16.out
                  | (rw [hw1]; exact meas_step HR16.out)
            case neg =>
              obtain rfl : r = 16 := by omega
              obtain rfl : Q = 16000 := by omega
              have h40 : ((16 : Nat) : Int) < 40 := by decide
              have hQn : ¬ ((16000 : Nat) : Int) < 16000 := by decide
              clear hQ hr hv hk hrw hr16 HQ HRR
              go_wp2_with fail
              refine (vread_any HVR.out (fd := 0) (x := ⟨2, _⟩) rfl (r := ⟨⟨2, 1, 1, 16000, noText, 0⟩, []⟩) rfl HH3.out.lost (m := 10) (in64_of (by decide) (by decide)) (by decide)).mono ?_
              rintro e wf ⟨⟨v, rfl, hs⟩, hf, kf⟩
              rw [file_end (by decide) (by decide)] at hf hs ⊢
              obtain ⟨sp, cap, hv⟩ := hs.shape
              subst hv
              have KF := Lib.hid (HKR.out.trans (KL.out _ _ kf))
              clear hs hf kf
              rw [errOf_zero]
              simp only [List.length_nil]
              have hen : (0 : Int) ≤ en := HEN.out.1
              go_wp2
              rw [← HP.out]
              have hb := BLW.out _ KF.out
              first
                | exact ⟨rfl, hb⟩
                | (go_ret; exact ⟨rfl, hb⟩)
end
end Go.Proofs.YthhipeceeagpnaaGreatDoor
end

section
/- What the card of VolBytes asks beside the walk. -/
namespace Go.Proofs.YthhipeceeagpnaaGreatDoor.volBytes
open Go.ChangeShapes Go.WideShapes Go.ChangeAt Go.RowKit
set_option maxRecDepth 100000

theorem own : ownKnob Tryz.prog.godebug = none := by kernel_rfl
theorem door_met (os : Os) (args : Array Value) : laidMetH Tryz.prog Rows.volBytesRow.laid ((World.laidAll Tryz.prog os Rows.volBytesRow.laid).forCall (fun _ _ => 0) ⟨#[], args, []⟩).memory := by
  rw [MakeChecks.laidMetH_plain _ _ _ (by kernel_rfl)]
  exact laidMet_laidAll _ (by kernel_rfl) (by kernel_rfl)
theorem joined : joinedFacts Tryz.prog 6 Tryz.f6 Rows.volBytesSpec Rows.volBytesRow = true := by
  unfold joinedFacts
  rw [seat_laidOut, seat_mapsRowed, seat_stopsHeard, seat_mayEnter, seat_plainKeys, seat_lifted, seat_make]
  kernel_rfl
theorem inst : Tryz.f6.isInstance Tryz.prog Rows.volBytesRow.origin Rows.volBytesRow.targs := of_decide_eq_true (by kernel_rfl)
theorem wrap : Tryz.f6.isWrapper Tryz.prog Rows.volBytesRow.wrapper Rows.volBytesRow.mainSum := by
  unfold Func.isWrapper
  first | (rw [if_pos (by decide +kernel)]; kernel_rfl) | (rw [if_neg (by decide +kernel)]; exact ⟨rfl, rfl⟩)
end Go.Proofs.YthhipeceeagpnaaGreatDoor.volBytes
end

section
namespace Go.Proofs.YthhipeceeagpnaaGreatDoor.volBytes
open Go.ChangeShapes Go.WideShapes Go.ChangeAt Go.RowKit
set_option maxRecDepth 100000

theorem lifted (os : Os) (started : os.Started) (H : Type) (enc : TypeId × Value → H) :
    ReturnsInHanded {} Tryz.checked os 6 .any (fun w args => (Rows.volBytesSpec.pre enc Tryz.prog Tryz.f6 [] false w args ∧ laidMetH Tryz.prog Rows.volBytesRow.laid w) ∧ sizedMet enc Tryz.prog Tryz.f6 (OpenSpec.ofChange Rows.volBytesSpec) false w args)
      (Rows.volBytesSpec.post enc Tryz.prog Tryz.f6 false true false false) := by
  refine handed_and_shaped (C := Tryz.checked) (X := fun w _ => laidMetH Tryz.prog Rows.volBytesRow.laid w) (fun _ _ _ hh h => h.of_heap hh) own started (by kernel_rfl) Tryz.func6
    (ChangeSpec.witness_shaped (enc := enc) (C := Tryz.checked) (os := os) (X := fun w _ => laidMetH Tryz.prog Rows.volBytesRow.laid w) false (World.laidAll Tryz.prog os Rows.volBytesRow.laid) #[.slice none 0 0, .slice none 0 0, .int .i64 0] 8 (World.laidAll_os _ _ _) (World.shaped_of_ZipB (by kernel_rfl) (by kernel_rfl)) (by kernel_rfl) (by kernel_rfl) (by kernel_rfl) (door_met os _)) ?_
  intro W base args ds gs before hval0 hW _ _ hL hSh _
  have hval : ∀ (j : Nat) t v, Tryz.f6.params[j]? = some t → args[j]? = some v → Value.okWide Tryz.prog W .any base t v := hval0
  have hW' := hW
  obtain ⟨p, q, hA0, hV, rfl, hfz, hnd⟩ := hW
  have hA : DataW.TrodAll enc Tryz.prog W 0 (fun _ => true) true Tryz.f6.params.toList args.toList ds p := hA0
  rw [Tryz.params6] at hA hval
  obtain ⟨v0, vs0, d0, ds0, p0, q0, hargs, rfl, rfl, h0, r0⟩ := trodAll_cons hA
  obtain ⟨v1, vs1, d1, ds1, p1, q1, rfl, rfl, rfl, h1, r1⟩ := trodAll_cons r0
  obtain ⟨v2, vs2, d2, ds2, p2, q2, rfl, rfl, rfl, h2, r2⟩ := trodAll_cons r1
  obtain ⟨rfl, rfl, rfl⟩ := trodAll_nil r2
  obtain rfl : args = #[v0, v1, v2] := by cases args; simp_all
  obtain ⟨rfl, rfl⟩ := trodVars_none hV
  have hW0 := hW'
  simp only [List.append_nil] at hW0
  have hlt := fun x hx => by simpa using hW0.lt x hx
  have hl0 : ∀ x ∈ p0, x.block < W.heap.size := fun x hx => hlt x (by simp [hx])
  have k0 : ∀ (W' : World), Below W.heap.size W W' → DataW.Trod enc Tryz.prog W' 0 (fun b => decide (b < W.heap.size)) true 59 v0 d0 p0 := fun W' hn => Below.trod seat_laidOut (by kernel_rfl) (of_decide_eq_true (by kernel_rfl)) h0 hn hl0
  obtain ⟨a0, rd0, ok0, ln0, sp0, n0, cap0, rfl⟩ := open_ints_arg (hval 0 59 v0 rfl rfl) h0 hl0
  have hl1 : ∀ x ∈ p1, x.block < W.heap.size := fun x hx => hlt x (by simp [hx])
  have k1 : ∀ (W' : World), Below W.heap.size W W' → DataW.Trod enc Tryz.prog W' 0 (fun b => decide (b < W.heap.size)) true 32 v1 d1 p1 := fun W' hn => Below.trod seat_laidOut (by kernel_rfl) (of_decide_eq_true (by kernel_rfl)) h1 hn hl1
  obtain ⟨sp1, cap1, a1, rfl, rd1, hs1, wr1, wl1⟩ := open_bytes_arg (hval 1 32 v1 rfl rfl) h1 hl1
  obtain ⟨a2, rfl, rfl, rfl, w2⟩ := open_int Tryz.underlying3 (hval 2 3 v2 rfl rfl) h2
  obtain ⟨E, hE0⟩ := env_of_laid_mid 1 14 hL (by kernel_rfl) (by kernel_rfl) (by kernel_rfl)
  have hE := envM_of hE0 hSh

  clear hA0 hval0
  simp only [List.append_nil] at hW'
  refine (volbytes_any rd0 ln0 rd1 hs1 wl1 (open_room_arg (hval 1 32 _ rfl rfl) h1) a2 hE (Nat.le_refl _)).mono fun e W' ⟨he, bel⟩ => ?_
  subst he
  refine ⟨_, rfl, _, _, _, [], p0 ++ (p1 ++ ([] ++ ([]))), [], hW', trodAll_mk1 (shut_bool Tryz.underlying4 _), ?_, rfl, bel.frame _, fun h => by cases h⟩
  exact trodAll_cons_mk (k0 _ bel) (trodAll_cons_mk (k1 _ bel) (trodAll_cons_mk (shut_int Tryz.underlying3 w2) trodAll_mk0))
theorem over : Rows.volBytesRow.holds Tryz.pinned (OpenSpec.ofChange Rows.volBytesSpec) :=
  OpenClaim.holds_of_wide 6 Tryz.f6 rfl rfl rfl rfl rfl rfl rfl ⟨rfl, rfl, rfl, rfl, rfl⟩ rfl rfl rfl rfl rfl (by kernel_rfl) Tryz.func6 joined inst wrap
    (fun os started H enc _ => lifted os started H enc)
theorem proved : Rows.VolBytesCardSaid :=
  Claim7.holds_tied_plain_at .later [] Rows.volBytesCard.laidKinds true Rows.volBytesCard.stood.harness true
    over (fun _ h => by cases h) (by kernel_rfl) (fun _ h => by cases h) volBytes_row_tie rfl ⟨rfl, rfl⟩ (by kernel_rfl) rfl
    (fun f fn hf hfn => by
      obtain rfl : f = 6 := Option.some.inj ((show Tryz.prog.funcNamed "breviary/breviarylaw21.VolBytes" = some 6 by kernel_rfl).symm.trans hf) |>.symm
      obtain rfl : fn = Tryz.f6 := (Option.some.inj (Tryz.func6.symm.trans hfn)).symm
      exact ⟨by kernel_rfl, fun j t ht => by
        rw [Tryz.params6] at ht
        have hm : t ∈ [59, 32, 3] := by
          have := Array.mem_of_getElem? ht
          simpa using this
        have hall : [59, 32, 3].all (fun t => !(Tryz.prog.wantsStandIn t)) = true := by kernel_rfl
        have h := (List.all_eq_true.1 hall) t hm
        simp only [Bool.not_eq_true'] at h
        exact h⟩)
    (by kernel_rfl)
#print axioms proved
end Go.Proofs.YthhipeceeagpnaaGreatDoor.volBytes
end
