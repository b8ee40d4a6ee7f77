/- PROVED: Rows.VolListsCardSaid: for every input the law VolLists returns true, and each argument reads as before. Conditions: none beyond the listed package variables, which the card ties to the program's text. -/
import Derived.Test.YtjekpbkmhgfhoaaGreatDoorGBase43
import Derived.Test.YtjekpbkmhgfhoaaGreatDoorGBase18
import Derived.Test.YtjekpbkmhgfhoaaGreatDoorGBase45
import Derived.Test.YtjekpbkmhgfhoaaGreatDoorGBase41
import Derived.Test.YtjekpbkmhgfhoaaGreatDoorGBase44
import Derived.Deep.DeepCutAuto
import Derived.Deep.CutBlock
import Derived.Test.YtjekpbkmhgfhoaaGreatDoorRows
import Derived.Test.YtjekpbkmhgfhoaaGreatDoorCards
import Derived.Test.YtjekpbkmhgfhoaaGreatDoorTie
import Derived.Test.YtjekpbkmhgfhoaaGreatDoorGBase04
import Derived.Test.YtjekpbkmhgfhoaaGreatDoorGBase01
import Derived.Test.YtjekpbkmhgfhoaaGreatDoorGBase05
import Derived.Test.YtjekpbkmhgfhoaaGreatDoorGBase26
import Derived.ProofKit
import Derived.OpenShut
import Derived.ChangeOld
import Derived.LaidMore
import Derived.ChangeSame
import Derived.ChangeVars
import Derived.JoinedOf
import Derived.Lay
import Derived.MakeChecks
import Derived.SevenTiedAt
import Derived.Stop.Joined
import Derived.ChangeMaps5
import Derived.Test.YtjekpbkmhgfhoaaGreatDoorGBase46
section
/- The bytes that the holes' law writes. -/
namespace Go.Proofs.YtjekpbkmhgfhoaaGreatDoor
open Go Go.RowKit
set_option maxRecDepth 100000
set_option linter.unusedSimpArgs false
set_option linter.unusedVariables false
attribute [local go_sem] giv
theorem ones_set {n j : Nat} (h : j < n) : ((List.replicate j (Value.int .u8 1)) ++ List.replicate (n - j) (Value.int .u8 0)).set j (.int .u8 1) = (List.replicate (j + 1) (Value.int .u8 1)) ++ List.replicate (n - (j + 1)) (Value.int .u8 0) := by
  rw [List.set_append_right _ _ (by simp)]
  obtain ⟨k, hk⟩ : ∃ k, n - j = k + 1 := ⟨n - j - 1, by omega⟩
  rw [hk, show n - (j + 1) = k by omega, List.length_replicate, Nat.sub_self, List.replicate_succ, List.set_cons_zero, List.replicate_succ', List.append_assoc]
  rfl
end Go.Proofs.YtjekpbkmhgfhoaaGreatDoor
end

section
/- The walk of VolLists. -/
namespace Go.Proofs.YtjekpbkmhgfhoaaGreatDoor
open Go Go.RowKit
set_option maxRecDepth 100000
set_option linter.unusedSimpArgs false
set_option linter.unusedVariables false
attribute [local go_sem] giv
abbrev pNone : ByteArray := ⟨#[47, 110, 111, 110, 101]⟩
theorem ls_none (n : Nat) : (listT (dS n) pNone).1 = 109 := by rfl
theorem ls_none_a (n : Nat) : (listT (dSa n) pNone).1 = 109 := by rfl
theorem lsV_none (n r : Nat) : listV (lsV n r) pNone noText 5 = (109, [], false) := by
  rw [listV_eq']
  unfold lsV
  by_cases h : r ≤ 1
  · rw [if_pos h]
    have e1 : (listT (bareV (dS n)).st pNone).1 = 109 := ls_none n
    rw [e1, if_pos (by decide)]
  · rw [if_neg h]
    have e1 : (listT (bareV (dSa n)).st pNone).1 = 109 := ls_none_a n
    rw [e1, if_pos (by decide)]
theorem lsV_zero (n : Nat) : lsV n 0 = bareV (dS n) := rfl
theorem ls_cells {w : World} {sp : Option Addr} {m cap : Nat} {xs : List En} (r : RdE w 3 encEl (.slice sp m cap) xs) {j : Nat} {x : En} (hj : xs[j]? = some x) :
    ∃ h off, sp = some ⟨h, off, none⟩ ∧ h < w.heap.size ∧ w.cell? ⟨h, off + j * 3, none⟩ = some (.string x.name) := by
  obtain ⟨sp', cap', he, _, _, h3⟩ := r
  injection he with e1 e2 e3
  subst e1
  have hlt : j < xs.length := by
    rcases Nat.lt_or_ge j xs.length with h | h
    · exact h
    · rw [List.getElem?_eq_none h] at hj; cases hj
  obtain ⟨h, off, h4, h5, h6⟩ := h3 (by rintro rfl; simp at hlt)
  refine ⟨h, off, h4, h5, ?_⟩
  have := h6 j 0 hlt (by decide)
  rw [hj] at this
  exact this
section
variable {E : Nat → Addr} {B : Nat} {w w' : World}
set_option maxHeartbeats 8000000 in
theorem vollists_any (a z : Int) (w : World) (ht : TabOk w) (hE : EnvM E B w) :
    Calls Tryz.prog 4 #[.int .i64 a, .int .i64 z] w fun e w' => e = .returned (.bool true) ∧ Below w.heap.size w w' := by
  have HE := Lib.hid hE
  have HT := Lib.hid ht
  generalize hP : (fun (e : Ending) (w' : World) => e = .returned (.bool true) ∧ Below w.heap.size w w') = Post
  have HP := Lib.hid hP
  clear hP hE ht
  go_enter Tryz.func4, Tryz.ntmps4
  go_wp2_with fail
  refine (first_any (HE.out.up HE.out.size (Nat.le_refl _))).mono ?_
  rintro e w1 ⟨rfl, hb1⟩
  have HB1 := Lib.hid hb1
  have HE1 := Lib.hid ((HE.out.up HE.out.size (Nat.le_refl _)).below hb1)
  clear hb1
  go_wp2_with fail
  refine (number_any a 20 (by decide) w1).mono ?_
  rintro e w1' ⟨rfl, rfl⟩
  obtain ⟨N, hN⟩ : ∃ N : Nat, a % 20 = N := ⟨(a % 20).toNat, by omega⟩
  rw [hN]
  have HN : Hid (N < 20) := Lib.hid (by omega)
  clear hN
  go_wp2_with fail
  refine (number_any z 6 (by decide) w1).mono ?_
  rintro e w1' ⟨rfl, rfl⟩
  obtain ⟨Z0, hZ⟩ : ∃ Z0 : Nat, z % 6 = Z0 := ⟨(z % 6).toNat, by omega⟩
  rw [hZ]
  obtain ⟨Z, hZ1⟩ : ∃ Z : Nat, Z0 + 1 = Z := ⟨_, rfl⟩
  have hwz : wrap64 ((Z0 : Int) + 1) = (Z : Int) := by unfold wrap64; omega
  have HZ : Hid (1 ≤ Z ∧ Z ≤ 6) := Lib.hid ⟨by omega, by omega⟩
  clear hZ hZ1
  go_wp2_with fail
  try rw [hwz]
  clear hwz
  refine (vnew_any (L := fun _ => False) (HE1.out.up HE1.out.size (Nat.le_refl _)) (fun _ h => h.elim) 100).mono ?_
  rintro e w2 ⟨⟨p, rfl, hv2, hpv⟩, hb2⟩
  have V2 := Lib.hid hv2
  have HB2 := Lib.hid hb2
  clear hv2 hb2 hpv
  have BLW : Hid (∀ wr, KV w1.heap.size (fun _ => False) NoB w2 wr → Below w.heap.size w wr) := Lib.hid fun wr h => HB1.out.trans ((HB2.out.trans (h.below HB2.out.size)).mono HB1.out.size)
  have TBW : Hid (∀ wr, KV w1.heap.size (fun _ => False) NoB w2 wr → TabOk wr) := Lib.hid fun wr h => HT.out.below (BLW.out wr h)
  go_wp2_with fail
  refine (vmkdir_any V2.out pD).mono ?_
  rintro e w3 ⟨rfl, h3, k3⟩
  rw [ls_mkd] at h3 ⊢
  have V3 := Lib.hid h3
  have K3 := Lib.hid k3
  clear h3 k3
  rw [errOf_zero]
  go_wp2_with fail
  go_loopw [7] (fun v7 wr => ∃ i : Nat, v7 = .int .i64 i ∧ i ≤ N ∧ VAt E w1.heap.size (fun _ => False) p (bareV (dS i)) wr ∧ KV w1.heap.size (fun _ => False) NoB w2 wr) (fun v7 _ => N - (intOf v7).toNat)
  case atStart => exact ⟨0, rfl, Nat.zero_le _, V3.out, K3.out⟩
  case round =>
    obtain ⟨i, rfl, hi, hv, hk⟩ := hrel
    have HI := Lib.hid hi
    have HV := Lib.hid hv
    have HK := Lib.hid hk
    clear hi hv hk
    by_cases hlt : i < N
    case pos =>
      have hlt2 : (i : Int) < (N : Int) := by omega
      have HLT := Lib.hid hlt
      obtain ⟨X1, hX1⟩ : ∃ X1 : Int, ((100 + i : Nat) : Int) = X1 := ⟨_, rfl⟩
      have hw100 : wrap64 (100 + (i : Int)) = X1 := by have := HN.out; unfold wrap64; omega
      have HX1 : Hid (-9223372036854775808 ≤ X1 ∧ X1 ≤ 9223372036854775807) := Lib.hid (by have := HN.out; omega)
      have HD3 := ls_numfit (i := i) (by have := HN.out; have := HLT.out; omega)
      have hcat := ls_num (i := i) (by have := HN.out; have := HLT.out; omega)
      rw [hX1] at HD3 hcat
      have HD3 := Lib.hid HD3
      have HCAT := Lib.hid hcat
      clear hlt hX1 hcat
      go_wp2_with fail
      try rw [hw100]
      clear hw100
      refine (numM_any HX1.out.1 HX1.out.2 wr (TBW.out wr HK.out)).mono ?_
      rintro e w4 ⟨rfl, hb4⟩
      have HD3 := HD3.out
      have hcat := HCAT.out
      have V4 := Lib.hid (HV.out.below hb4)
      have K4 := Lib.hid (HK.out.then hb4)
      obtain ⟨DD, hDD⟩ : ∃ DD, Lib.itoa X1 = DD := ⟨_, rfl⟩
      rw [hDD] at HD3 hcat ⊢
      have hfit : ¬ 9223372036854775807 < 4 + DD.length := by omega
      clear hb4 hDD HD3
      go_wp2_with fail
      try rw [hcat]
      clear hcat hfit
      refine (vmkdir_any V4.out (pN (100 + i))).mono ?_
      rintro e w5 ⟨rfl, h5, k5⟩
      rw [ls_mkn (by have := HN.out; have := HLT.out; omega)] at h5 ⊢
      have V5 := Lib.hid h5
      have K5 := Lib.hid (K4.out.trans k5)
      clear h5 k5
      rw [errOf_zero]
      have hw : wrap64 ((i : Int) + 1) = ((i + 1 : Nat) : Int) := by have := HN.out; have := HLT.out; unfold wrap64; omega
      go_wp2
      go_roundw
      case rel => exact ⟨i + 1, by rw [hw], HLT.out, V5.out, K5.out⟩
      case measure =>
        have h3 := HLT.out
        rw [hw]
        simp only [intOf, Int.toNat_natCast]
        clear hw hlt2
        omega
    case neg =>
      obtain rfl : i = N := by have := HI.out; omega
      have hlt2 : ¬ ((i : Int) < (i : Int)) := by omega
      clear hlt HI
      rw [← lsV_zero] at HV
      go_wp2_with fail
      clear hlt2
      go_loopw [8, 9, 10, 11, 12, 13, 14] (fun v8 v9 v10 _ _ _ _ wr => ∃ r k : Nat, v8 = .string (lsAfter k) ∧ v9 = .int .i64 k ∧ v10 = .int .i64 r ∧ k = r * Z ∧ (r = 0 ∨ k < i) ∧ VAt E w1.heap.size (fun _ => False) p (lsV i r) wr ∧ KV w1.heap.size (fun _ => False) NoB w2 wr) (fun _ _ v10 _ _ _ _ _ => 30 - (intOf v10).toNat)
      case atStart => exact ⟨0, 0, rfl, rfl, rfl, (Nat.zero_mul _).symm, .inl rfl, HV.out, HK.out⟩
      case round =>
        obtain ⟨r, k, rfl, rfl, rfl, hkr, hr0, hv, hk⟩ := hrel
        have hrk : r ≤ k := by rw [hkr]; exact Nat.le_mul_of_pos_right _ HZ.out.1
        have hki : k ≤ i := by
          rcases hr0 with h | h
          · rw [hkr, h, Nat.zero_mul]; exact Nat.zero_le _
          · omega
        have hr20 : r < 20 := by have := HN.out; omega
        have HKR := Lib.hid (And.intro hkr (And.intro hrk (And.intro hki hr20)))
        have HV2 := Lib.hid hv
        have HK2 := Lib.hid hk
        have hr30 : (r : Int) < 30 := by omega
        clear hkr hr0 hv hk hrk hki hr20 HV HK
        go_wp2_with fail
        clear hr30
        refine (vlist_any HV2.out pD (lsAfter k) Z).mono ?_
        rintro e w5 ⟨⟨v, rfl, hs⟩, h5, k5⟩
        rw [ls_round (by have := HN.out; omega) HKR.out.2.2.1 (by have := HKR.out; omega)] at hs ⊢
        obtain ⟨ls, hls⟩ : ∃ ls, ((dEnts i).drop k).take Z = ls := ⟨_, rfl⟩
        have hlen : ls.length = min Z (i - k) := by rw [← hls]; exact ls_len
        have hat : ∀ j, j < ls.length → ls[j]? = some ⟨nm3 (100 + (k + j)), ((3 + (k + j) : Nat) : Int), 2⟩ := fun j hj => by
          rw [← hls]
          exact ls_at (by rw [hlen] at hj; exact hj)
        simp only at hs ⊢
        rw [hls] at hs
        rw [errOf_zero]
        obtain ⟨M, hM⟩ : ∃ M, ls.length = M := ⟨_, rfl⟩
        rw [hM] at hlen hat
        obtain ⟨sq, cq, hu⟩ := hs.shape'
        rw [hM] at hu
        subst hu
        have HRD := Lib.hid (hs.rd encEl_len)
        have HAT := Lib.hid hat
        have HLEN := Lib.hid hlen
        have V5 := Lib.hid h5
        have K5 := Lib.hid (HK2.out.trans k5)
        obtain ⟨mb, hmb⟩ : ∃ mb, decide (Z < i - k) = mb := ⟨_, rfl⟩
        rw [hmb]
        have HMB := Lib.hid hmb
        clear hs hat hlen h5 k5 hls hM hmb HV2 HK2
        go_wp2_with fail
        go_loopw [8, 9, 14] (fun v8 v9 v14 wr => ∃ j : Nat, j ≤ M ∧ v8 = .string (lsAfter (k + j)) ∧ v9 = .int .i64 ((k + j : Nat) : Int) ∧ v14 = .int .i64 j ∧ Hid (Below w5.heap.size w5 wr)) (fun _ _ v14 _ => M - (intOf v14).toNat)
        case atStart => exact ⟨0, Nat.zero_le _, rfl, rfl, rfl, Lib.hid (Below.refl _ _)⟩
        case round =>
          obtain ⟨j, hj, rfl, rfl, rfl, HI⟩ := hrel
          by_cases hjm : j < M
          case pos =>
            have hjm2 : (j : Int) < (M : Int) := by omega
            have hj0 : (0 : Int) ≤ (j : Int) := by omega
            have HJM := Lib.hid hjm
            have hkj : k + j < 20 := by have := HLEN.out; have := HN.out; omega
            have HKJ := Lib.hid hkj
            obtain ⟨h, off, rfl, hh, hc⟩ := ls_cells HRD.out (HAT.out j hjm)
            obtain ⟨X2, hX2⟩ : ∃ X2 : Int, ((100 + (k + j) : Nat) : Int) = X2 := ⟨_, rfl⟩
            have hw100 : wrap64 (100 + ((k + j : Nat) : Int)) = X2 := by unfold wrap64; omega
            have hw101 : IntKind.i64.wrap (100 + ((k + j : Nat) : Int)) = X2 := by rw [IntWalk.i64_in _ (by omega)]; omega
            have HX2 : Hid (-9223372036854775808 ≤ X2 ∧ X2 ≤ 9223372036854775807) := Lib.hid (by omega)
            have hwk : wrap64 (((k + j : Nat) : Int) + 1) = ((k + (j + 1) : Nat) : Int) := by unfold wrap64; omega
            have hwj : wrap64 ((j : Int) + 1) = ((j + 1 : Nat) : Int) := by have := HLEN.out; have := HZ.out; unfold wrap64; omega
            obtain ⟨X, hX⟩ : ∃ X, nm3 (100 + (k + j)) = X := ⟨_, rfl⟩
            have hD3 := ls_numfit (i := k + j) hkj
            have hcat := ls_num3 (i := k + j) hkj
            rw [hX2] at hD3 hcat
            obtain ⟨DD, hDD⟩ : ∃ DD, Lib.itoa X2 = DD := ⟨_, rfl⟩
            rw [hDD] at hD3 hcat
            rw [hX] at hcat
            simp only [hX] at hc
            have HDD := Lib.hid hDD
            have hfit : ¬ 9223372036854775807 < 1 + DD.length := by omega
            have HAF : Hid (lsAfter (k + (j + 1)) = X) := Lib.hid (by rw [← hX]; exact lsAfter_succ (k + j))
            have TW : Hid (TabOk wr) := Lib.hid (TBW.out wr (K5.out.then HI.out))
            obtain ⟨KJ, hKJ⟩ : ∃ KJ : Int, ((k + j : Nat) : Int) = KJ := ⟨_, rfl⟩
            rw [hKJ] at hw100 hw101 hwk ⊢
            have c0 : wr.cell? ⟨h, off + j * 3, none⟩ = some (.string X) := (HI.out.cell (p := ⟨h, off + j * 3, none⟩) hh).trans hc
            have HHS : Hid (h < wr.heap.size) := Lib.hid (Nat.lt_of_lt_of_le hh HI.out.size)
            clear hjm hkj hX hX2 hD3 hDD hc hh hKJ
            go_wp2_with fail
            have S : ∀ w', Below wr.heap.size wr w' → w'.cell? ⟨h, off + j * 3, none⟩ = some (.string X) := fun w' hb => (hb.cell (p := ⟨h, off + j * 3, none⟩) HHS.out).trans c0
            clear c0
            apply wp_region_rel _ (by kernel_rfl) (by kernel_rfl) (fun w' => Below wr.heap.size wr w') (fun w' w'' => Below w'.heap.size w' w'') (fun w' w'' h1 h2 => bl_trans h1 h2) (Below.refl _ _).drew
            repeat (first
              | (apply wpRel_skip (by rfl)
                 simp only [Act.put, List.setIfInBounds_toArray, List.set_cons_zero, List.set_cons_succ])
              | (apply wpRel_fix (by rfl)
                 · intro w' hC hf R hR
                   have hS := S w' hC
                   go_simp
                   exact hR _ (Below.refl _ _)
                 simp only [Act.put, List.setIfInBounds_toArray, List.set_cons_zero, List.set_cons_succ]))
            apply wpRel_fix (by rfl)
            · intro w' hC hf R hR
              go_simp
              (with_reducible refine (numM_any HX2.out.1 HX2.out.2 w' (TW.out.below hC)).mono ?_)
              rintro e w'' ⟨rfl, hb⟩
              rw [HDD.out]
              exact ⟨_, rfl, hR _ hb⟩
            simp only [Act.put, List.setIfInBounds_toArray, List.set_cons_zero, List.set_cons_succ]
            repeat (first
              | (apply wpRel_skip (by rfl)
                 simp only [Act.put, List.setIfInBounds_toArray, List.set_cons_zero, List.set_cons_succ])
              | (apply wpRel_fix (by rfl)
                 · intro w' hC hf R hR
                   have hS := S w' hC
                   go_simp
                   exact hR _ (Below.refl _ _)
                 simp only [Act.put, List.setIfInBounds_toArray, List.set_cons_zero, List.set_cons_succ]))
            refine wpRel_nil (fun w6 hC hf => ?_)
            have HI6 := Lib.hid (HI.out.trans (hC.mono HI.out.size))
            have c0 := S w6 hC
            clear hC hf S hfit hcat hw100 hw101
            go_wp2
            go_roundw
            case rel => exact ⟨j + 1, HJM.out, by rw [HAF.out], by rw [hwk], by rw [hwj], HI6⟩
            case measure =>
              have h3 := HJM.out
              rw [hwj]
              simp only [intOf, Int.toNat_natCast]
              clear hwk hwj hjm2 hj0
              omega
          case neg =>
            obtain rfl : j = M := by omega
            have hjm2 : ¬ ((j : Int) < (j : Int)) := by omega
            have V6 := Lib.hid (V5.out.below HI.out)
            have K6 := Lib.hid (K5.out.then HI.out)
            obtain ⟨k', hk'⟩ : ∃ k', k + j = k' := ⟨_, rfl⟩
            rw [hk']
            have HK' := Lib.hid hk'
            obtain ⟨c, hc⟩ : ∃ c : Bool, ((r : Int) == 1) = c := ⟨_, rfl⟩
            clear hjm hj hk' HRD HAT V5 K5 HI
            go_upto_if 80 with fail
            clear hjm2
            go_cut [14] (fun _ wx => VAt E w1.heap.size (fun _ => False) p (lsV i (r + 1)) wx ∧ KV w1.heap.size (fun _ => False) NoB w2 wx)
            case first =>
              cases c
              case true =>
                have HR1 : Hid (r = 1) := Lib.hid (by have := eq_of_beq hc; omega)
                go_wp2_with fail
                refine (vmkdir_any V6.out pDa).mono ?_
                rintro e w7 ⟨rfl, h7, k7⟩
                have V7 : Hid (VAt E w1.heap.size (fun _ => False) p (lsV i (r + 1)) w7) := Lib.hid (by
                  have hr1 := HR1.out
                  rw [hr1] at h7 ⊢
                  rw [ls_mk1 (by have := HN.out; omega)] at h7
                  exact h7)
                have K7 := Lib.hid (K6.out.trans k7)
                clear h7 k7
                go_wp2_with fail
                go_meet
                case rel => exact ⟨V7.out, K7.out⟩
              case false =>
                have HR1 : Hid (r ≠ 1) := Lib.hid (by intro e; subst e; cases hc)
                go_wp2_with fail
                go_meet
                case rel => exact ⟨by rw [lsV_same HR1.out]; exact V6.out, K6.out⟩
            case rest =>
              obtain ⟨hvc, hkc⟩ := hcut
              obtain ⟨w7, rfl⟩ : ∃ w7, w7 = wc := ⟨_, rfl⟩
              have V7 := Lib.hid hvc
              have K7 := Lib.hid hkc
              clear hvc hkc hc V6 K6
              cases mb
              case true =>
                have hmo : Z < i - k := of_decide_eq_true HMB.out
                have hwr : wrap64 ((r : Int) + 1) = ((r + 1 : Nat) : Int) := by have := HKR.out; unfold wrap64; omega
                have HNX : Hid (k' = (r + 1) * Z ∧ k' < i) := Lib.hid (by
                  have h1 := HKR.out.1
                  have h2 := HLEN.out
                  have h3 := HK'.out
                  rw [Nat.add_mul, Nat.one_mul, ← h1]
                  omega)
                have HR := Lib.hid HKR.out.2.2.2
                clear hmo
                go_wp2
                go_roundw
                case rel => exact ⟨r + 1, k', rfl, rfl, by rw [hwr], HNX.out.1, .inr HNX.out.2, V7.out, K7.out⟩
                case measure =>
                  have h3 := HR.out
                  rw [hwr]
                  simp only [intOf, Int.toNat_natCast]
                  clear hwr
                  omega
              case false =>
                have hmo : ¬ Z < i - k := of_decide_eq_false HMB.out
                obtain rfl : k' = i := by have h1 := HLEN.out; have h2 := HK'.out; have h3 := HKR.out.2.2.1; omega
                clear hmo
                go_wp2_with fail
                refine (vlist_any V7.out pNone noText 5).mono ?_
                rintro e w8 ⟨⟨v, rfl, hs⟩, h8, k8⟩
                rw [lsV_none] at hs ⊢
                have V8 := Lib.hid h8
                have K8 := Lib.hid (K7.out.trans k8)
                clear hs h8 k8
                go_wp2_with fail
                refine (is_of 109 109 (by decide) w8 V8.out.env.toEnv).mono ?_
                rintro e w9 ⟨rfl, hb9⟩
                rw [show ((109 : Int) == 109) = true from rfl]
                have hb := BLW.out _ (K8.out.then hb9)
                have HBF := Lib.hid hb
                clear hb hb9
                go_wp2
                rw [← HP.out]
                first
                  | exact ⟨rfl, HBF.out⟩
                  | (go_ret; exact ⟨rfl, HBF.out⟩)
end
end Go.Proofs.YtjekpbkmhgfhoaaGreatDoor
end

section
/- What the card of VolLists asks beside the walk. -/
namespace Go.Proofs.YtjekpbkmhgfhoaaGreatDoor.volLists
open Go.ChangeShapes Go.WideShapes Go.ChangeAt Go.RowKit
set_option maxRecDepth 100000

theorem own : ownKnob Tryz.prog.godebug = none := by kernel_rfl
theorem door_met (os : Os) (args : Array Value) : laidMetH Tryz.prog Rows.volListsRow.laid ((World.laidAll Tryz.prog os Rows.volListsRow.laid).forCall (fun _ _ => 0) ⟨#[], args, []⟩).memory := by
  rw [MakeChecks.laidMetH_plain _ _ _ (by kernel_rfl)]
  exact laidMet_laidAll _ (by kernel_rfl) (by kernel_rfl)
theorem joined : joinedFacts Tryz.prog 4 Tryz.f4 Rows.volListsSpec Rows.volListsRow = true := by
  unfold joinedFacts
  rw [seat_laidOut, seat_mapsRowed, seat_stopsHeard, seat_mayEnter, seat_plainKeys, seat_lifted, seat_make]
  kernel_rfl
theorem inst : Tryz.f4.isInstance Tryz.prog Rows.volListsRow.origin Rows.volListsRow.targs := of_decide_eq_true (by kernel_rfl)
theorem wrap : Tryz.f4.isWrapper Tryz.prog Rows.volListsRow.wrapper Rows.volListsRow.mainSum := by
  unfold Func.isWrapper
  first | (rw [if_pos (by decide +kernel)]; kernel_rfl) | (rw [if_neg (by decide +kernel)]; exact ⟨rfl, rfl⟩)
end Go.Proofs.YtjekpbkmhgfhoaaGreatDoor.volLists
end

section
namespace Go.Proofs.YtjekpbkmhgfhoaaGreatDoor.volLists
open Go.ChangeShapes Go.WideShapes Go.ChangeAt Go.RowKit
set_option maxRecDepth 100000

theorem lifted (os : Os) (started : os.Started) (H : Type) (enc : TypeId × Value → H) :
    ReturnsInHanded {} Tryz.checked os 4 .any (fun w args => (Rows.volListsSpec.pre enc Tryz.prog Tryz.f4 [] false w args ∧ laidMetH Tryz.prog Rows.volListsRow.laid w) ∧ sizedMet enc Tryz.prog Tryz.f4 (OpenSpec.ofChange Rows.volListsSpec) false w args)
      (Rows.volListsSpec.post enc Tryz.prog Tryz.f4 false true false false) := by
  refine handed_and_shaped (C := Tryz.checked) (X := fun w _ => laidMetH Tryz.prog Rows.volListsRow.laid w) (fun _ _ _ hh h => h.of_heap hh) own started (by kernel_rfl) Tryz.func4
    (ChangeSpec.witness_shaped (enc := enc) (C := Tryz.checked) (os := os) (X := fun w _ => laidMetH Tryz.prog Rows.volListsRow.laid w) false (World.laidAll Tryz.prog os Rows.volListsRow.laid) #[.int .i64 0, .int .i64 0] 8 (World.laidAll_os _ _ _) (World.shaped_of_ZipB (by kernel_rfl) (by kernel_rfl)) (by kernel_rfl) (by kernel_rfl) (by kernel_rfl) (door_met os _)) ?_
  intro W base args ds gs before hval0 hW _ _ hL hSh _
  have hval : ∀ (j : Nat) t v, Tryz.f4.params[j]? = some t → args[j]? = some v → Value.okWide Tryz.prog W .any base t v := hval0
  have hW' := hW
  obtain ⟨p, q, hA0, hV, rfl, hfz, hnd⟩ := hW
  have hA : DataW.TrodAll enc Tryz.prog W 0 (fun _ => true) true Tryz.f4.params.toList args.toList ds p := hA0
  rw [Tryz.params4] at hA hval
  obtain ⟨v0, vs0, d0, ds0, p0, q0, hargs, rfl, rfl, h0, r0⟩ := trodAll_cons hA
  obtain ⟨v1, vs1, d1, ds1, p1, q1, rfl, rfl, rfl, h1, r1⟩ := trodAll_cons r0
  obtain ⟨rfl, rfl, rfl⟩ := trodAll_nil r1
  obtain rfl : args = #[v0, v1] := by cases args; simp_all
  obtain ⟨rfl, rfl⟩ := trodVars_none hV
  obtain ⟨a0, rfl, rfl, rfl, w0⟩ := open_int Tryz.underlying3 (hval 0 3 v0 rfl rfl) h0
  obtain ⟨a1, rfl, rfl, rfl, w1⟩ := open_int Tryz.underlying3 (hval 1 3 v1 rfl rfl) h1
  obtain ⟨E, hE0⟩ := env_of_laid_mid 4 24 hL (by kernel_rfl) (by kernel_rfl) (by kernel_rfl)
  have hE := envM_of hE0 hSh
  have hT : TabOk W := tab_of_laid 2 hL (by kernel_rfl) rfl

  clear hA0 hval0
  simp only [List.append_nil] at hW'
  refine (vollists_any a0 a1 W hT hE).mono fun e W' ⟨he, bel⟩ => ?_
  subst he
  exact ⟨_, rfl, _, _, _, [], [], [], hW', trodAll_mk1 (shut_bool Tryz.underlying4 _), (trodAll_cons_mk (shut_int Tryz.underlying3 w0) (trodAll_cons_mk (shut_int Tryz.underlying3 w1) trodAll_mk0)), rfl, bel.frame _, fun h => by cases h⟩
theorem over : Rows.volListsRow.holds Tryz.pinned (OpenSpec.ofChange Rows.volListsSpec) :=
  OpenClaim.holds_of_wide 4 Tryz.f4 rfl rfl rfl rfl rfl rfl rfl ⟨rfl, rfl, rfl, rfl, rfl⟩ rfl rfl rfl rfl rfl (by kernel_rfl) Tryz.func4 joined inst wrap
    (fun os started H enc _ => lifted os started H enc)
theorem proved : Rows.VolListsCardSaid :=
  Claim7.holds_tied_plain_at .later [] Rows.volListsCard.laidKinds true Rows.volListsCard.stood.harness true
    over (fun _ h => by cases h) (by kernel_rfl) (fun _ h => by cases h) volLists_row_tie rfl ⟨rfl, rfl⟩ (by kernel_rfl) rfl
    (fun f fn hf hfn => by
      obtain rfl : f = 4 := Option.some.inj ((show Tryz.prog.funcNamed "breviary/breviarylaw21.VolLists" = some 4 by kernel_rfl).symm.trans hf) |>.symm
      obtain rfl : fn = Tryz.f4 := (Option.some.inj (Tryz.func4.symm.trans hfn)).symm
      exact ⟨by kernel_rfl, fun j t ht => by
        rw [Tryz.params4] at ht
        have hm : t ∈ [3, 3] := by
          have := Array.mem_of_getElem? ht
          simpa using this
        have hall : [3, 3].all (fun t => !(Tryz.prog.wantsStandIn t)) = true := by kernel_rfl
        have h := (List.all_eq_true.1 hall) t hm
        simp only [Bool.not_eq_true'] at h
        exact h⟩)
    (by kernel_rfl)
#print axioms proved
end Go.Proofs.YtjekpbkmhgfhoaaGreatDoor.volLists
end
