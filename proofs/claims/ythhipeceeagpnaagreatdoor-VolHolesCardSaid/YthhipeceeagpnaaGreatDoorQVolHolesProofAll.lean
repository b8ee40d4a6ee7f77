/- PROVED: Rows.VolHolesCardSaid: for every input the law VolHoles returns true, and each argument reads as before. Conditions: none beyond the listed package variables, which the card ties to the program's text. -/
import Derived.Test.YthhipeceeagpnaaGreatDoorQHBase44
import Derived.Test.YthhipeceeagpnaaGreatDoorQHBase21
import Derived.Test.YthhipeceeagpnaaGreatDoorRows
import Derived.Test.YthhipeceeagpnaaGreatDoorCards
import Derived.Test.YthhipeceeagpnaaGreatDoorTie
import Derived.Test.YthhipeceeagpnaaGreatDoorQHBase05
import Derived.Test.YthhipeceeagpnaaGreatDoorQHBase06
import Derived.Test.YthhipeceeagpnaaGreatDoorQHBase27
import Derived.Test.YthhipeceeagpnaaGreatDoorQHBase28
import Derived.ProofKit
import Derived.OpenShut
import Derived.ChangeOld
import Derived.LaidMore
import Derived.ChangeSame
import Derived.ChangeVars
import Derived.JoinedOf
import Derived.Lay
import Derived.MakeChecks
import Derived.SevenTiedAt
import Derived.Stop.Joined
import Derived.ChangeMaps5
section
/- The walk of VolHoles. -/
namespace Go.Proofs.YthhipeceeagpnaaGreatDoor
open Go Go.RowKit
set_option maxRecDepth 100000
set_option linter.unusedSimpArgs false
set_option linter.unusedVariables false
attribute [local go_sem] giv
theorem file_blocks {nm : ByteArray} {g : Nat → FBlk} {sz pos q : Int} : (fileV nm g sz pos q).blocks = nBlk g := by
  unfold V.blocks fileV
  simp [nBlk_none]
theorem lay_lt {g : Nat → FBlk} (hg : ∀ i, g i ≠ none → i < 64) (a : Nat) (b : List Int) (h : a + b.length ≤ 16384) : ∀ i, layAt g a b i ≠ none → i < 64 := fun i hi => by
  by_cases he : layF b.length g a b i = g i
  · exact hg i (by unfold layAt at hi; rw [he] at hi; exact hi)
  · have := (layF_blocks b.length g a b (Nat.le_refl _) i).1 he
    omega
theorem holes_read {A N S pos : Nat} {g : Nat → FBlk} (hg : layAt (fun _ => none) A (List.replicate N (1 : Int)) = g) (h1 : A + N = S) (h2 : S ≤ 16384) (hp : pos ≤ S) : ∃ l : List Int, l.length = min 1000 (S - pos) ∧ readV (fileV nmF g S pos 100) 0 1000 = (0, l, fileV nmF g S ((pos + min 1000 (S - pos) : Nat) : Int) 100) ∧ ∀ i, i < l.length → l.getD i 0 = if A ≤ pos + i then 1 else 0 := by
  have hl : ∀ i, g i ≠ some none := by rw [← hg]; exact laid_lost (fun i h => by cases h) _ _
  rcases Nat.lt_or_ge pos S with hlt | hge
  · have hf := file_read (nm := nmF) (g := g) (sz := S) (pos := pos) (q := 100) (n := 1000) (by omega) (by omega) (by decide) (by omega) hl
    have hk : (min (min (1000 : Int) 1024) ((S : Int) - (pos : Int))).toNat = min 1000 (S - pos) := by omega
    have hk2 : (pos : Int) + min (min (1000 : Int) 1024) ((S : Int) - (pos : Int)) = ((pos + min 1000 (S - pos) : Nat) : Int) := by omega
    rw [hk, hk2, Int.toNat_natCast] at hf
    have hw : Wf g := by
      rw [← hg]
      exact layAt_wf none_wf _ _
    refine ⟨_, ?_, hf, fun i hi => ?_⟩
    · rw [readAt_eq hw, List.length_map, List.length_range]
    · rw [readAt_eq hw, List.length_map, List.length_range] at hi
      rw [readAt_eq hw, List.getD_eq_getElem?_getD, List.getElem?_map, List.getElem?_range hi]
      simp only [Option.map_some, Option.getD_some]
      rw [← hg, hole_byte, List.length_replicate]
      by_cases hA : A ≤ pos + i
      · rw [if_pos ⟨hA, by omega⟩, if_pos hA]
        simp [List.getD_eq_getElem?_getD, show pos + i - A < N by omega]
      · rw [if_neg (fun h => hA h.1), if_neg hA]
  · obtain rfl : pos = S := by omega
    refine ⟨[], by simp, ?_, fun i hi => by simp at hi⟩
    rw [file_end (by decide) (by omega), Nat.sub_self]
    rfl
section
variable {E : Nat → Addr} {B : Nat} {w w' : World}
set_option maxHeartbeats 2000000 in
theorem volholes_any (a n : Int) (w : World) (hE : EnvM E B w) :
    Calls Tryz.prog 3 #[.int .i64 a, .int .i64 n] w fun e w' => e = .returned (.bool true) ∧ Below B w w' := by
  have HE := Lib.hid hE
  generalize hP : (fun (e : Ending) (w' : World) => e = .returned (.bool true) ∧ Below B w w') = Post
  have HP := Lib.hid hP
  clear hP hE
  go_enter Tryz.func3, Tryz.ntmps3
  go_wp2_with fail
  refine (first_any (HE.out.up HE.out.size (Nat.le_refl _))).mono ?_
  rintro e w1 ⟨rfl, hb1⟩
  have HB1 := Lib.hid hb1
  have HE1 := Lib.hid ((HE.out.up HE.out.size (Nat.le_refl _)).below hb1)
  clear hb1
  go_wp2_with fail
  refine (number_any a 15000 (by decide) w1).mono ?_
  rintro e w1' ⟨rfl, rfl⟩
  obtain ⟨A, hA⟩ : ∃ A : Nat, a % 15000 = A := ⟨(a % 15000).toNat, by omega⟩
  have hA2 : A < 15000 := by omega
  rw [hA]
  clear hA
  go_wp2_with fail
  refine (number_any n 900 (by decide) w1).mono ?_
  rintro e w1' ⟨rfl, rfl⟩
  obtain ⟨N0, hN⟩ : ∃ N0 : Nat, n % 900 = N0 := ⟨(n % 900).toNat, by omega⟩
  have hN2 : N0 < 900 := by omega
  rw [hN]
  clear hN
  obtain ⟨N, hN⟩ : ∃ N, N0 + 1 = N := ⟨_, rfl⟩
  have hw1 : wrap64 ((N0 : Int) + 1) = (N : Int) := by unfold wrap64; omega
  have HAN : Hid (A < 15000 ∧ 1 ≤ N ∧ N ≤ 900) := Lib.hid ⟨hA2, by omega, by omega⟩
  have h1c : (1 : Int) ≤ (N : Int) := by omega
  clear hN hN2 hA2
  go_wp2_with fail
  rw [hw1]
  refine (vnew_any (L := fun _ => False) (HE1.out.up HE1.out.size (Nat.le_refl _)) (fun _ h => h.elim) 100).mono ?_
  rintro e w2 ⟨⟨p, rfl, hv2, hpv⟩, hb2⟩
  have V2 := Lib.hid hv2
  have HB2 := Lib.hid hb2
  clear hv2 hb2 hpv hw1
  go_wp2_with fail
  refine (vopen_new V2.out (x := pF) pF_look).mono ?_
  rintro e w3 ⟨rfl, h3, k3⟩
  rw [open_new (by decide)] at h3 ⊢
  have V3 := Lib.hid h3
  have K3 := Lib.hid k3
  clear h3 k3
  rw [errOf_zero]
  go_wp2_with fail
  refine (vseek_any V3.out 0 (in64_of (by decide) (by decide)) (q := (A : Int)) (in64_of (by omega) (by have := HAN.out; omega))).mono ?_
  rintro e w4 ⟨rfl, h4, k4⟩
  rw [file_seek (by omega) (by have := HAN.out; omega)] at h4 ⊢
  have V4 := Lib.hid h4
  have K4 := Lib.hid (K3.out.trans k4)
  clear h4 k4
  rw [errOf_zero]
  go_wp2_with fail
  refine (ones_any w4 (by have := HAN.out; omega)).mono ?_
  rintro e w5 ⟨⟨h, rfl, hr, hh⟩, hb5⟩
  have V5 := Lib.hid (V4.out.below hb5)
  have K5 := Lib.hid (K4.out.then hb5)
  obtain ⟨b, hb⟩ : ∃ b, List.replicate N (1 : Int) = b := ⟨_, rfl⟩
  have hbl : b.length = N := by rw [← hb, List.length_replicate]
  have HBE := Lib.hid hb
  have HBL := Lib.hid hbl
  have S5 : Hid (SlK w1.heap.size (fun _ => False) w5 (some ⟨h, 0, none⟩) b) := Lib.hid (fun _ => ⟨h, 0, rfl, .inr (.inr (by
    have h1 := HAN.out
    obtain ⟨k, hk⟩ : ∃ k, N = k + 1 := ⟨N - 1, by omega⟩
    rw [hk, List.replicate_succ] at hr
    exact hr.plain (plainI _ _))), hr.lt, fun i hi => by
      rw [Nat.zero_add, hr.cell, ← hb]
      rw [hbl] at hi
      simp [hi, List.getD_eq_getElem?_getD]⟩)
  clear hb hbl hr hh hb5
  go_wp2_with fail
  have HWR : Hid (writeV (fileV nmF (fun _ => none) 0 A 100) 0 b = (0, (N : Int), fileV nmF (layAt (fun _ => none) A b) ((A : Int) + N) ((A : Int) + N) 100)) := Lib.hid (by
    have h1 := HAN.out
    have h2 := HBL.out
    have hbn : b ≠ [] := fun e => by rw [e] at h2; simp at h2; omega
    have := file_write (nm := nmF) (g := fun _ => none) (sz := 0) (pos := A) (q := 100) (b := b) (by omega) (by omega) hbn (by omega) (fun i h => by cases h) (by
      have := nBlk_laid (at' := A) (b := b) hbn (by omega)
      simp only [Int.toNat_natCast]
      rw [this]
      omega)
    rw [this, h2, Int.toNat_natCast, Int.max_eq_right (by omega)])
  have hbl2 := HBL.out
  rw [← hbl2]
  refine (vwrite_any (b := b) (cap := b.length) V5.out (fd := 0) (x := ⟨2, A⟩) rfl (r := ⟨⟨2, 1, 1, 0, noText, 0⟩, []⟩) rfl rfl (fun i h => by cases h) S5.out (Nat.le_refl _) (by rw [hbl2]; have := HAN.out; unfold maxLen; omega)).mono ?_
  rintro e w6 ⟨rfl, h6, k6⟩
  rw [HWR.out] at h6 ⊢
  rw [hbl2]
  obtain ⟨g, hg⟩ : ∃ g, layAt (fun _ => none) A b = g := ⟨_, rfl⟩
  have HG := Lib.hid hg
  rw [hg] at h6
  have V6 := Lib.hid h6
  have K6 := Lib.hid (K5.out.trans k6)
  clear h6 k6 hbl2 hg S5 V5 K5
  rw [errOf_zero]
  go_wp2_with fail
  refine (vfstat_any V6.out (fd := 0) (by decide) (x := ⟨2, (A : Int) + N⟩) rfl (n := ⟨2, 1, 1, (A : Int) + N, noText, 0⟩) rfl (in64_of (by show (0 : Int) ≤ 2; decide) (by show (2 : Int) ≤ 16777215; decide))).mono ?_
  rintro e w7 ⟨rfl, hb7⟩
  have hst : staC (statN (fileV nmF g ((A : Int) + N) ((A : Int) + N) 100) ⟨2, 1, 1, (A : Int) + N, noText, 0⟩) = .agg #[.int .i64 2, .int .i64 1, .int .i64 1, .int .i64 ((A : Int) + N), .int .i64 (nBlk g)] := rfl
  rw [hst]
  obtain ⟨D, hD⟩ : ∃ D, w7.heap.size = D := ⟨_, rfl⟩
  obtain ⟨T, hT⟩ : ∃ T, nBlk g = T := ⟨_, rfl⟩
  rw [hT]
  have HTE := Lib.hid hT
  obtain ⟨w8, hw8⟩ : ∃ w8, w8 = w7.alloc (.cells #[.int .i64 2, .int .i64 1, .int .i64 1, .int .i64 ((A : Int) + N), .int .i64 T] 35) := ⟨_, rfl⟩
  have hb8 : Below w7.heap.size w7 w8 := by rw [hw8]; exact bl_alloc (Below.refl _ _) _
  have R8 : Hid (Row w8 D 35 [.int .i64 2, .int .i64 1, .int .i64 1, .int .i64 ((A : Int) + N), .int .i64 T]) := Lib.hid (by rw [hw8, ← hD]; exact Row.new _ _ _)
  have V8 := Lib.hid ((V6.out.below hb7).below hb8)
  have K8 := Lib.hid ((K6.out.then hb7).then hb8)
  have HW8 := Lib.hid hw8
  have HTN : Hid (T = (A + N - 1) / 256 - A / 256 + 1) := Lib.hid (by
    have h1 := HAN.out
    have h2 := HBL.out
    have hbn : b ≠ [] := fun e => by rw [e] at h2; simp at h2; omega
    have := nBlk_laid (at' := A) (b := b) hbn (by omega)
    rw [HG.out, h2] at this
    rw [← HTE.out]
    exact this)
  have HD8 := Lib.hid hD
  clear hw8 hb8 hb7 hD hT hst
  have e1 : wrap64 ((A : Int) + (N : Int)) = (A : Int) + (N : Int) := by have := HAN.out; unfold wrap64; omega
  have e2 : wrap64 ((A : Int) + (N : Int) - 1) = (A : Int) + (N : Int) - 1 := by have := HAN.out; unfold wrap64; omega
  have e3 : ((A : Int) + (N : Int) - 1).tdiv 256 = (((A + N - 1) / 256 : Nat) : Int) := by
    have := HAN.out
    rw [show (A : Int) + (N : Int) - 1 = ((A + N - 1 : Nat) : Int) by omega]
    rfl
  have e4 : (A : Int).tdiv 256 = ((A / 256 : Nat) : Int) := rfl
  obtain ⟨U1, hU1⟩ : ∃ U1, (A + N - 1) / 256 = U1 := ⟨_, rfl⟩
  obtain ⟨U2, hU2⟩ : ∃ U2, A / 256 = U2 := ⟨_, rfl⟩
  rw [hU1] at e3
  rw [hU2] at e4
  have e5 : wrap64 (wrap64 ((U1 : Int) - (U2 : Int)) + 1) = (T : Int) := by
    have h1 := HAN.out
    have h2 := HTN.out
    unfold wrap64
    omega
  have e6 : wrap64 (U1 : Int) = (U1 : Int) := by
    have := HAN.out
    unfold wrap64
    omega
  have e7 : wrap64 (U2 : Int) = (U2 : Int) := by
    have := HAN.out
    unfold wrap64
    omega
  clear hU1 hU2
  have hfl : ∀ (a b c : Int) (w : World), (Instr.field 39 (.agg #[.int .i64 a, .int .i64 b, .int .i64 c]) 2).run Tryz.prog w = .ok (.int .i64 c) w := fun _ _ _ _ => rfl
  go_wp2_with fail
  rw [← HW8.out, e5]
  simp only [HD8.out]
  refine (vcount_any V8.out).mono ?_
  rintro e w9 ⟨rfl, h9, k9⟩
  rw [file_blocks, HTE.out]
  have V9 := Lib.hid h9
  have K9 := Lib.hid (K8.out.trans k9)
  clear h9 k9 e1 e2 e3 e4 e5 e6 e7
  go_wp2_with fail
  refine (vseek_any V9.out 0 (in64_of (by decide) (by decide)) (q := 0) (in64_of (by decide) (by decide))).mono ?_
  rintro e wa ⟨rfl, ha, ka⟩
  rw [file_seek (by decide) (by decide)] at ha ⊢
  have VA0 := Lib.hid ha
  have KA0 := Lib.hid (K9.out.trans ka)
  clear ha ka
  rw [errOf_zero]
  go_wp2_with fail
  obtain ⟨S, hS⟩ : ∃ S, A + N = S := ⟨_, rfl⟩
  have hSi : (A : Int) + (N : Int) = (S : Int) := by omega
  rw [hSi] at VA0
  have HS := Lib.hid hS
  clear hS hSi
  go_loopw [14, 15, 16, 17, 18] (fun v14 v15 _ _ _ wr => ∃ r pos : Nat, v15 = .int .i64 r ∧ v14 = .int .i64 pos ∧ r ≤ 30 ∧ pos = min (1000 * r) S ∧ VAt E w1.heap.size (fun _ => False) p (fileV nmF g S pos 100) wr ∧ KV w1.heap.size (fun _ => False) NoB w2 wr) (fun _ v15 _ _ _ _ => 30 - (intOf v15).toNat)
  case atStart => exact ⟨0, 0, rfl, rfl, by omega, by simp, VA0.out, KA0.out⟩
  case round =>
    obtain ⟨r, pos, rfl, rfl, hr, hpos, hv, hk⟩ := hrel
    have HV := Lib.hid hv
    have HK := Lib.hid hk
    have HR := Lib.hid (And.intro hr hpos)
    clear hr hpos hv hk
    by_cases hlt : r < 30
    case neg =>
      obtain rfl : pos = S := by have := HR.out; have := HS.out; have := HAN.out; omega
      have hlt2 : ¬ ((r : Int) < 30) := by omega
      have e1 : wrap64 ((A : Int) + (N : Int)) = (pos : Int) := by have := HAN.out; have := HS.out; unfold wrap64; omega
      clear hlt
      go_wp2
      rw [← HP.out]
      have hb : Below B w wr := (HB1.out.trans ((HB2.out.trans (HK.out.below HB2.out.size)).mono HB1.out.size)).mono HE.out.size
      first
        | exact ⟨rfl, hb⟩
        | (go_ret; exact ⟨rfl, hb⟩)
    case pos =>
      have hlt2 : (r : Int) < 30 := by omega
      obtain ⟨l, hll, hrd, hby⟩ := holes_read (A := A) (N := N) (S := S) (pos := pos) (g := g) (by rw [HBE.out]; exact HG.out) HS.out (by have := HAN.out; have := HS.out; omega) (by have := HR.out; omega)
      have HRD := Lib.hid (And.intro hll (And.intro hrd hby))
      have HNL : Hid (∀ i, g i ≠ some none) := Lib.hid (by rw [← HG.out]; exact laid_lost (fun i h => by cases h) _ _)
      have HLT := Lib.hid hlt
      clear hll hrd hby hlt
      go_wp2_with fail
      refine (vread_any HV.out (fd := 0) (x := ⟨2, pos⟩) rfl (r := ⟨⟨2, 1, 1, S, noText, 0⟩, []⟩) rfl HNL.out (m := 1000) (in64_of (by decide) (by decide)) (by decide)).mono ?_
      rintro e wb ⟨⟨v, rfl, hs⟩, hb, kb⟩
      rw [HRD.out.2.1] at hb hs ⊢
      have HVB := Lib.hid hb
      have HKB := Lib.hid (HK.out.trans kb)
      have HSB := Lib.hid hs
      obtain ⟨sp, cap, hv⟩ := hs.shape
      subst hv
      clear hs hb kb hlt2
      rw [errOf_zero]
      go_wp2_with fail
      have HLL : Hid (l.length ≤ 1000) := Lib.hid (by have := HRD.out.1; omega)
      go_loopw [18] (fun v18 wi => ∃ i : Nat, v18 = .int .i64 i ∧ i ≤ l.length ∧ wi = wb) (fun v18 _ => l.length - (intOf v18).toNat)
      case atStart => exact ⟨0, rfl, Nat.zero_le _, rfl⟩
      case round =>
        obtain ⟨i, rfl, hi, hwi⟩ := hrel
        subst hwi
        by_cases hil : i < l.length
        case pos =>
          have hil2 : (i : Int) < (l.length : Int) := by omega
          obtain ⟨sp', cap', he, h1, h2, h3⟩ := HSB.out.rd (fun _ => rfl)
          injection he with e1 e2 e3
          subst e1 e3
          obtain ⟨h, off, rfl, h5, h6⟩ := h3 (by rintro rfl; simp at hil)
          have hc := h6 i 0 hil (by decide)
          have hx := HRD.out.2.2 i hil
          have hgi : l[i]? = some (l.getD i 0) := by rw [List.getD_eq_getElem?_getD, List.getElem?_eq_getElem hil]; rfl
          rw [hgi, hx] at hc
          simp only [Nat.mul_one, Nat.add_zero] at hc
          have hw : wrap64 ((pos : Int) + (i : Int)) = (pos : Int) + (i : Int) := by have := HLL.out; have := HR.out; have := HS.out; have := HAN.out; unfold wrap64; omega
          have hw2 : wrap64 ((i : Int) + 1) = (i : Int) + 1 := by have := HLL.out; unfold wrap64; omega
          clear h1 h2 h3 h6 hx hgi e2
          by_cases hA : A ≤ pos + i
          · rw [if_pos hA] at hc
            have hc' : wr.cell? ⟨h, off + i, none⟩ = some (.int .u8 1) := hc
            have hA2 : (A : Int) ≤ (pos : Int) + (i : Int) := by omega
            clear hc hA
            go_wp2
            go_roundw
            case rel => exact ⟨i + 1, by rw [hw2]; rfl, by omega, by first | trivial | rfl⟩
            case measure => rw [hw2]; simp only [intOf]; omega
          · rw [if_neg hA] at hc
            have hc' : wr.cell? ⟨h, off + i, none⟩ = some (.int .u8 0) := hc
            have hA2 : ¬ ((A : Int) ≤ (pos : Int) + (i : Int)) := by omega
            clear hc hA
            go_wp2
            go_roundw
            case rel => exact ⟨i + 1, by rw [hw2]; rfl, by omega, by first | trivial | rfl⟩
            case measure => rw [hw2]; simp only [intOf]; omega
        case neg =>
          have hil2 : ¬ ((i : Int) < (l.length : Int)) := by omega
          have hw : wrap64 ((pos : Int) + (l.length : Int)) = ((pos + l.length : Nat) : Int) := by have := HLL.out; have := HR.out; have := HS.out; have := HAN.out; unfold wrap64; omega
          have hw2 : wrap64 ((r : Int) + 1) = ((r + 1 : Nat) : Int) := by have := HR.out; unfold wrap64; omega
          go_wp2
          go_roundw
          case rel =>
            have h1 := HRD.out.1
            have h2 := HR.out
            have h3 := HLT.out
            exact ⟨r + 1, pos + l.length, by rw [hw2], by rw [hw], by omega, by omega, by rw [h1]; exact HVB.out, HKB.out⟩
          case measure =>
            have h3 := HLT.out
            rw [hw2]
            simp only [intOf, Int.toNat_natCast]
            clear hw hw2 hil hil2 hi
            omega
end
end Go.Proofs.YthhipeceeagpnaaGreatDoor
end

section
/- What the card of VolHoles asks beside the walk. -/
namespace Go.Proofs.YthhipeceeagpnaaGreatDoor.volHoles
open Go.ChangeShapes Go.WideShapes Go.ChangeAt Go.RowKit
set_option maxRecDepth 100000

theorem own : ownKnob Tryz.prog.godebug = none := by kernel_rfl
theorem door_met (os : Os) (args : Array Value) : laidMetH Tryz.prog Rows.volHolesRow.laid ((World.laidAll Tryz.prog os Rows.volHolesRow.laid).forCall (fun _ _ => 0) ⟨#[], args, []⟩).memory := by
  rw [MakeChecks.laidMetH_plain _ _ _ (by kernel_rfl)]
  exact laidMet_laidAll _ (by kernel_rfl) (by kernel_rfl)
theorem joined : joinedFacts Tryz.prog 3 Tryz.f3 Rows.volHolesSpec Rows.volHolesRow = true := by
  unfold joinedFacts
  rw [seat_laidOut, seat_mapsRowed, seat_stopsHeard, seat_mayEnter, seat_plainKeys, seat_lifted, seat_make]
  kernel_rfl
theorem inst : Tryz.f3.isInstance Tryz.prog Rows.volHolesRow.origin Rows.volHolesRow.targs := of_decide_eq_true (by kernel_rfl)
theorem wrap : Tryz.f3.isWrapper Tryz.prog Rows.volHolesRow.wrapper Rows.volHolesRow.mainSum := by
  unfold Func.isWrapper
  first | (rw [if_pos (by decide +kernel)]; kernel_rfl) | (rw [if_neg (by decide +kernel)]; exact ⟨rfl, rfl⟩)
end Go.Proofs.YthhipeceeagpnaaGreatDoor.volHoles
end

section
namespace Go.Proofs.YthhipeceeagpnaaGreatDoor.volHoles
open Go.ChangeShapes Go.WideShapes Go.ChangeAt Go.RowKit
set_option maxRecDepth 100000

theorem lifted (os : Os) (started : os.Started) (H : Type) (enc : TypeId × Value → H) :
    ReturnsInHanded {} Tryz.checked os 3 .any (fun w args => (Rows.volHolesSpec.pre enc Tryz.prog Tryz.f3 [] false w args ∧ laidMetH Tryz.prog Rows.volHolesRow.laid w) ∧ sizedMet enc Tryz.prog Tryz.f3 (OpenSpec.ofChange Rows.volHolesSpec) false w args)
      (Rows.volHolesSpec.post enc Tryz.prog Tryz.f3 false true false false) := by
  refine handed_and_shaped (C := Tryz.checked) (X := fun w _ => laidMetH Tryz.prog Rows.volHolesRow.laid w) (fun _ _ _ hh h => h.of_heap hh) own started (by kernel_rfl) Tryz.func3
    (ChangeSpec.witness_shaped (enc := enc) (C := Tryz.checked) (os := os) (X := fun w _ => laidMetH Tryz.prog Rows.volHolesRow.laid w) false (World.laidAll Tryz.prog os Rows.volHolesRow.laid) #[.int .i64 0, .int .i64 0] 8 (World.laidAll_os _ _ _) (World.shaped_of_ZipB (by kernel_rfl) (by kernel_rfl)) (by kernel_rfl) (by kernel_rfl) (by kernel_rfl) (door_met os _)) ?_
  intro W base args ds gs before hval0 hW _ _ hL hSh _
  have hval : ∀ (j : Nat) t v, Tryz.f3.params[j]? = some t → args[j]? = some v → Value.okWide Tryz.prog W .any base t v := hval0
  have hW' := hW
  obtain ⟨p, q, hA0, hV, rfl, hfz, hnd⟩ := hW
  have hA : DataW.TrodAll enc Tryz.prog W 0 (fun _ => true) true Tryz.f3.params.toList args.toList ds p := hA0
  rw [Tryz.params3] at hA hval
  obtain ⟨v0, vs0, d0, ds0, p0, q0, hargs, rfl, rfl, h0, r0⟩ := trodAll_cons hA
  obtain ⟨v1, vs1, d1, ds1, p1, q1, rfl, rfl, rfl, h1, r1⟩ := trodAll_cons r0
  obtain ⟨rfl, rfl, rfl⟩ := trodAll_nil r1
  obtain rfl : args = #[v0, v1] := by cases args; simp_all
  obtain ⟨rfl, rfl⟩ := trodVars_none hV
  obtain ⟨a0, rfl, rfl, rfl, w0⟩ := open_int Tryz.underlying3 (hval 0 3 v0 rfl rfl) h0
  obtain ⟨a1, rfl, rfl, rfl, w1⟩ := open_int Tryz.underlying3 (hval 1 3 v1 rfl rfl) h1
  obtain ⟨E, hE0⟩ := env_of_laid_mid 1 14 hL (by kernel_rfl) (by kernel_rfl) (by kernel_rfl)
  have hE := envM_of hE0 hSh

  clear hA0 hval0
  simp only [List.append_nil] at hW'
  refine (volholes_any a0 a1 W hE).mono fun e W' ⟨he, bel⟩ => ?_
  subst he
  exact ⟨_, rfl, _, _, _, [], [], [], hW', trodAll_mk1 (shut_bool Tryz.underlying4 _), (trodAll_cons_mk (shut_int Tryz.underlying3 w0) (trodAll_cons_mk (shut_int Tryz.underlying3 w1) trodAll_mk0)), rfl, bel.frame _, fun h => by cases h⟩
theorem over : Rows.volHolesRow.holds Tryz.pinned (OpenSpec.ofChange Rows.volHolesSpec) :=
  OpenClaim.holds_of_wide 3 Tryz.f3 rfl rfl rfl rfl rfl rfl rfl ⟨rfl, rfl, rfl, rfl, rfl⟩ rfl rfl rfl rfl rfl (by kernel_rfl) Tryz.func3 joined inst wrap
    (fun os started H enc _ => lifted os started H enc)
theorem proved : Rows.VolHolesCardSaid :=
  Claim7.holds_tied_plain_at .later [] Rows.volHolesCard.laidKinds true Rows.volHolesCard.stood.harness true
    over (fun _ h => by cases h) (by kernel_rfl) (fun _ h => by cases h) volHoles_row_tie rfl ⟨rfl, rfl⟩ (by kernel_rfl) rfl
    (fun f fn hf hfn => by
      obtain rfl : f = 3 := Option.some.inj ((show Tryz.prog.funcNamed "breviary/breviarylaw21.VolHoles" = some 3 by kernel_rfl).symm.trans hf) |>.symm
      obtain rfl : fn = Tryz.f3 := (Option.some.inj (Tryz.func3.symm.trans hfn)).symm
      exact ⟨by kernel_rfl, fun j t ht => by
        rw [Tryz.params3] at ht
        have hm : t ∈ [3, 3] := by
          have := Array.mem_of_getElem? ht
          simpa using this
        have hall : [3, 3].all (fun t => !(Tryz.prog.wantsStandIn t)) = true := by kernel_rfl
        have h := (List.all_eq_true.1 hall) t hm
        simp only [Bool.not_eq_true'] at h
        exact h⟩)
    (by kernel_rfl)
#print axioms proved
end Go.Proofs.YthhipeceeagpnaaGreatDoor.volHoles
end
