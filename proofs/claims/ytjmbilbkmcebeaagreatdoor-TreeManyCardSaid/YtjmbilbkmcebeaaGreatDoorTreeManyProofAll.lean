/- PROVED: Rows.TreeManyCardSaid: for every input the law TreeMany returns true, and each argument reads as before. Conditions: none beyond the listed package variables, which the card ties to the program's text. -/
import Derived.Test.YtjmbilbkmcebeaaGreatDoorBase30
import Derived.Test.YtjmbilbkmcebeaaGreatDoorBase29
import Derived.Test.YtjmbilbkmcebeaaGreatDoorBase28
import Derived.Test.YtjmbilbkmcebeaaGreatDoorBase22
import Derived.Test.YtjmbilbkmcebeaaGreatDoorBase12
import Derived.Test.YtjmbilbkmcebeaaGreatDoorItoaS
import Derived.Test.YtjmbilbkmcebeaaGreatDoorRows
import Derived.Test.YtjmbilbkmcebeaaGreatDoorCards
import Derived.Test.YtjmbilbkmcebeaaGreatDoorTie
import Derived.Test.YtjmbilbkmcebeaaGreatDoorBase05
import Derived.Test.YtjmbilbkmcebeaaGreatDoorBase06
import Derived.Test.YtjmbilbkmcebeaaGreatDoorBase31
import Derived.Test.YtjmbilbkmcebeaaGreatDoorBase32
import Derived.ProofKit
import Derived.OpenShut
import Derived.ChangeOld
import Derived.LaidMore
import Derived.ChangeSame
import Derived.ChangeVars
import Derived.JoinedOf
import Derived.Lay
import Derived.MakeChecks
import Derived.SevenTiedAt
import Derived.Stop.Joined
import Derived.ChangeMaps5
section
/- The walk of the law TreeMany. -/
namespace Go.Proofs.YtjmbilbkmcebeaaGreatDoor
open Go Go.RowKit
set_option maxRecDepth 100000
set_option linter.unusedSimpArgs false
set_option linter.unusedVariables false
attribute [local go_sem] giv
variable {E : Nat → Addr} {B : Nat}
theorem many_full : ∀ k, Full (manyS k)
  | 0 => makeT_full newSt_full fNm 1 noText
  | k + 1 => hardT_full (many_full k) fNm (gNm (k + 1))
theorem manyU_full (n : Nat) : ∀ k, Full (manyU n k)
  | 0 => many_full n
  | k + 1 => unlinkT_full (manyU_full n k) (gNm (k + 1))
theorem many_at {n : Nat} (h : n < 20) : manyOk n = true := List.all_eq_true.1 many_all n (by simpa using h)
theorem many_code {n k : Nat} (h : n < 20) (hk : k < n) : manyCode k = if k + 1 < 16 then 0 else 117 := by
  have := many_at h
  unfold manyOk at this
  simp only [Bool.and_eq_true, List.all_eq_true, List.mem_range, beq_iff_eq] at this
  exact this.1.1.1 k hk
theorem many_rest {n : Nat} (h : n < 20) : (freeT (manyS n) 2).1 = false ∧ (∀ k, k < min n 15 → (unlinkT (manyU n k) (gNm (k + 1))).1 = 0 ∧ (unlinkT (manyU n k) (gNm (k + 1))).2.1 = 2) ∧
    (unlinkT (manyU n (min n 15)) fNm).1 = 0 ∧ (unlinkT (manyU n (min n 15)) fNm).2.1 = 2 ∧ ((unlinkT (manyU n (min n 15)) fNm).2.2.get 2).isSome = true ∧ (unlinkT (manyU n (min n 15)) fNm).2.2.count = 0 ∧
    (freeT (unlinkT (manyU n (min n 15)) fNm).2.2 2).1 = true ∧ (freeT (freeT (unlinkT (manyU n (min n 15)) fNm).2.2 2).2 2).1 = false ∧ (freeT (unlinkT (manyU n (min n 15)) fNm).2.2 2).2.ns.length = 1 := by
  have := many_at h
  unfold manyOk at this
  simp only [Bool.and_eq_true, List.all_eq_true, List.mem_range, beq_iff_eq, Bool.not_eq_true'] at this
  obtain ⟨⟨⟨_, h2⟩, h3⟩, ⟨⟨⟨⟨⟨h4, h5⟩, h6⟩, h7⟩, h8⟩, h9⟩, h10⟩ := this
  exact ⟨h2, h3, h4, h5, h6, h7, h8, h9, h10⟩
theorem free_false {s : St} {k : Int} (h : (freeT s k).1 = false) : (freeT s k).2 = s := by
  unfold freeT at h ⊢
  cases hg : s.get k with
  | none => rfl
  | some n =>
    rw [hg] at h
    simp only at h ⊢
    split at h
    · rename_i hl
      rw [if_pos hl]
    · cases h
theorem num_many {j : Nat} (hj : j < 20) : (⟨#[47, 103]⟩ : ByteArray) ++ ⟨(Lib.decDigits j).toArray⟩ = gNm j := by
  have h : ∀ j, j < 20 → ((⟨#[47, 103]⟩ : ByteArray) ++ ⟨(Lib.decDigits j).toArray⟩).data.toList = (gNm j).data.toList := by decide +kernel
  have := h j hj
  exact ByteArray.ext (Array.toList_inj.1 this)
theorem many_first : (makeT newSt fNm 1 noText).1 = 0 ∧ (makeT newSt fNm 1 noText).2.1 = 2 ∧ (parseP fNm).1 = 0 := by decide +kernel
theorem tnum_any {x : Int} {j : Nat} (hx : x = j) (hj : j < 100) (w : World) : Calls Tryz.prog 39 #[.int .i64 x] w fun e w' => e = .returned (.string ⟨(Lib.decDigits j).toArray⟩) ∧ w = w' := by
  subst hx
  go_enter Tryz.func39, Tryz.ntmps39
  go_wp2_with fail
  refine (Tryz.strconv_Itoa_small j hj w).mono ?_
  rintro e w2 ⟨rfl, rfl⟩
  go_wp2
  go_ret
  exact ⟨rfl, rfl⟩

set_option maxHeartbeats 4000000 in
theorem treemany_any (n : Int) (w : World) (hE : EnvM E B w) :
    Calls Tryz.prog 10 #[.int .i64 n] w fun e w' => e = .returned (.bool true) ∧ Below B w w' := by
  have HE := Lib.hid hE
  generalize hP : (fun (e : Ending) (w' : World) => e = .returned (.bool true) ∧ Below B w w') = Post
  have HP := Lib.hid hP
  clear hP hE
  go_enter Tryz.func10, Tryz.ntmps10
  go_wp2_with fail
  refine (first_any HE.out).mono ?_
  rintro e w1 ⟨rfl, hb1⟩
  have HE1 := Lib.hid (HE.out.keep hb1)
  have HB1 := Lib.hid hb1
  clear hb1 HE
  go_wp2_with fail
  refine (number_any n 20 (by omega) _).mono ?_
  rintro e w2 ⟨rfl, rfl⟩
  obtain ⟨N, hN⟩ : ∃ N : Nat, n % 20 = N := ⟨(n % 20).toNat, by omega⟩
  have hN20 : N < 20 := by omega
  rw [hN]
  clear hN
  go_wp2_with fail
  refine (tnew_any (L := fun _ => False) w1 HE1.out.size (fun _ h => h.elim) HE1.out.toEnv).mono ?_
  rintro e w2 ⟨a, b, t, dm, rfl, ha, hta, hwb, hk⟩
  obtain ⟨L, hL⟩ : ∃ L : Nat → Prop, L = fun x => x = a ∨ False := ⟨_, rfl⟩
  rw [← hL] at hwb
  have HLA : Hid (L a) := Lib.hid (by rw [hL]; exact .inl rfl)
  have HTA := Lib.hid hta
  have HW := Lib.hid hwb
  have HB2 := Lib.hid (HB1.out.trans hk.below)
  have HE2 := Lib.hid (HE1.out.keep hk.below)
  clear hta hwb hk ha hL HB1 HE1
  go_wp2_with fail
  have hm0 : makeT newSt fNm 1 noText = (0, 2, manyS 0) := Prod.ext many_first.1 (Prod.ext many_first.2.1 rfl)
  refine (tmake_ok HTA.out HLA.out HW.out newSt_full fNm noText HE2.out many_first.2.2 ⟨by decide, by decide⟩).mono ?_
  rw [hm0]
  rintro e w3 ⟨rfl, h3, k3⟩
  have HTA3 := Lib.hid (HTA.out.kept HLA.out k3)
  have HW3 := Lib.hid h3
  have HB3 := Lib.hid (HB2.out.trans k3.below)
  have HE3 := Lib.hid (HE2.out.keep k3.below)
  clear h3 k3 hm0 HTA HW HB2 HE2
  simp only []
  rw [show errOf E 0 = .nilIface from rfl]
  go_wp2_with fail
  go_loopw [7, 8] (fun v _ wr => ∃ i : Nat, i ≤ N ∧ v = .int .i64 ((i + 1 : Nat) : Int) ∧ Hid (TA wr a b) ∧ Hid (WB B L wr b t dm (manyS i)) ∧ Hid (EnvM E B wr) ∧ Hid (Below B w wr)) (fun v _ _ => N + 1 - (intOf v).toNat)
  case atStart => exact ⟨0, Nat.zero_le _, rfl, HTA3, HW3, HE3, HB3⟩
  case round =>
    obtain ⟨i, hi, rfl, HTAr, HWr, HEr, HBr⟩ := hrel
    clear HTA3 HW3 HE3 HB3
    by_cases hiN : i < N
    · go_wp2_with fail
      refine (tnum_any (j := i + 1) (by omega) (by omega) wr).mono ?_
      rintro e w4 ⟨rfl, rfl⟩
      have hnm := num_many (show i + 1 < 20 by omega)
      have hfit : ¬ 9223372036854775807 < 2 + (Lib.decDigits (i + 1)).length := by
        have h : ∀ j, j < 21 → (Lib.decDigits j).length ≤ 2 := by decide +kernel
        have := h (i + 1) (by omega)
        omega
      go_wp2_with fail
      have hcode : (hardT (manyS i) fNm (gNm (i + 1))).1 = if i + 1 < 16 then 0 else 117 := many_code hN20 hiN
      have hst : (hardT (manyS i) fNm (gNm (i + 1))).2 = manyS (i + 1) := rfl
      refine (thard_any HTAr.out HLA.out HWr.out (many_full i) fNm (gNm (i + 1)) HEr.out).mono ?_
      unfold HardR
      rw [hcode, hst]
      rintro e w5 ⟨rfl, h5, k5⟩
      have HTA5 := Lib.hid (HTAr.out.kept HLA.out k5)
      have HW5 := Lib.hid h5
      have HE5 := Lib.hid (HEr.out.keep k5.below)
      have HB5 := Lib.hid (HBr.out.trans k5.below)
      clear h5 k5 hcode hst hnm hfit HTAr HWr HEr HBr
      by_cases h16 : i + 1 < 16
      · rw [if_pos h16, show errOf E 0 = .nilIface from rfl]
        have h16' : (i : Int) + 1 < 16 := by omega
        go_wp2
        go_roundw
        case rel => exact ⟨i + 1, by omega, by go_num, HTA5, HW5, HE5, HB5⟩
        case measure => simp [intOf]; omega
      · rw [if_neg h16]
        have h16' : ¬ (i : Int) + 1 < 16 := by omega
        obtain ⟨ad, had⟩ := errOf_some (E := E) (c := 117) (by omega)
        have hIs := is_of (E := E) (B := B) 117 117 (.inr (by omega)) w5 HE5.out.toEnv
        rw [had] at hIs ⊢
        have HIS := Lib.hid hIs
        clear hIs had
        go_wp2_with fail
        refine HIS.out.mono ?_
        rintro e w6 ⟨rfl, hb6⟩
        have HTA6 := Lib.hid (HTA5.out.below hb6)
        have HW6 := Lib.hid (HW5.out.below hb6)
        have HE6 := Lib.hid (HE5.out.below hb6)
        have HB6 := Lib.hid (HB5.out.trans (hb6.mono HE5.out.size))
        clear hb6
        go_wp2
        go_roundw
        case rel => exact ⟨i + 1, by omega, by go_num, HTA6, HW6, HE6, HB6⟩
        case measure => simp [intOf]; omega
    · have hiN2 : i = N := by omega
      subst hiN2
      clear hiN hi
      obtain ⟨r1, r2, r3, r4, r5, r6, r7, r8, r9⟩ := many_rest hN20
      have R2 := Lib.hid r2
      have R3 := Lib.hid (And.intro r3 (And.intro r4 (And.intro r5 (And.intro r6 (And.intro r7 (And.intro r8 r9))))))
      have hst := free_false r1
      have HR1 := Lib.hid (And.intro r1 hst)
      clear r1 r2 r3 r4 r5 r6 r7 r8 r9 hst
      go_wp2_with fail
      refine (tfree_any HTAr.out HWr.out (many_full i) (k := 2) (by omega)).mono ?_
      rw [HR1.out.1, HR1.out.2]
      rintro e w5 ⟨rfl, h5, k5⟩
      have HTA5 := Lib.hid (HTAr.out.kept HLA.out k5)
      have HW5 := Lib.hid h5
      have HE5 := Lib.hid (HEr.out.keep k5.below)
      have HB5 := Lib.hid (HBr.out.trans k5.below)
      clear h5 k5 HTAr HWr HEr HBr
      go_wp2_with fail
      go_loopw [9, 10, 11] (fun v _ _ wr => ∃ k : Nat, k ≤ min i 15 ∧ v = .int .i64 ((k + 1 : Nat) : Int) ∧ Hid (TA wr a b) ∧ Hid (WB B L wr b t dm (manyU i k)) ∧ Hid (EnvM E B wr) ∧ Hid (Below B w wr)) (fun v _ _ _ => i + 1 - (intOf v).toNat)
      case atStart => exact ⟨0, Nat.zero_le _, rfl, HTA5, HW5, HE5, HB5⟩
      case round =>
        obtain ⟨k, hk, rfl, HTAx, HWx, HEx, HBx⟩ := hrel
        clear HTA5 HW5 HE5 HB5
        by_cases hkN : k < min i 15
        · have hc : (k : Int) + 1 ≤ min (i : Int) 15 := by omega
          go_wp2_with fail
          have hk15 : k < 15 := Nat.lt_of_lt_of_le hkN (Nat.min_le_right _ _)
          refine (tnum_any (j := k + 1) (by omega) (by omega) _).mono ?_
          rintro e w6 ⟨rfl, rfl⟩
          have hnm := num_many (show k + 1 < 20 by omega)
          have hfit : ¬ 9223372036854775807 < 2 + (Lib.decDigits (k + 1)).length := by
            have h : ∀ j, j < 21 → (Lib.decDigits j).length ≤ 2 := by decide +kernel
            have := h (k + 1) (by omega)
            omega
          go_wp2_with fail
          obtain ⟨hc1, hc2⟩ := R2.out k hkN
          have hst : (unlinkT (manyU i k) (gNm (k + 1))).2.2 = manyU i (k + 1) := rfl
          refine (tunlink_any HTAx.out HLA.out HWx.out (manyU_full i k) (gNm (k + 1)) HEx.out).mono ?_
          unfold UnlR
          rw [hc1, hc2, hst, show errOf E 0 = .nilIface from rfl]
          rintro e w7 ⟨rfl, h7, k7⟩
          have HTA7 := Lib.hid (HTAx.out.kept HLA.out k7)
          have HW7 := Lib.hid h7
          have HE7 := Lib.hid (HEx.out.keep k7.below)
          have HB7 := Lib.hid (HBx.out.trans k7.below)
          clear h7 k7 hc1 hc2 hst hnm hfit HTAx HWx HEx HBx
          go_wp2
          go_roundw
          case rel => exact ⟨k + 1, by omega, by go_num, HTA7, HW7, HE7, HB7⟩
          case measure => simp [intOf]; omega
        · have hkk : k = min i 15 := by omega
          have hc : ¬ (k : Int) + 1 ≤ min (i : Int) 15 := by omega
          go_wp2_with fail
          subst hkk
          refine (tunlink_any HTAx.out HLA.out HWx.out (manyU_full i _) fNm HEx.out).mono ?_
          obtain ⟨Rf, hRf⟩ : ∃ Rf, unlinkT (manyU i (min i 15)) fNm = Rf := ⟨_, rfl⟩
          have hff := unlinkT_full (manyU_full i (min i 15)) fNm
          have h3 := R3.out
          rw [hRf] at h3 hff ⊢
          obtain ⟨c, d, S1⟩ := Rf
          simp only at h3 hff
          obtain ⟨rfl, rfl, q1, q2, q3, q4, q5⟩ := h3
          unfold UnlR
          rintro e w7 ⟨rfl, h7, k7⟩
          have HTA7 := Lib.hid (HTAx.out.kept HLA.out k7)
          have HW7 := Lib.hid h7
          have HB7 := Lib.hid (HBx.out.trans k7.below)
          have Q1 := Lib.hid q1
          have Q2 := Lib.hid q2
          have Q3 := Lib.hid q3
          have Q4 := Lib.hid q4
          have Q5 := Lib.hid q5
          have HFF := Lib.hid hff
          clear h7 k7 q1 q2 q3 q4 q5 hff hRf HTAx HWx HEx HBx
          simp only []
          rw [show errOf E 0 = .nilIface from rfl]
          obtain ⟨a0, al⟩ := HTA7.out
          have b0 := HW7.out.c0
          have bl0 := HW7.out.lt.1
          go_wp2_with fail
          refine (wl_get HW7.out (k := 2) (by omega)).mono ?_
          have his : (S1.nd 2).isSome = true := by unfold St.nd; simpa using Q1.out
          obtain ⟨nn, hnn⟩ : ∃ nn, (S1.nd 2).getD noNd = nn := ⟨_, rfl⟩
          rw [his, hnn]
          obtain ⟨n1, n2, n3, n4, n5, n6⟩ := nn
          rintro e w8 ⟨rfl, hb8⟩
          simp only [encN]
          have HTA8 := Lib.hid (HTA7.out.below hb8)
          have HW8 := Lib.hid (HW7.out.below hb8)
          have HB8 := Lib.hid (HB7.out.trans (hb8.mono HW7.out.1))
          clear hb8 his hnn a0 al b0 bl0
          go_wp2_with fail
          obtain ⟨w9, hw9⟩ : ∃ w9, w9 = w8.alloc (.cells #[.int .i64 n1, .int .i64 n2, .int .i64 n3, .int .i64 n4, .string n5, .int .i64 n6] 35) := ⟨_, rfl⟩
          have b89 : Below w8.heap.size w8 w9 := by rw [hw9]; exact bl_alloc (Below.refl _ _) _
          rw [← hw9]
          have HTA9 := Lib.hid (HTA8.out.below b89)
          have HW9 := Lib.hid (HW8.out.below b89)
          have HB9 := Lib.hid (HB8.out.trans (b89.mono HW8.out.1))
          clear hw9 b89
          refine (tentries_any HTA9.out HLA.out HW9.out HFF.out).mono ?_
          rw [Q2.out]
          rintro e w10 ⟨rfl, h10, k10⟩
          have HTA10 := Lib.hid (HTA9.out.kept HLA.out k10)
          have HW10 := Lib.hid h10
          have HB10 := Lib.hid (HB9.out.trans k10.below)
          clear h10 k10
          go_wp2_with fail
          refine (tfree_any HTA10.out HW10.out HFF.out (k := 2) (by omega)).mono ?_
          rw [Q3.out]
          have hf2 := freeT_full HFF.out 2
          obtain ⟨S2, hS2⟩ : ∃ S2, (freeT S1 2).2 = S2 := ⟨_, rfl⟩
          have q4 := Q4.out
          have q5 := Q5.out
          rw [hS2] at hf2 q4 q5 ⊢
          rintro e w11 ⟨rfl, h11, k11⟩
          have HTA11 := Lib.hid (HTA10.out.kept HLA.out k11)
          have HW11 := Lib.hid h11
          have HB11 := Lib.hid (HB10.out.trans k11.below)
          have Q4 := Lib.hid q4
          have Q5 := Lib.hid q5
          have HF2 := Lib.hid hf2
          clear h11 k11 q4 q5 hf2 hS2
          go_wp2_with fail
          refine (tfree_any HTA11.out HW11.out HF2.out (k := 2) (by omega)).mono ?_
          rw [Q4.out, free_false Q4.out]
          rintro e w12 ⟨rfl, h12, k12⟩
          have HTA12 := Lib.hid (HTA11.out.kept HLA.out k12)
          have HW12 := Lib.hid h12
          have HB12 := Lib.hid (HB11.out.trans k12.below)
          clear h12 k12
          obtain ⟨a0, al⟩ := HTA12.out
          have b0 := HW12.out.c0
          have bl0 := HW12.out.lt.1
          go_wp2_with fail
          refine (wl_len HW12.out).mono ?_
          rintro e w13 ⟨rfl, rfl⟩
          rw [Q5.out]
          go_wp2
          rw [← HP.out]
          exact ⟨by first | done | rfl, HB12.out⟩
end Go.Proofs.YtjmbilbkmcebeaaGreatDoor
end

section
namespace Go.Proofs.YtjmbilbkmcebeaaGreatDoor.treeMany
open Go.ChangeShapes Go.WideShapes Go.ChangeAt Go.RowKit
set_option maxRecDepth 100000

theorem own : ownKnob Tryz.prog.godebug = none := by kernel_rfl

theorem door_met (os : Os) (args : Array Value) : laidMetH Tryz.prog Rows.treeManyRow.laid ((World.laidAll Tryz.prog os Rows.treeManyRow.laid).forCall (fun _ _ => 0) ⟨#[], args, []⟩).memory := by
  rw [MakeChecks.laidMetH_plain _ _ _ (by kernel_rfl)]
  exact laidMet_laidAll _ (by kernel_rfl) (by kernel_rfl)

theorem lifted (os : Os) (started : os.Started) (H : Type) (enc : TypeId × Value → H) :
    ReturnsInHanded {} Tryz.checked os 10 .any (fun w args => (Rows.treeManySpec.pre enc Tryz.prog Tryz.f10 [] false w args ∧ laidMetH Tryz.prog Rows.treeManyRow.laid w) ∧ sizedMet enc Tryz.prog Tryz.f10 (OpenSpec.ofChange Rows.treeManySpec) false w args)
      (Rows.treeManySpec.post enc Tryz.prog Tryz.f10 false true false false) := by
  refine handed_and_shaped (C := Tryz.checked) (X := fun w _ => laidMetH Tryz.prog Rows.treeManyRow.laid w) (fun _ _ _ hh h => h.of_heap hh) own started (by kernel_rfl) Tryz.func10
    (ChangeSpec.witness_shaped (enc := enc) (C := Tryz.checked) (os := os) (X := fun w _ => laidMetH Tryz.prog Rows.treeManyRow.laid w) false (World.laidAll Tryz.prog os Rows.treeManyRow.laid) #[.int .i64 0] 8 (World.laidAll_os _ _ _) (World.shaped_of_ZipB (by kernel_rfl) (by kernel_rfl)) (by kernel_rfl) (by kernel_rfl) (by kernel_rfl) (door_met os _)) ?_
  intro W base args ds gs before hval0 hW _ _ hL hSh _
  have hval : ∀ (j : Nat) t v, Tryz.f10.params[j]? = some t → args[j]? = some v → Value.okWide Tryz.prog W .any base t v := hval0
  have hW' := hW
  obtain ⟨p, q, hA0, hV, rfl, hfz, hnd⟩ := hW
  have hA : DataW.TrodAll enc Tryz.prog W 0 (fun _ => true) true Tryz.f10.params.toList args.toList ds p := hA0
  rw [Tryz.params10] at hA hval
  obtain ⟨v0, vs0, d0, ds0, p0, q0, hargs, rfl, rfl, h0, r0⟩ := trodAll_cons hA
  obtain ⟨rfl, rfl, rfl⟩ := trodAll_nil r0
  obtain rfl : args = #[v0] := by cases args; simp_all
  obtain ⟨rfl, rfl⟩ := trodVars_none hV
  obtain ⟨a0, rfl, rfl, rfl, w0⟩ := open_int Tryz.underlying3 (hval 0 3 v0 rfl rfl) h0
  obtain ⟨E, hE0⟩ := env_of_laid_mid 4 24 hL (by kernel_rfl) (by kernel_rfl) (by kernel_rfl)
  have hE := envM_of hE0 hSh

  clear hA0 hval0
  simp only [List.append_nil] at hW'
  refine (treemany_any a0 W hE).mono fun e W' ⟨he, bel⟩ => ?_
  subst he
  exact ⟨_, rfl, _, _, _, [], [], [], hW', trodAll_mk1 (shut_bool Tryz.underlying4 _), (trodAll_cons_mk (shut_int Tryz.underlying3 w0) trodAll_mk0), rfl, bel.frame _, fun h => by cases h⟩

theorem joined : joinedFacts Tryz.prog 10 Tryz.f10 Rows.treeManySpec Rows.treeManyRow = true := by
  unfold joinedFacts
  rw [seat_laidOut, seat_mapsRowed, seat_stopsHeard, seat_mayEnter, seat_plainKeys, seat_lifted, seat_make]
  kernel_rfl
theorem inst : Tryz.f10.isInstance Tryz.prog Rows.treeManyRow.origin Rows.treeManyRow.targs := of_decide_eq_true (by kernel_rfl)
theorem wrap : Tryz.f10.isWrapper Tryz.prog Rows.treeManyRow.wrapper Rows.treeManyRow.mainSum := by
  unfold Func.isWrapper
  first | (rw [if_pos (by decide +kernel)]; kernel_rfl) | (rw [if_neg (by decide +kernel)]; exact ⟨rfl, rfl⟩)

theorem over : Rows.treeManyRow.holds Tryz.pinned (OpenSpec.ofChange Rows.treeManySpec) :=
  OpenClaim.holds_of_wide 10 Tryz.f10 rfl rfl rfl rfl rfl rfl rfl ⟨rfl, rfl, rfl, rfl, rfl⟩ rfl rfl rfl rfl rfl (by kernel_rfl) Tryz.func10 joined inst wrap
    (fun os started H enc _ => lifted os started H enc)

theorem proved : Rows.TreeManyCardSaid :=
  Claim7.holds_tied_plain_at .later [] Rows.treeManyCard.laidKinds true Rows.treeManyCard.stood.harness true
    over (fun _ h => by cases h) (by kernel_rfl) (fun _ h => by cases h) treeMany_row_tie rfl ⟨rfl, rfl⟩ (by kernel_rfl) rfl
    (fun f fn hf hfn => by
      obtain rfl : f = 10 := Option.some.inj ((show Tryz.prog.funcNamed "breviary/breviarylaw19.TreeMany" = some 10 by kernel_rfl).symm.trans hf) |>.symm
      obtain rfl : fn = Tryz.f10 := (Option.some.inj (Tryz.func10.symm.trans hfn)).symm
      exact ⟨by kernel_rfl, fun j t ht => by
        rw [Tryz.params10] at ht
        have hm : t ∈ [3] := by
          have := Array.mem_of_getElem? ht
          simpa using this
        have hall : [3].all (fun t => !(Tryz.prog.wantsStandIn t)) = true := by kernel_rfl
        have h := (List.all_eq_true.1 hall) t hm
        simp only [Bool.not_eq_true'] at h
        exact h⟩)
    (by kernel_rfl)
#print axioms proved
end Go.Proofs.YtjmbilbkmcebeaaGreatDoor.treeMany
end
