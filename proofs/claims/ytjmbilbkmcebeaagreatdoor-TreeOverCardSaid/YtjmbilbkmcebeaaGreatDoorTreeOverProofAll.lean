/- PROVED: Rows.TreeOverCardSaid: for every input the law TreeOver returns true, and each argument reads as before. Conditions: none beyond the listed package variables, which the card ties to the program's text. -/
import Derived.Test.YtjmbilbkmcebeaaGreatDoorBase30
import Derived.Test.YtjmbilbkmcebeaaGreatDoorRows
import Derived.Test.YtjmbilbkmcebeaaGreatDoorCards
import Derived.Test.YtjmbilbkmcebeaaGreatDoorTie
import Derived.Test.YtjmbilbkmcebeaaGreatDoorBase05
import Derived.Test.YtjmbilbkmcebeaaGreatDoorBase06
import Derived.Test.YtjmbilbkmcebeaaGreatDoorBase31
import Derived.Test.YtjmbilbkmcebeaaGreatDoorBase32
import Derived.ProofKit
import Derived.OpenShut
import Derived.ChangeOld
import Derived.LaidMore
import Derived.ChangeSame
import Derived.ChangeVars
import Derived.JoinedOf
import Derived.Lay
import Derived.MakeChecks
import Derived.SevenTiedAt
import Derived.Stop.Joined
import Derived.ChangeMaps5
section
/- The walk of the law TreeOver. -/
namespace Go.Proofs.YtjmbilbkmcebeaaGreatDoor
open Go Go.RowKit
set_option maxRecDepth 100000
set_option linter.unusedSimpArgs false
set_option linter.unusedVariables false
attribute [local go_sem] giv
variable {E : Nat → Addr} {B : Nat}
def overN (i : Nat) : ByteArray := overL.getD i noText
def kdN (i : Nat) : Int := if i < 2 then 1 else 2
def idsN (i : Nat) : Int := [2, 3, 4, 5, 2].getD i 0
def overK : Nat → St
  | 0 => newSt
  | k + 1 => (makeT (overK k) (overN k) (kdN k) noText).2.2
def overX : ByteArray := nmA [47,101,47,120]
def overH : St := (hardT (overK 4) (overN 0) (overN 4)).2
def overZ : St := (makeT overH overX 1 noText).2.2
theorem over_make : ∀ k, k < 4 → (makeT (overK k) (overN k) (kdN k) noText).1 = 0 ∧ (parseP (overN k)).1 = 0 ∧ 1 ≤ kdN k ∧ kdN k ≤ 3 := by decide +kernel
theorem over_two : (hardT (overK 4) (overN 0) (overN 4)).1 = 0 ∧ (makeT overH overX 1 noText).1 = 0 ∧ (parseP overX).1 = 0 := by decide +kernel
def ovC (F T : Nat) : Int := (renameT overZ (overN F) (overN T)).1
def ovG (F T : Nat) : Int := (renameT overZ (overN F) (overN T)).2.1
def ovS (F T : Nat) : St := (renameT overZ (overN F) (overN T)).2.2
theorem over_law1 : ∀ F, F < 5 → ∀ T, T < 5 → idsN F = idsN T → ovC F T = 0 ∧ ovG F T = 0 ∧ (ovS F T).count = 6 := by decide +kernel
theorem over_law2a : ∀ T, T < 5 → T ≠ 2 → T ≠ 3 → ovC 2 T = 111 ∧ (ovS 2 T).count = 6 := by decide +kernel
theorem over_law2b : ∀ T, T < 5 → T ≠ 2 → T ≠ 3 → ovC 3 T = 111 ∧ (ovS 3 T).count = 6 := by decide +kernel
theorem over_law3a : ∀ F, F < 5 → F ≠ 2 → F ≠ 3 → ovC F 2 = 112 ∧ (ovS F 2).count = 6 := by decide +kernel
theorem over_law3b : ∀ F, F < 5 → F ≠ 2 → F ≠ 3 → ovC F 3 = 112 ∧ (ovS F 3).count = 6 := by decide +kernel
theorem over_law4 : ovC 2 3 = 113 ∧ (ovS 2 3).count = 6 := by decide +kernel
theorem over_law5a : ovC 3 2 = 0 ∧ ovG 3 2 = idsN 2 ∧ (lookT (ovS 3 2) (overN 2) false).1 = 0 ∧ (lookT (ovS 3 2) (overN 2) false).2.id = idsN 3 ∧
    (lookT (ovS 3 2) (overN 3) false).1 = 109 ∧ (ovS 3 2).count = 5 ∧ ((ovS 3 2).nd (idsN 2)).isSome = false := by decide +kernel
def ovP (F T : Nat) : Bool := ovC F T == 0 && ovG F T == idsN T && (lookT (ovS F T) (overN T) false).1 == 0 && (lookT (ovS F T) (overN T) false).2.id == idsN F && (lookT (ovS F T) (overN F) false).1 == 109 && (ovS F T).count == 5 && ((ovS F T).nd (idsN T)).isSome &&
    (((ovS F T).nd (idsN T)).getD noNd).links == (if idsN T = 2 then 1 else 0)
theorem over_pairs : ([(0, 1), (1, 0), (1, 4), (4, 1)].all fun p => ovP p.1 p.2) = true := by decide +kernel
theorem over_p {F T : Nat} (hF : F < 5) (f2 : F ≠ 2) (f3 : F ≠ 3) (hT : T < 5) (t2 : T ≠ 2) (t3 : T ≠ 3) (h : idsN F ≠ idsN T) : ovP F T = true := by
  have hm : (F, T) ∈ ([(0, 1), (1, 0), (1, 4), (4, 1)] : List (Nat × Nat)) := by
    rcases (by omega : F = 0 ∨ F = 1 ∨ F = 4) with rfl | rfl | rfl <;> rcases (by omega : T = 0 ∨ T = 1 ∨ T = 4) with rfl | rfl | rfl <;> first | exact absurd rfl h | decide
  exact List.all_eq_true.1 over_pairs (F, T) hm
theorem over_law5b (F : Nat) (hF : F < 5) (f2 : F ≠ 2) (f3 : F ≠ 3) (T : Nat) (hT : T < 5) (t2 : T ≠ 2) (t3 : T ≠ 3) (h : idsN F ≠ idsN T) : ovC F T = 0 ∧ ovG F T = idsN T ∧ (lookT (ovS F T) (overN T) false).1 = 0 ∧ (lookT (ovS F T) (overN T) false).2.id = idsN F := by
  have := over_p hF f2 f3 hT t2 t3 h
  unfold ovP at this
  simp only [Bool.and_eq_true, beq_iff_eq] at this
  obtain ⟨⟨⟨⟨⟨⟨⟨h1, h2⟩, h3⟩, h4⟩, h5⟩, h6⟩, h7⟩, h8⟩ := this
  exact ⟨h1, h2, h3, h4⟩
theorem over_law6b (F : Nat) (hF : F < 5) (f2 : F ≠ 2) (f3 : F ≠ 3) (T : Nat) (hT : T < 5) (t2 : T ≠ 2) (t3 : T ≠ 3) (h : idsN F ≠ idsN T) : (lookT (ovS F T) (overN F) false).1 = 109 ∧ (ovS F T).count = 5 ∧ ((ovS F T).nd (idsN T)).isSome = true ∧
    (((ovS F T).nd (idsN T)).getD noNd).links = if idsN T = 2 then 1 else 0 := by
  have := over_p hF f2 f3 hT t2 t3 h
  unfold ovP at this
  simp only [Bool.and_eq_true, beq_iff_eq] at this
  obtain ⟨⟨⟨⟨⟨⟨⟨h1, h2⟩, h3⟩, h4⟩, h5⟩, h6⟩, h7⟩, h8⟩ := this
  exact ⟨h5, h6, h7, h8⟩
theorem ids_range : ∀ i, i < 5 → -9223372036854775808 ≤ idsN i ∧ idsN i ≤ 9223372036854775807 := by decide
theorem ids_get : ∀ i, i < 5 → ([.int .i64 2, .int .i64 3, .int .i64 4, .int .i64 5, .int .i64 2] : List Value)[i]? = some (.int .i64 (idsN i)) := by
  intro i hi
  rcases (by omega : i = 0 ∨ i = 1 ∨ i = 2 ∨ i = 3 ∨ i = 4) with rfl | rfl | rfl | rfl | rfl <;> rfl
theorem over_get : ∀ i, i < 5 → ([.string ⟨#[47,102]⟩, .string ⟨#[47,103]⟩, .string ⟨#[47,100]⟩, .string ⟨#[47,101]⟩, .string ⟨#[47,104]⟩] : List Value)[i]? = some (.string (overN i)) := by
  intro i hi
  rcases (by omega : i = 0 ∨ i = 1 ∨ i = 2 ∨ i = 3 ∨ i = 4) with rfl | rfl | rfl | rfl | rfl <;> rfl
theorem kd_get : ∀ i, i < 4 → ([.int .i64 1, .int .i64 1, .int .i64 2, .int .i64 2] : List Value)[i]? = some (.int .i64 (kdN i)) := by
  intro i hi
  rcases (by omega : i = 0 ∨ i = 1 ∨ i = 2 ∨ i = 3) with rfl | rfl | rfl | rfl <;> rfl

set_option maxHeartbeats 16000000 in
theorem treeover_any (n1 n2 n3 : Int) (w : World) (hE : EnvM E B w) :
    Calls Tryz.prog 4 #[.int .i64 n1, .int .i64 n2, .int .i64 n3] w fun e w' => e = .returned (.bool true) ∧ Below B w w' := by
  have HE := Lib.hid hE
  generalize hP : (fun (e : Ending) (w' : World) => e = .returned (.bool true) ∧ Below B w w') = Post
  have HP := Lib.hid hP
  clear hP hE
  go_enter Tryz.func4, Tryz.ntmps4
  go_wp2_with fail
  refine (first_any HE.out).mono ?_
  rintro e w1 ⟨rfl, hb1⟩
  have HE1 := Lib.hid (HE.out.keep hb1)
  have HB1 := Lib.hid hb1
  clear hb1 HE
  go_wp2_with fail
  refine (ts_new HE1.out).mono ?_
  rintro e w2 ⟨a, b, t, dm, rfl, ha, h2⟩
  have H2 := Lib.hid h2
  clear h2 ha
  go_wp2_with fail
  obtain ⟨wa, hwa⟩ : ∃ wa, wa = w2.alloc (.cells #[.string ⟨#[47,102]⟩, .string ⟨#[47,103]⟩, .string ⟨#[47,100]⟩, .string ⟨#[47,101]⟩, .string ⟨#[47,104]⟩] 9) := ⟨_, rfl⟩
  have r1 : Row wa w2.heap.size 9 [.string ⟨#[47,102]⟩, .string ⟨#[47,103]⟩, .string ⟨#[47,100]⟩, .string ⟨#[47,101]⟩, .string ⟨#[47,104]⟩] := by rw [hwa]; exact Row.new _ _ _
  have ba : Below w2.heap.size w2 wa := by rw [hwa]; exact bl_alloc (Below.refl _ _) _
  have hsa : wa.heap.size = w2.heap.size + 1 := by rw [hwa]; simp
  obtain ⟨w3, hw3⟩ : ∃ w3, w3 = wa.alloc (.cells #[.int .i64 1, .int .i64 1, .int .i64 2, .int .i64 2] 3) := ⟨_, rfl⟩
  have r2 : Row w3 wa.heap.size 3 [.int .i64 1, .int .i64 1, .int .i64 2, .int .i64 2] := by rw [hw3]; exact Row.new _ _ _
  have b3 : Below wa.heap.size wa w3 := by rw [hw3]; exact bl_alloc (Below.refl _ _) _
  rw [← hwa, ← hw3]
  have r1' := r1.below b3
  have h3 := (((H2.out.below ba).more (r1.plain (Go.Proofs.YtjmbilbkmcebeaaGreatDoor.plainS _))).below b3).more (r2.plain (plainI _ _))
  rw [hsa] at h3 r2
  obtain ⟨s1, hs1⟩ : ∃ s1, w2.heap.size = s1 := ⟨_, rfl⟩
  rw [hs1] at h3 r1' r2 ⊢
  obtain ⟨L, hL⟩ : ∃ L : Nat → Prop, L = fun y => y = s1 + 1 ∨ y = s1 ∨ y = a := ⟨_, rfl⟩
  rw [← hL] at h3
  have HR : Hid (L s1 ∧ L (s1 + 1) ∧ (∀ i, i < 5 → w3.cell? ⟨s1, i, none⟩ = some (.string (overN i))) ∧ (∀ i, i < 4 → w3.cell? ⟨s1 + 1, i, none⟩ = some (.int .i64 (kdN i)))) :=
    Lib.hid ⟨by rw [hL]; exact .inr (.inl rfl), by rw [hL]; exact .inl rfl, fun i hi => (r1'.cell i).trans (over_get i hi), fun i hi => (r2.cell i).trans (kd_get i hi)⟩
  have H3 := Lib.hid h3
  clear hwa r1 ba hsa hw3 r2 b3 r1' h3 hs1 hL H2
  go_loopw [11] (fun i wr => ∃ k : Nat, k ≤ 4 ∧ i = .int .i64 (k : Int) ∧ Hid (TS E B L a b t dm w1 (overK k) wr) ∧ Hid (KeptP B L w3 wr)) (fun i _ => 5 - (intOf i).toNat)
  case atStart => exact ⟨0, Nat.zero_le _, rfl, H3, Lib.hid (KeptP.refl _ _ _)⟩
  case round =>
    obtain ⟨k, hk, rfl, HX, HK⟩ := hrel
    clear H3
    by_cases hk4 : k < 4
    · have hk0 : (0 : Int) ≤ (k : Int) := by omega
      have hk1 : (k : Int) < 5 := by omega
      have hk2 : (k : Int) < 4 := by omega
      go_wp2_with fail
      obtain ⟨m1, m2, m3⟩ := over_make k hk4
      have HM := Lib.hid (And.intro m1 (And.intro m2 m3))
      obtain ⟨id, hid⟩ : ∃ c, (makeT (overK k) (overN k) (kdN k) noText).2.1 = c := ⟨_, rfl⟩
      have HID := Lib.hid hid
      clear m1 m2 m3 hid
      have HC0 : Hid (TS E B L a b t dm w1 (if false = true then overK (k + 1) else overK k) wr.drew ∧ KeptP B L w3 wr.drew) := Lib.hid ⟨HX.out.below (Below.refl _ _).drew, HK.out.trans (HX.out.wb.kept (Below.refl _ _).drew)⟩
      have S : ∀ (d : Bool) w', (TS E B L a b t dm w1 (if d = true then overK (k + 1) else overK k) w' ∧ KeptP B L w3 w') → w'.cell? ⟨s1, k, none⟩ = some (.string (overN k)) ∧ w'.cell? ⟨s1 + 1, k, none⟩ = some (.int .i64 (kdN k)) :=
        fun d w' h => ⟨(h.2.cell HR.out.1 k).trans (HR.out.2.2.1 k (by omega)), (h.2.cell HR.out.2.1 k).trans (HR.out.2.2.2 k (by omega))⟩
      have HT : Hid (∀ w', (TS E B L a b t dm w1 (if false = true then overK (k + 1) else overK k) w' ∧ KeptP B L w3 w') → Calls Tryz.prog 14 #[.pointer (some ⟨a, 0, none⟩), .string (overN k), .int .i64 (kdN k), .string ⟨#[]⟩] w' fun e w'' =>
          e = .returned (.tuple #[.int .i64 id, .nilIface]) ∧ (TS E B L a b t dm w1 (if true = true then overK (k + 1) else overK k) w'' ∧ KeptP B L w3 w'')) := Lib.hid (by
        intro w' h
        refine (ts_make (st' := overK (k + 1)) h.1 (overN k) noText (kdN k) HM.out.1 HID.out rfl rfl HM.out.2.1 HM.out.2.2).mono ?_
        rintro e w'' ⟨h1, h2, h3⟩
        exact ⟨h1, h2, h.2.trans h3⟩)
      apply wp_region_once 9 _ (by kernel_rfl) (by kernel_rfl) (by decide) (fun d w' => TS E B L a b t dm w1 (if d = true then overK (k + 1) else overK k) w' ∧ KeptP B L w3 w') HC0.out
      repeat (first
        | (apply once_skip (by rfl) (by decide)
           simp only [Act.put, List.setIfInBounds_toArray, List.set_cons_zero, List.set_cons_succ])
        | (apply once_fix (by rfl) (by rfl)
           · intro d w' hc R hR
             have hS := S d w' hc
             go_simp
             exact hR
           simp only [Act.put, List.setIfInBounds_toArray, List.set_cons_zero, List.set_cons_succ])
        | (apply once_call (by rfl) (by rfl)
           · intro w' hc
             have hS := S false w' hc
             go_simp
             refine (HT.out w' hc).mono ?_
             rintro e w'' ⟨rfl, hc''⟩
             exact ⟨_, rfl, rfl, hc''⟩
           simp only [Act.put, List.setIfInBounds_toArray, List.set_cons_zero, List.set_cons_succ]))
      refine once_nil (fun w4 hc => ?_)
      have H4 : Hid (TS E B L a b t dm w1 (overK (k + 1)) w4) := Lib.hid hc.1
      have K4 := Lib.hid hc.2
      clear hc S HT HC0
      go_wp2
      go_roundw
      case rel => exact ⟨k + 1, by omega, by go_num, H4, K4⟩
      case measure => simp [intOf]; omega
    · obtain rfl : k = 4 := by omega
      obtain ⟨t1, t2, t3⟩ := over_two
      have HTWO := Lib.hid (And.intro t1 (And.intro t2 t3))
      clear t1 t2 t3
      go_wp2_with fail
      refine (ts_hard (st' := overH) HX.out (overN 0) (overN 4) HTWO.out.1 rfl rfl).mono ?_
      rintro e w4 ⟨rfl, h4, k4⟩
      have H4 := Lib.hid h4
      have K4 := Lib.hid (HK.out.trans k4)
      clear h4 k4 HX HK
      rw [show errOf E 0 = .nilIface from rfl]
      go_wp2_with fail
      refine (ts_make (st' := overZ) H4.out overX noText 1 HTWO.out.2.1 rfl rfl rfl HTWO.out.2.2 ⟨by decide, by decide⟩).mono ?_
      generalize (makeT overH overX 1 noText).2.1 = idx
      rintro e w5 ⟨rfl, h5, k5⟩
      have H5 := Lib.hid h5
      have K5 := Lib.hid (K4.out.trans k5)
      clear h5 k5 H4 K4
      rw [show errOf E 0 = .nilIface from rfl]
      go_wp2_with fail
      refine (number_any n1 5 (by omega) _).mono ?_
      rintro e w6 ⟨rfl, rfl⟩
      obtain ⟨F, hF⟩ : ∃ F : Nat, n1 % 5 = F := ⟨(n1 % 5).toNat, by omega⟩
      have hF5 : F < 5 := by omega
      rw [hF]
      clear hF
      go_wp2_with fail
      refine (number_any n2 5 (by omega) _).mono ?_
      rintro e w6 ⟨rfl, rfl⟩
      obtain ⟨T, hT⟩ : ∃ T : Nat, n2 % 5 = T := ⟨(n2 % 5).toNat, by omega⟩
      have hT5 : T < 5 := by omega
      rw [hT]
      clear hT
      have hF0 : (0 : Int) ≤ (F : Int) := by omega
      have hF1 : (F : Int) < 5 := by omega
      have hT0 : (0 : Int) ≤ (T : Int) := by omega
      have hT1 : (T : Int) < 5 := by omega
      go_wp2_with fail
      obtain ⟨c, hcc⟩ : ∃ c, ovC F T = c := ⟨_, rfl⟩
      obtain ⟨id, hid⟩ : ∃ c, ovG F T = c := ⟨_, rfl⟩
      obtain ⟨S2, hS2⟩ : ∃ c, ovS F T = c := ⟨_, rfl⟩
      obtain ⟨v, hv⟩ : ∃ v, errOf E c = v := ⟨_, rfl⟩
      have HV := Lib.hid hv
      have HREN := Lib.hid (And.intro hcc (And.intro hid hS2))
      clear hv hcc hid hS2
      have HC0 : Hid (TS E B L a b t dm w1 (if false = true then S2 else overZ) w5.drew ∧ KeptP B L w3 w5.drew) := Lib.hid ⟨H5.out.below (Below.refl _ _).drew, K5.out.trans (H5.out.wb.kept (Below.refl _ _).drew)⟩
      have S : ∀ (d : Bool) w', (TS E B L a b t dm w1 (if d = true then S2 else overZ) w' ∧ KeptP B L w3 w') → w'.cell? ⟨s1, F, none⟩ = some (.string (overN F)) ∧ w'.cell? ⟨s1, T, none⟩ = some (.string (overN T)) :=
        fun d w' h => ⟨(h.2.cell HR.out.1 F).trans (HR.out.2.2.1 F hF5), (h.2.cell HR.out.1 T).trans (HR.out.2.2.1 T hT5)⟩
      have HT : Hid (∀ w', (TS E B L a b t dm w1 (if false = true then S2 else overZ) w' ∧ KeptP B L w3 w') → Calls Tryz.prog 15 #[.pointer (some ⟨a, 0, none⟩), .string (overN F), .string (overN T)] w' fun e w'' =>
          e = .returned (.tuple #[.int .i64 id, v]) ∧ (TS E B L a b t dm w1 (if true = true then S2 else overZ) w'' ∧ KeptP B L w3 w'')) := Lib.hid (by
        intro w' h
        refine (ts_rename h.1 _ _ HREN.out.1 HREN.out.2.1 HREN.out.2.2 HV.out).mono ?_
        rintro e w'' ⟨h1, h2, h3⟩
        exact ⟨h1, h2, h.2.trans h3⟩)
      apply wp_region_once 9 _ (by kernel_rfl) (by kernel_rfl) (by decide) (fun d w' => TS E B L a b t dm w1 (if d = true then S2 else overZ) w' ∧ KeptP B L w3 w') HC0.out
      repeat (first
        | (apply once_skip (by rfl) (by decide)
           simp only [Act.put, List.setIfInBounds_toArray, List.set_cons_zero, List.set_cons_succ])
        | (apply once_fix (by rfl) (by rfl)
           · intro d w' hc R hR
             have hS := S d w' hc
             go_simp
             exact hR
           simp only [Act.put, List.setIfInBounds_toArray, List.set_cons_zero, List.set_cons_succ])
        | (apply once_call (by rfl) (by rfl)
           · intro w' hc
             have hS := S false w' hc
             go_simp
             refine (HT.out w' hc).mono ?_
             rintro e w'' ⟨rfl, hc''⟩
             exact ⟨_, rfl, rfl, hc''⟩
           simp only [Act.put, List.setIfInBounds_toArray, List.set_cons_zero, List.set_cons_succ]))
      refine once_nil (fun w6 hc => ?_)
      have H6 : Hid (TS E B L a b t dm w1 S2 w6) := Lib.hid hc.1
      have K6 := Lib.hid hc.2
      clear hc S HT HC0 H5 K5 hF0 hF1 hT0 hT1
      by_cases hF2 : F = 2
      · subst hF2
        by_cases hT2 : T = 2
        · subst hT2
          have HEQ : Hid (idsN 2 = idsN 2) := Lib.hid rfl
          obtain ⟨x, hx⟩ : ∃ x, idsN 2 = x := ⟨_, rfl⟩
          obtain ⟨y, hy⟩ : ∃ y, idsN 2 = y := ⟨_, rfl⟩
          have HXY := Lib.hid (And.intro hx hy)
          obtain ⟨l1, l2, l3⟩ := over_law1 2 (by omega) 2 (by omega) HEQ.out
          obtain rfl : x = y := hx.symm.trans (HEQ.out.trans hy)
          obtain rfl : c = 0 := by rw [← HREN.out.1]; exact l1
          obtain rfl : id = 0 := by rw [← HREN.out.2.1]; exact l2
          have CNT : Hid (S2.count = 6) := Lib.hid (by rw [← HREN.out.2.2]; exact l3)
          obtain rfl : v = .nilIface := HV.out.symm
          clear hx hy l1 l2 l3
          go_wp2_with fail
          obtain ⟨w7, hw7⟩ : ∃ w7, w7 = w6.alloc (.cells #[.int .i64 2, .int .i64 3, .int .i64 4, .int .i64 5, .int .i64 2] 3) := ⟨_, rfl⟩
          have r7 : Row w7 w6.heap.size 3 [.int .i64 2, .int .i64 3, .int .i64 4, .int .i64 5, .int .i64 2] := by rw [hw7]; exact Row.new _ _ _
          have b7 : Below w6.heap.size w6 w7 := by rw [hw7]; exact bl_alloc (Below.refl _ _) _
          rw [← hw7]
          have h7 := (H6.out.below b7).more (r7.plain (plainI _ _))
          have k7 := K6.out.trans (H6.out.wb.kept b7)
          obtain ⟨s3, hs3⟩ : ∃ s3, w6.heap.size = s3 := ⟨_, rfl⟩
          rw [hs3] at h7 r7 ⊢
          obtain ⟨L7, hL7⟩ : ∃ L7 : Nat → Prop, L7 = fun y => y = s3 ∨ L y := ⟨_, rfl⟩
          rw [← hL7] at h7
          have cx : w7.cell? ⟨s3, 2, none⟩ = some (.int .i64 x) := (r7.cell 2).trans ((ids_get 2 (by omega)).trans (by rw [HXY.out.1]))
          have cy : w7.cell? ⟨s3, 2, none⟩ = some (.int .i64 x) := (r7.cell 2).trans ((ids_get 2 (by omega)).trans (by rw [HXY.out.2]))
          have HR7 : Hid (L7 s1 ∧ L7 s3 ∧ (∀ i, i < 5 → w7.cell? ⟨s1, i, none⟩ = some (.string (overN i))) ∧ w7.cell? ⟨s3, 2, none⟩ = some (.int .i64 x) ∧ w7.cell? ⟨s3, 2, none⟩ = some (.int .i64 x)) :=
            Lib.hid ⟨by rw [hL7]; exact .inr HR.out.1, by rw [hL7]; exact .inl rfl, fun i hi => (k7.cell HR.out.1 i).trans (HR.out.2.2.1 i hi), cx, cy⟩
          have H7 := Lib.hid h7
          clear hw7 r7 b7 h7 k7 hs3 hL7 H6 K6
          go_region
          obtain ⟨w7d, hwd⟩ : ∃ w', w7.drew = w' := ⟨_, rfl⟩
          have HR7 : Hid (L7 s1 ∧ L7 s3 ∧ (∀ i, i < 5 → w7d.cell? ⟨s1, i, none⟩ = some (.string (overN i))) ∧ w7d.cell? ⟨s3, 2, none⟩ = some (.int .i64 x) ∧ w7d.cell? ⟨s3, 2, none⟩ = some (.int .i64 x)) := Lib.hid (by rw [← hwd]; exact HR7.out)
          have H7 : Hid (TS E B L7 a b t dm w1 S2 w7d) := Lib.hid (by rw [← hwd]; exact H7.out.below (Below.refl _ _).drew)
          have cx := HR7.out.2.2.2.1
          have cy := HR7.out.2.2.2.2
          rw [hwd]
          clear hwd
          go_wp2_with fail
          refine (ts_entries H7.out CNT.out).mono ?_
          rintro e w9 ⟨rfl, h9, k9⟩
          have H9 := Lib.hid h9
          clear h9 k9
          go_wp2
          rw [← HP.out]
          exact ⟨by first | done | rfl | simp, HB1.out.trans H9.out.bel⟩
        by_cases hT3 : T = 3
        · subst hT3
          have HNE : Hid (idsN 2 ≠ idsN 3) := Lib.hid (by decide)
          obtain ⟨x, hx⟩ : ∃ x, idsN 2 = x := ⟨_, rfl⟩
          obtain ⟨y, hy⟩ : ∃ y, idsN 3 = y := ⟨_, rfl⟩
          have HXY := Lib.hid (And.intro hx hy)
          obtain ⟨l1, l3⟩ := over_law4
          have hxy : ¬ x = y := by rw [← hx, ← hy]; exact HNE.out
          obtain rfl : c = 113 := by rw [← HREN.out.1]; exact l1
          have CNT : Hid (S2.count = 6) := Lib.hid (by rw [← HREN.out.2.2]; exact l3)
          obtain ⟨ad, had⟩ := errOf_some (E := E) (c := 113) (by omega)
          have HAD := Lib.hid had
          obtain rfl := HV.out.symm.trans had
          clear hx hy l1 l3 had
          go_wp2_with fail
          obtain ⟨w7, hw7⟩ : ∃ w7, w7 = w6.alloc (.cells #[.int .i64 2, .int .i64 3, .int .i64 4, .int .i64 5, .int .i64 2] 3) := ⟨_, rfl⟩
          have r7 : Row w7 w6.heap.size 3 [.int .i64 2, .int .i64 3, .int .i64 4, .int .i64 5, .int .i64 2] := by rw [hw7]; exact Row.new _ _ _
          have b7 : Below w6.heap.size w6 w7 := by rw [hw7]; exact bl_alloc (Below.refl _ _) _
          rw [← hw7]
          have h7 := (H6.out.below b7).more (r7.plain (plainI _ _))
          have k7 := K6.out.trans (H6.out.wb.kept b7)
          obtain ⟨s3, hs3⟩ : ∃ s3, w6.heap.size = s3 := ⟨_, rfl⟩
          rw [hs3] at h7 r7 ⊢
          obtain ⟨L7, hL7⟩ : ∃ L7 : Nat → Prop, L7 = fun y => y = s3 ∨ L y := ⟨_, rfl⟩
          rw [← hL7] at h7
          have cx : w7.cell? ⟨s3, 2, none⟩ = some (.int .i64 x) := (r7.cell 2).trans ((ids_get 2 (by omega)).trans (by rw [HXY.out.1]))
          have cy : w7.cell? ⟨s3, 3, none⟩ = some (.int .i64 y) := (r7.cell 3).trans ((ids_get 3 (by omega)).trans (by rw [HXY.out.2]))
          have HR7 : Hid (L7 s1 ∧ L7 s3 ∧ (∀ i, i < 5 → w7.cell? ⟨s1, i, none⟩ = some (.string (overN i))) ∧ w7.cell? ⟨s3, 2, none⟩ = some (.int .i64 x) ∧ w7.cell? ⟨s3, 3, none⟩ = some (.int .i64 y)) :=
            Lib.hid ⟨by rw [hL7]; exact .inr HR.out.1, by rw [hL7]; exact .inl rfl, fun i hi => (k7.cell HR.out.1 i).trans (HR.out.2.2.1 i hi), cx, cy⟩
          have H7 := Lib.hid h7
          clear hw7 r7 b7 h7 k7 hs3 hL7 H6 K6
          go_region
          obtain ⟨w7d, hwd⟩ : ∃ w', w7.drew = w' := ⟨_, rfl⟩
          have HR7 : Hid (L7 s1 ∧ L7 s3 ∧ (∀ i, i < 5 → w7d.cell? ⟨s1, i, none⟩ = some (.string (overN i))) ∧ w7d.cell? ⟨s3, 2, none⟩ = some (.int .i64 x) ∧ w7d.cell? ⟨s3, 3, none⟩ = some (.int .i64 y)) := Lib.hid (by rw [← hwd]; exact HR7.out)
          have H7 : Hid (TS E B L7 a b t dm w1 S2 w7d) := Lib.hid (by rw [← hwd]; exact H7.out.below (Below.refl _ _).drew)
          have cx := HR7.out.2.2.2.1
          have cy := HR7.out.2.2.2.2
          rw [hwd]
          clear hwd
          go_wp2_with fail
          refine (ts_is H7.out HAD.out (by omega) (by decide : ((113 : Int) == 113) = true)).mono ?_
          rintro e w8 ⟨rfl, hb8, h8⟩
          have H8 := Lib.hid h8
          clear h8 hb8
          go_wp2_with fail
          refine (ts_entries H8.out CNT.out).mono ?_
          rintro e w9 ⟨rfl, h9, k9⟩
          have H9 := Lib.hid h9
          clear h9 k9
          go_wp2
          rw [← HP.out]
          exact ⟨by first | done | rfl | simp, HB1.out.trans H9.out.bel⟩
        have HNE : Hid (idsN 2 ≠ idsN T) := Lib.hid ((by decide : ∀ i, i < 5 → i ≠ 2 → i ≠ 3 → idsN 2 ≠ idsN i) T hT5 hT2 hT3)
        have bT2 : ((T : Int) == 2) = false := by rw [beq_eq_false_iff_ne]; omega
        have bT3 : ((T : Int) == 3) = false := by rw [beq_eq_false_iff_ne]; omega
        have nT2 : ¬ (T : Int) = 2 := by omega
        have nT3 : ¬ (T : Int) = 3 := by omega
        have nT0 : (0 : Int) ≤ (T : Int) := by omega
        have nT5 : (T : Int) < 5 := by omega
        obtain ⟨x, hx⟩ : ∃ x, idsN 2 = x := ⟨_, rfl⟩
        obtain ⟨y, hy⟩ : ∃ y, idsN T = y := ⟨_, rfl⟩
        have HXY := Lib.hid (And.intro hx hy)
        obtain ⟨l1, l3⟩ := over_law2a T hT5 hT2 hT3
        have hxy : ¬ x = y := by rw [← hx, ← hy]; exact HNE.out
        obtain rfl : c = 111 := by rw [← HREN.out.1]; exact l1
        have CNT : Hid (S2.count = 6) := Lib.hid (by rw [← HREN.out.2.2]; exact l3)
        obtain ⟨ad, had⟩ := errOf_some (E := E) (c := 111) (by omega)
        have HAD := Lib.hid had
        obtain rfl := HV.out.symm.trans had
        clear hx hy l1 l3 had
        go_wp2_with fail
        obtain ⟨w7, hw7⟩ : ∃ w7, w7 = w6.alloc (.cells #[.int .i64 2, .int .i64 3, .int .i64 4, .int .i64 5, .int .i64 2] 3) := ⟨_, rfl⟩
        have r7 : Row w7 w6.heap.size 3 [.int .i64 2, .int .i64 3, .int .i64 4, .int .i64 5, .int .i64 2] := by rw [hw7]; exact Row.new _ _ _
        have b7 : Below w6.heap.size w6 w7 := by rw [hw7]; exact bl_alloc (Below.refl _ _) _
        rw [← hw7]
        have h7 := (H6.out.below b7).more (r7.plain (plainI _ _))
        have k7 := K6.out.trans (H6.out.wb.kept b7)
        obtain ⟨s3, hs3⟩ : ∃ s3, w6.heap.size = s3 := ⟨_, rfl⟩
        rw [hs3] at h7 r7 ⊢
        obtain ⟨L7, hL7⟩ : ∃ L7 : Nat → Prop, L7 = fun y => y = s3 ∨ L y := ⟨_, rfl⟩
        rw [← hL7] at h7
        have cx : w7.cell? ⟨s3, 2, none⟩ = some (.int .i64 x) := (r7.cell 2).trans ((ids_get 2 (by omega)).trans (by rw [HXY.out.1]))
        have cy : w7.cell? ⟨s3, T, none⟩ = some (.int .i64 y) := (r7.cell T).trans ((ids_get T (by omega)).trans (by rw [HXY.out.2]))
        have HR7 : Hid (L7 s1 ∧ L7 s3 ∧ (∀ i, i < 5 → w7.cell? ⟨s1, i, none⟩ = some (.string (overN i))) ∧ w7.cell? ⟨s3, 2, none⟩ = some (.int .i64 x) ∧ w7.cell? ⟨s3, T, none⟩ = some (.int .i64 y)) :=
          Lib.hid ⟨by rw [hL7]; exact .inr HR.out.1, by rw [hL7]; exact .inl rfl, fun i hi => (k7.cell HR.out.1 i).trans (HR.out.2.2.1 i hi), cx, cy⟩
        have H7 := Lib.hid h7
        clear hw7 r7 b7 h7 k7 hs3 hL7 H6 K6
        go_region
        obtain ⟨w7d, hwd⟩ : ∃ w', w7.drew = w' := ⟨_, rfl⟩
        have HR7 : Hid (L7 s1 ∧ L7 s3 ∧ (∀ i, i < 5 → w7d.cell? ⟨s1, i, none⟩ = some (.string (overN i))) ∧ w7d.cell? ⟨s3, 2, none⟩ = some (.int .i64 x) ∧ w7d.cell? ⟨s3, T, none⟩ = some (.int .i64 y)) := Lib.hid (by rw [← hwd]; exact HR7.out)
        have H7 : Hid (TS E B L7 a b t dm w1 S2 w7d) := Lib.hid (by rw [← hwd]; exact H7.out.below (Below.refl _ _).drew)
        have cx := HR7.out.2.2.2.1
        have cy := HR7.out.2.2.2.2
        rw [hwd]
        clear hwd
        go_wp2_with fail
        refine (ts_is H7.out HAD.out (by omega) (by decide : ((111 : Int) == 111) = true)).mono ?_
        rintro e w8 ⟨rfl, hb8, h8⟩
        have H8 := Lib.hid h8
        clear h8 hb8
        go_wp2_with fail
        refine (ts_entries H8.out CNT.out).mono ?_
        rintro e w9 ⟨rfl, h9, k9⟩
        have H9 := Lib.hid h9
        clear h9 k9
        go_wp2
        rw [← HP.out]
        exact ⟨by first | done | rfl | simp, HB1.out.trans H9.out.bel⟩
      by_cases hF3 : F = 3
      · subst hF3
        by_cases hT2 : T = 2
        · subst hT2
          have HNE : Hid (idsN 3 ≠ idsN 2) := Lib.hid (by decide)
          obtain ⟨x, hx⟩ : ∃ x, idsN 3 = x := ⟨_, rfl⟩
          obtain ⟨y, hy⟩ : ∃ y, idsN 2 = y := ⟨_, rfl⟩
          have HXY := Lib.hid (And.intro hx hy)
          obtain ⟨l1, l2, l3, l4, l5, l6, l7⟩ := over_law5a
          have hxy : ¬ x = y := by rw [← hx, ← hy]; exact HNE.out
          rw [HREN.out.2.2] at l3 l4 l5 l6 l7
          rw [hx] at l4
          rw [hy] at l2 l7
          obtain rfl : c = 0 := by rw [← HREN.out.1]; exact l1
          obtain rfl : id = y := by rw [← HREN.out.2.1]; exact l2
          have CNT : Hid (S2.count = 5) := Lib.hid l6
          obtain rfl : v = .nilIface := HV.out.symm
          obtain ⟨nd, hnd⟩ : ∃ nd, (lookT S2 (overN 2) false).2 = nd := ⟨_, rfl⟩
          rw [hnd] at l4
          have HL1 := Lib.hid (And.intro l3 hnd)
          obtain ⟨d1, d2, d3, d4, d5, d6⟩ := nd
          simp only at l4
          subst l4
          obtain ⟨nf, hnf⟩ : ∃ nd, (lookT S2 (overN 3) false).2 = nd := ⟨_, rfl⟩
          have HL2 := Lib.hid (And.intro l5 hnf)
          obtain ⟨e1, e2, e3, e4, e5, e6⟩ := nf
          obtain ⟨nq, hnq⟩ : ∃ nd, (S2.nd id).getD noNd = nd := ⟨_, rfl⟩
          have hsm : (S2.nd id).isSome = false := l7
          obtain ⟨q1, q2, q3, q4, q5, q6⟩ := nq
          have HQ := Lib.hid (And.intro hnq hsm)
          have HIDR : Hid (-9223372036854775808 ≤ id ∧ id ≤ 9223372036854775807) := Lib.hid (by rw [← hy]; exact ids_range 2 (by omega))
          obtain ⟨ad, had⟩ := errOf_some (E := E) (c := 109) (by omega)
          have HAD := Lib.hid had
          clear hx hy l1 l2 l3 l5 l6 l7 hnd hnf hnq hsm had
          go_wp2_with fail
          obtain ⟨w7, hw7⟩ : ∃ w7, w7 = w6.alloc (.cells #[.int .i64 2, .int .i64 3, .int .i64 4, .int .i64 5, .int .i64 2] 3) := ⟨_, rfl⟩
          have r7 : Row w7 w6.heap.size 3 [.int .i64 2, .int .i64 3, .int .i64 4, .int .i64 5, .int .i64 2] := by rw [hw7]; exact Row.new _ _ _
          have b7 : Below w6.heap.size w6 w7 := by rw [hw7]; exact bl_alloc (Below.refl _ _) _
          rw [← hw7]
          have h7 := (H6.out.below b7).more (r7.plain (plainI _ _))
          have k7 := K6.out.trans (H6.out.wb.kept b7)
          obtain ⟨s3, hs3⟩ : ∃ s3, w6.heap.size = s3 := ⟨_, rfl⟩
          rw [hs3] at h7 r7 ⊢
          obtain ⟨L7, hL7⟩ : ∃ L7 : Nat → Prop, L7 = fun y => y = s3 ∨ L y := ⟨_, rfl⟩
          rw [← hL7] at h7
          have cx : w7.cell? ⟨s3, 3, none⟩ = some (.int .i64 d1) := (r7.cell 3).trans ((ids_get 3 (by omega)).trans (by rw [HXY.out.1]))
          have cy : w7.cell? ⟨s3, 2, none⟩ = some (.int .i64 id) := (r7.cell 2).trans ((ids_get 2 (by omega)).trans (by rw [HXY.out.2]))
          have HR7 : Hid (L7 s1 ∧ L7 s3 ∧ (∀ i, i < 5 → w7.cell? ⟨s1, i, none⟩ = some (.string (overN i))) ∧ w7.cell? ⟨s3, 3, none⟩ = some (.int .i64 d1) ∧ w7.cell? ⟨s3, 2, none⟩ = some (.int .i64 id)) :=
            Lib.hid ⟨by rw [hL7]; exact .inr HR.out.1, by rw [hL7]; exact .inl rfl, fun i hi => (k7.cell HR.out.1 i).trans (HR.out.2.2.1 i hi), cx, cy⟩
          have H7 := Lib.hid h7
          clear hw7 r7 b7 h7 k7 hs3 hL7 H6 K6
          go_region
          obtain ⟨w7d, hwd⟩ : ∃ w', w7.drew = w' := ⟨_, rfl⟩
          have HR7 : Hid (L7 s1 ∧ L7 s3 ∧ (∀ i, i < 5 → w7d.cell? ⟨s1, i, none⟩ = some (.string (overN i))) ∧ w7d.cell? ⟨s3, 3, none⟩ = some (.int .i64 d1) ∧ w7d.cell? ⟨s3, 2, none⟩ = some (.int .i64 id)) := Lib.hid (by rw [← hwd]; exact HR7.out)
          have H7 : Hid (TS E B L7 a b t dm w1 S2 w7d) := Lib.hid (by rw [← hwd]; exact H7.out.below (Below.refl _ _).drew)
          have cx := HR7.out.2.2.2.1
          have cy := HR7.out.2.2.2.2
          rw [hwd]
          clear hwd
          have cT : w7d.cell? ⟨s1, 2, none⟩ = some (.string (overN 2)) := HR7.out.2.2.1 2 (by omega)
          go_wp2_with fail
          refine (ts_look H7.out (overN 2) false HL1.out.1 HL1.out.2 rfl).mono ?_
          rintro e w8 ⟨rfl, h8, k8⟩
          simp only [encN]
          rw [show errOf E 0 = .nilIface from rfl]
          have H8 := Lib.hid h8
          have K8 := Lib.hid k8
          clear h8 k8 cT cx cy H7
          have cF8 : w8.cell? ⟨s1, 3, none⟩ = some (.string (overN 3)) := (K8.out.cell HR7.out.1 _).trans (HR7.out.2.2.1 3 (by omega))
          have lt8 : s1 < w8.heap.size := H8.out.wb.2.1 s1 HR7.out.1
          have cF9 : (w8.alloc (.cells #[.int .i64 d1, .int .i64 d2, .int .i64 d3, .int .i64 d4, .string d5, .int .i64 d6] 35)).cell? ⟨s1, 3, none⟩ = some (.string (overN 3)) := ((bl_alloc (Below.refl _ _) _).cell (p := ⟨s1, 3, none⟩) lt8).trans cF8
          go_wp2_with fail
          obtain ⟨w9, hw9⟩ : ∃ w9, w9 = w8.alloc (.cells #[.int .i64 d1, .int .i64 d2, .int .i64 d3, .int .i64 d4, .string d5, .int .i64 d6] 35) := ⟨_, rfl⟩
          have r9 : Row w9 w8.heap.size 35 [.int .i64 d1, .int .i64 d2, .int .i64 d3, .int .i64 d4, .string d5, .int .i64 d6] := by rw [hw9]; exact Row.new _ _ _
          have b9 : Below w8.heap.size w8 w9 := by rw [hw9]; exact bl_alloc (Below.refl _ _) _
          rw [← hw9]
          have h9 := (H8.out.below b9).more (r9.plain (plainI _ _))
          have k9 := K8.out.trans (H8.out.wb.kept b9)
          obtain ⟨X, hX⟩ : ∃ X, w8.heap.size = X := ⟨_, rfl⟩
          rw [hX] at h9 r9 ⊢
          obtain ⟨L9, hL9⟩ : ∃ L9 : Nat → Prop, L9 = fun y => y = X ∨ L7 y := ⟨_, rfl⟩
          rw [← hL9] at h9
          have HR9 : Hid (L9 X ∧ L9 s3 ∧ w9.cell? ⟨X, 0, none⟩ = some (.int .i64 d1) ∧ w9.cell? ⟨s3, 3, none⟩ = some (.int .i64 d1) ∧ w9.cell? ⟨s3, 2, none⟩ = some (.int .i64 id)) :=
            Lib.hid ⟨by rw [hL9]; exact .inl rfl, by rw [hL9]; exact .inr HR7.out.2.1, (r9.cell 0).trans rfl, (k9.cell HR7.out.2.1 _).trans HR7.out.2.2.2.1, (k9.cell HR7.out.2.1 _).trans HR7.out.2.2.2.2⟩
          have H9 := Lib.hid h9
          clear hw9 r9 b9 h9 k9 hX hL9 H8 K8 cF8 lt8 cF9
          refine (ts_look H9.out (overN 3) false HL2.out.1 HL2.out.2 HAD.out).mono ?_
          rintro e w10 ⟨rfl, h10, k10⟩
          simp only [encN]
          have H10 := Lib.hid h10
          have K10 := Lib.hid k10
          clear h10 k10 H9
          go_wp2_with fail
          obtain ⟨w11, hw11⟩ : ∃ w11, w11 = w10.alloc (.cells #[.int .i64 e1, .int .i64 e2, .int .i64 e3, .int .i64 e4, .string e5, .int .i64 e6] 35) := ⟨_, rfl⟩
          have b11 : Below w10.heap.size w10 w11 := by rw [hw11]; exact bl_alloc (Below.refl _ _) _
          rw [← hw11]
          have H11 := Lib.hid (H10.out.below b11)
          have K11 := Lib.hid (K10.out.trans (H10.out.wb.kept b11))
          clear hw11 b11 H10 K10
          have S : ∀ w', ShH w11.heap.size (ndC ⟨q1, q2, q3, q4, q5, q6⟩) 35 w11 w' → w'.cell? ⟨a, 0, none⟩ = some (.pointer (some ⟨b, 0, none⟩)) ∧ w'.cell? ⟨b, 0, none⟩ = some (.pointer (some ⟨t, 0, none⟩)) ∧ w'.cell? ⟨s3, 2, none⟩ = some (.int .i64 id) :=
            fun w' hs => ⟨(hs.bel.cell (p := ⟨a, 0, none⟩) H11.out.ta.2).trans H11.out.ta.1, (hs.bel.cell (p := ⟨b, 0, none⟩) H11.out.wb.lt.1).trans H11.out.wb.c0, (hs.bel.cell (p := ⟨s3, 2, none⟩) (H11.out.wb.2.1 s3 HR9.out.2.1)).trans ((K11.out.cell HR9.out.2.1 _).trans HR9.out.2.2.2.2)⟩
          have HG : Hid (∀ w', ShH w11.heap.size (ndC ⟨q1, q2, q3, q4, q5, q6⟩) 35 w11 w' → Calls Tryz.prog 21 #[.pointer (some ⟨t, 0, none⟩), .int .i64 id] w' fun e w'' => e = .returned (.tuple #[.agg #[.int .i64 q1, .int .i64 q2, .int .i64 q3, .int .i64 q4, .string q5, .int .i64 q6], .bool false]) ∧ Below w'.heap.size w' w'') := Lib.hid (by
            intro w' hs
            have := wl_get (H11.out.wb.below hs.bel) (k := id) HIDR.out
            rw [HQ.out.1, HQ.out.2] at this
            exact this)
          apply wp_region_rel _ (by kernel_rfl) (by kernel_rfl) (fun w' => ShH w11.heap.size (ndC ⟨q1, q2, q3, q4, q5, q6⟩) 35 w11 w') (fun w' w'' => ShH w11.heap.size (ndC ⟨q1, q2, q3, q4, q5, q6⟩) 35 w' w'') (fun w' w'' h1 h2 => h1.trans h2) (ShH.refl _ _ _ _).drew
          repeat (first
            | (apply wpRel_fix (by rfl)
               · intro w' hC hf R hR
                 have hS := S w' hC
                 go_simp
                 exact hR _ (ShH.refl _ _ _ _)
               simp only [Act.put, List.setIfInBounds_toArray, List.set_cons_zero, List.set_cons_succ])
            | (apply wpRel_fix (by rfl)
               · intro w' hC hf R hR
                 have hS := S w' hC
                 go_simp
                 refine (HG.out w' hC).mono ?_
                 rintro e w'' ⟨rfl, hb⟩
                 exact ⟨_, rfl, hR _ (ShH.of_below hb (Nat.le_trans hC.bel.size (Nat.le_refl _)))⟩
               simp only [Act.put, List.setIfInBounds_toArray, List.set_cons_zero, List.set_cons_succ]))
          apply wpRel_rel (PtTy w11.heap.size ((ndC ⟨q1, q2, q3, q4, q5, q6⟩) : List Value).length 35) (by rfl) ptTy_keep
          · intro w' hC hf R hR
            go_simp
            exact hR _ _ ⟨_, rfl, hC.bel.size, TyB.new _ _ _ rfl⟩ (ShH.of_below (bl_alloc (Below.refl _ _) _) hC.bel.size)
          intro vptr
          simp only [Act.put, List.setIfInBounds_toArray, List.set_cons_zero, List.set_cons_succ]
          apply wpRel_dep 25 (PtRow w11.heap.size (ndC ⟨q1, q2, q3, q4, q5, q6⟩) 35) (by rfl) (by rfl) ptRow_keep
          · intro w' hC hf R hR
            obtain ⟨c, rfl, hc, hk⟩ := hf _ (List.mem_cons_self ..) (by kernel_rfl)
            obtain ⟨u0, e0⟩ := hk.cell (i := 0) (Nat.lt_of_lt_of_eq (by decide : 0 < 6) rfl)
            have f0 := hk.froz 0
            obtain ⟨u1, e1⟩ := hk.cell (i := 1) (Nat.lt_of_lt_of_eq (by decide : 1 < 6) rfl)
            have f1 := hk.froz 1
            obtain ⟨u2, e2⟩ := hk.cell (i := 2) (Nat.lt_of_lt_of_eq (by decide : 2 < 6) rfl)
            have f2 := hk.froz 2
            obtain ⟨u3, e3⟩ := hk.cell (i := 3) (Nat.lt_of_lt_of_eq (by decide : 3 < 6) rfl)
            have f3 := hk.froz 3
            obtain ⟨u4, e4⟩ := hk.cell (i := 4) (Nat.lt_of_lt_of_eq (by decide : 4 < 6) rfl)
            have f4 := hk.froz 4
            obtain ⟨u5, e5⟩ := hk.cell (i := 5) (Nat.lt_of_lt_of_eq (by decide : 5 < 6) rfl)
            have f5 := hk.froz 5
            have hN := Lib.hid hk
            clear hk
            go_simp
            exact hR _ _ (ptRow_mk hN.out hc) (ShH.setAll hN.out hc)
          intro vst
          simp only [Act.put, List.setIfInBounds_toArray, List.set_cons_zero, List.set_cons_succ]
          repeat (first
            | (apply wpRel_fix (by rfl)
               · intro w' hC hf R hR
                 have hS := S w' hC
                 go_simp
                 exact hR _ (ShH.refl _ _ _ _)
               simp only [Act.put, List.setIfInBounds_toArray, List.set_cons_zero, List.set_cons_succ]))
          refine wpRel_nil (fun w12 hC hf => ?_)
          obtain ⟨cn, rfl, hcn, rw12⟩ : PtRow w11.heap.size (ndC ⟨q1, q2, q3, q4, q5, q6⟩) 35 vptr w12 := hf _ (List.mem_cons_self ..)
          have h12 := (H11.out.below hC.bel).more (rw12.plain (plainI _ _))
          have k12 := K11.out.trans (H11.out.wb.kept hC.bel)
          obtain ⟨L12, hL12⟩ : ∃ L12 : Nat → Prop, L12 = fun y => y = cn ∨ L9 y := ⟨_, rfl⟩
          rw [← hL12] at h12
          have HR12 : Hid (L12 X ∧ L12 s3 ∧ L12 cn ∧ w12.cell? ⟨X, 0, none⟩ = some (.int .i64 d1) ∧ w12.cell? ⟨s3, 3, none⟩ = some (.int .i64 d1) ∧ w12.cell? ⟨s3, 2, none⟩ = some (.int .i64 id) ∧ w12.cell? ⟨cn, 2, none⟩ = some (.int .i64 q3)) :=
            Lib.hid ⟨by rw [hL12]; exact .inr HR9.out.1, by rw [hL12]; exact .inr HR9.out.2.1, by rw [hL12]; exact .inl rfl, (k12.cell HR9.out.1 _).trans HR9.out.2.2.1, (k12.cell HR9.out.2.1 _).trans HR9.out.2.2.2.1, (k12.cell HR9.out.2.1 _).trans HR9.out.2.2.2.2, (rw12.cell 2).trans rfl⟩
          have H12 := Lib.hid h12
          clear S hf hC HG rw12 h12 k12 hL12 H11 K11
          have cy : w12.cell? ⟨s3, 2, none⟩ = some (.int .i64 id) := HR12.out.2.2.2.2.2.1
          have hid2 : ¬ id = 2 := by rw [← HXY.out.2]; decide
          go_wp2_with fail
          clear cy
          have S : ∀ w', (TS E B L12 a b t dm w1 S2 w' ∧ KeptP B L12 w12 w') → w'.cell? ⟨X, 0, none⟩ = some (.int .i64 d1) ∧ w'.cell? ⟨s3, 3, none⟩ = some (.int .i64 d1) ∧ w'.cell? ⟨s3, 2, none⟩ = some (.int .i64 id) :=
            fun w' h => ⟨(h.2.cell HR12.out.1 _).trans HR12.out.2.2.2.1, (h.2.cell HR12.out.2.1 _).trans HR12.out.2.2.2.2.1, (h.2.cell HR12.out.2.1 _).trans HR12.out.2.2.2.2.2.1⟩
          apply wp_region_rel _ (by kernel_rfl) (by kernel_rfl) (fun w' => TS E B L12 a b t dm w1 S2 w' ∧ KeptP B L12 w12 w') (fun w' w'' => (TS E B L12 a b t dm w1 S2 w' → TS E B L12 a b t dm w1 S2 w'') ∧ KeptP B L12 w' w'') (fun w' w'' h1 h2 => ⟨h2.1 h1.1, h1.2.trans h2.2⟩) ⟨H12.out.below (Below.refl _ _).drew, H12.out.wb.kept (Below.refl _ _).drew⟩
          repeat (first
            | (apply wpRel_skip (by rfl)
               simp only [Act.put, List.setIfInBounds_toArray, List.set_cons_zero, List.set_cons_succ])
            | (apply wpRel_fix (by rfl)
               · intro w' hC hf R hR
                 have hS := S w' hC
                 go_simp
                 exact hR _ ⟨fun h => h, KeptP.refl _ _ _⟩
               simp only [Act.put, List.setIfInBounds_toArray, List.set_cons_zero, List.set_cons_succ])
            | (apply wpRel_fix (by rfl)
               · intro w' hC hf R hR
                 have hS := S w' hC
                 go_simp
                 refine (ts_is hC.1 HAD.out (by omega) (by decide : ((109 : Int) == 109) = true)).mono ?_
                 rintro e w'' ⟨rfl, hb9, hk9⟩
                 exact ⟨_, rfl, hR _ ⟨fun _ => hk9, hC.1.wb.kept hb9⟩⟩
               simp only [Act.put, List.setIfInBounds_toArray, List.set_cons_zero, List.set_cons_succ])
            | (apply wpRel_fix (by rfl)
               · intro w' hC hf R hR
                 have hS := S w' hC
                 go_simp
                 refine (ts_entries hC.1 CNT.out).mono ?_
                 rintro e w'' ⟨rfl, hk8, hk9⟩
                 exact ⟨_, rfl, hR _ ⟨fun _ => hk8, hk9⟩⟩
               simp only [Act.put, List.setIfInBounds_toArray, List.set_cons_zero, List.set_cons_succ]))
          refine wpRel_nil (fun w13 hC hf => ?_)
          have cl : w13.cell? ⟨cn, 2, none⟩ = some (.int .i64 q3) := (hC.2.cell HR12.out.2.2.1 _).trans HR12.out.2.2.2.2.2.2
          have H13 := Lib.hid hC.1
          clear S hf hC
          go_wp2
          rw [← HP.out]
          exact ⟨by first | done | rfl | simp, HB1.out.trans H13.out.bel⟩
        by_cases hT3 : T = 3
        · subst hT3
          have HEQ : Hid (idsN 3 = idsN 3) := Lib.hid rfl
          obtain ⟨x, hx⟩ : ∃ x, idsN 3 = x := ⟨_, rfl⟩
          obtain ⟨y, hy⟩ : ∃ y, idsN 3 = y := ⟨_, rfl⟩
          have HXY := Lib.hid (And.intro hx hy)
          obtain ⟨l1, l2, l3⟩ := over_law1 3 (by omega) 3 (by omega) HEQ.out
          obtain rfl : x = y := hx.symm.trans (HEQ.out.trans hy)
          obtain rfl : c = 0 := by rw [← HREN.out.1]; exact l1
          obtain rfl : id = 0 := by rw [← HREN.out.2.1]; exact l2
          have CNT : Hid (S2.count = 6) := Lib.hid (by rw [← HREN.out.2.2]; exact l3)
          obtain rfl : v = .nilIface := HV.out.symm
          clear hx hy l1 l2 l3
          go_wp2_with fail
          obtain ⟨w7, hw7⟩ : ∃ w7, w7 = w6.alloc (.cells #[.int .i64 2, .int .i64 3, .int .i64 4, .int .i64 5, .int .i64 2] 3) := ⟨_, rfl⟩
          have r7 : Row w7 w6.heap.size 3 [.int .i64 2, .int .i64 3, .int .i64 4, .int .i64 5, .int .i64 2] := by rw [hw7]; exact Row.new _ _ _
          have b7 : Below w6.heap.size w6 w7 := by rw [hw7]; exact bl_alloc (Below.refl _ _) _
          rw [← hw7]
          have h7 := (H6.out.below b7).more (r7.plain (plainI _ _))
          have k7 := K6.out.trans (H6.out.wb.kept b7)
          obtain ⟨s3, hs3⟩ : ∃ s3, w6.heap.size = s3 := ⟨_, rfl⟩
          rw [hs3] at h7 r7 ⊢
          obtain ⟨L7, hL7⟩ : ∃ L7 : Nat → Prop, L7 = fun y => y = s3 ∨ L y := ⟨_, rfl⟩
          rw [← hL7] at h7
          have cx : w7.cell? ⟨s3, 3, none⟩ = some (.int .i64 x) := (r7.cell 3).trans ((ids_get 3 (by omega)).trans (by rw [HXY.out.1]))
          have cy : w7.cell? ⟨s3, 3, none⟩ = some (.int .i64 x) := (r7.cell 3).trans ((ids_get 3 (by omega)).trans (by rw [HXY.out.2]))
          have HR7 : Hid (L7 s1 ∧ L7 s3 ∧ (∀ i, i < 5 → w7.cell? ⟨s1, i, none⟩ = some (.string (overN i))) ∧ w7.cell? ⟨s3, 3, none⟩ = some (.int .i64 x) ∧ w7.cell? ⟨s3, 3, none⟩ = some (.int .i64 x)) :=
            Lib.hid ⟨by rw [hL7]; exact .inr HR.out.1, by rw [hL7]; exact .inl rfl, fun i hi => (k7.cell HR.out.1 i).trans (HR.out.2.2.1 i hi), cx, cy⟩
          have H7 := Lib.hid h7
          clear hw7 r7 b7 h7 k7 hs3 hL7 H6 K6
          go_region
          obtain ⟨w7d, hwd⟩ : ∃ w', w7.drew = w' := ⟨_, rfl⟩
          have HR7 : Hid (L7 s1 ∧ L7 s3 ∧ (∀ i, i < 5 → w7d.cell? ⟨s1, i, none⟩ = some (.string (overN i))) ∧ w7d.cell? ⟨s3, 3, none⟩ = some (.int .i64 x) ∧ w7d.cell? ⟨s3, 3, none⟩ = some (.int .i64 x)) := Lib.hid (by rw [← hwd]; exact HR7.out)
          have H7 : Hid (TS E B L7 a b t dm w1 S2 w7d) := Lib.hid (by rw [← hwd]; exact H7.out.below (Below.refl _ _).drew)
          have cx := HR7.out.2.2.2.1
          have cy := HR7.out.2.2.2.2
          rw [hwd]
          clear hwd
          go_wp2_with fail
          refine (ts_entries H7.out CNT.out).mono ?_
          rintro e w9 ⟨rfl, h9, k9⟩
          have H9 := Lib.hid h9
          clear h9 k9
          go_wp2
          rw [← HP.out]
          exact ⟨by first | done | rfl | simp, HB1.out.trans H9.out.bel⟩
        have HNE : Hid (idsN 3 ≠ idsN T) := Lib.hid ((by decide : ∀ i, i < 5 → i ≠ 2 → i ≠ 3 → idsN 3 ≠ idsN i) T hT5 hT2 hT3)
        have bT2 : ((T : Int) == 2) = false := by rw [beq_eq_false_iff_ne]; omega
        have bT3 : ((T : Int) == 3) = false := by rw [beq_eq_false_iff_ne]; omega
        have nT2 : ¬ (T : Int) = 2 := by omega
        have nT3 : ¬ (T : Int) = 3 := by omega
        have nT0 : (0 : Int) ≤ (T : Int) := by omega
        have nT5 : (T : Int) < 5 := by omega
        obtain ⟨x, hx⟩ : ∃ x, idsN 3 = x := ⟨_, rfl⟩
        obtain ⟨y, hy⟩ : ∃ y, idsN T = y := ⟨_, rfl⟩
        have HXY := Lib.hid (And.intro hx hy)
        obtain ⟨l1, l3⟩ := over_law2b T hT5 hT2 hT3
        have hxy : ¬ x = y := by rw [← hx, ← hy]; exact HNE.out
        obtain rfl : c = 111 := by rw [← HREN.out.1]; exact l1
        have CNT : Hid (S2.count = 6) := Lib.hid (by rw [← HREN.out.2.2]; exact l3)
        obtain ⟨ad, had⟩ := errOf_some (E := E) (c := 111) (by omega)
        have HAD := Lib.hid had
        obtain rfl := HV.out.symm.trans had
        clear hx hy l1 l3 had
        go_wp2_with fail
        obtain ⟨w7, hw7⟩ : ∃ w7, w7 = w6.alloc (.cells #[.int .i64 2, .int .i64 3, .int .i64 4, .int .i64 5, .int .i64 2] 3) := ⟨_, rfl⟩
        have r7 : Row w7 w6.heap.size 3 [.int .i64 2, .int .i64 3, .int .i64 4, .int .i64 5, .int .i64 2] := by rw [hw7]; exact Row.new _ _ _
        have b7 : Below w6.heap.size w6 w7 := by rw [hw7]; exact bl_alloc (Below.refl _ _) _
        rw [← hw7]
        have h7 := (H6.out.below b7).more (r7.plain (plainI _ _))
        have k7 := K6.out.trans (H6.out.wb.kept b7)
        obtain ⟨s3, hs3⟩ : ∃ s3, w6.heap.size = s3 := ⟨_, rfl⟩
        rw [hs3] at h7 r7 ⊢
        obtain ⟨L7, hL7⟩ : ∃ L7 : Nat → Prop, L7 = fun y => y = s3 ∨ L y := ⟨_, rfl⟩
        rw [← hL7] at h7
        have cx : w7.cell? ⟨s3, 3, none⟩ = some (.int .i64 x) := (r7.cell 3).trans ((ids_get 3 (by omega)).trans (by rw [HXY.out.1]))
        have cy : w7.cell? ⟨s3, T, none⟩ = some (.int .i64 y) := (r7.cell T).trans ((ids_get T (by omega)).trans (by rw [HXY.out.2]))
        have HR7 : Hid (L7 s1 ∧ L7 s3 ∧ (∀ i, i < 5 → w7.cell? ⟨s1, i, none⟩ = some (.string (overN i))) ∧ w7.cell? ⟨s3, 3, none⟩ = some (.int .i64 x) ∧ w7.cell? ⟨s3, T, none⟩ = some (.int .i64 y)) :=
          Lib.hid ⟨by rw [hL7]; exact .inr HR.out.1, by rw [hL7]; exact .inl rfl, fun i hi => (k7.cell HR.out.1 i).trans (HR.out.2.2.1 i hi), cx, cy⟩
        have H7 := Lib.hid h7
        clear hw7 r7 b7 h7 k7 hs3 hL7 H6 K6
        go_region
        obtain ⟨w7d, hwd⟩ : ∃ w', w7.drew = w' := ⟨_, rfl⟩
        have HR7 : Hid (L7 s1 ∧ L7 s3 ∧ (∀ i, i < 5 → w7d.cell? ⟨s1, i, none⟩ = some (.string (overN i))) ∧ w7d.cell? ⟨s3, 3, none⟩ = some (.int .i64 x) ∧ w7d.cell? ⟨s3, T, none⟩ = some (.int .i64 y)) := Lib.hid (by rw [← hwd]; exact HR7.out)
        have H7 : Hid (TS E B L7 a b t dm w1 S2 w7d) := Lib.hid (by rw [← hwd]; exact H7.out.below (Below.refl _ _).drew)
        have cx := HR7.out.2.2.2.1
        have cy := HR7.out.2.2.2.2
        rw [hwd]
        clear hwd
        go_wp2_with fail
        refine (ts_is H7.out HAD.out (by omega) (by decide : ((111 : Int) == 111) = true)).mono ?_
        rintro e w8 ⟨rfl, hb8, h8⟩
        have H8 := Lib.hid h8
        clear h8 hb8
        go_wp2_with fail
        refine (ts_entries H8.out CNT.out).mono ?_
        rintro e w9 ⟨rfl, h9, k9⟩
        have H9 := Lib.hid h9
        clear h9 k9
        go_wp2
        rw [← HP.out]
        exact ⟨by first | done | rfl | simp, HB1.out.trans H9.out.bel⟩
      by_cases hT2 : T = 2
      · subst hT2
        have HNE : Hid (idsN F ≠ idsN 2) := Lib.hid ((by decide : ∀ i, i < 5 → i ≠ 2 → i ≠ 3 → idsN i ≠ idsN 2) F hF5 hF2 hF3)
        have bF2 : ((F : Int) == 2) = false := by rw [beq_eq_false_iff_ne]; omega
        have bF3 : ((F : Int) == 3) = false := by rw [beq_eq_false_iff_ne]; omega
        have nF2 : ¬ (F : Int) = 2 := by omega
        have nF3 : ¬ (F : Int) = 3 := by omega
        have nF0 : (0 : Int) ≤ (F : Int) := by omega
        have nF5 : (F : Int) < 5 := by omega
        obtain ⟨x, hx⟩ : ∃ x, idsN F = x := ⟨_, rfl⟩
        obtain ⟨y, hy⟩ : ∃ y, idsN 2 = y := ⟨_, rfl⟩
        have HXY := Lib.hid (And.intro hx hy)
        obtain ⟨l1, l3⟩ := over_law3a F hF5 hF2 hF3
        have hxy : ¬ x = y := by rw [← hx, ← hy]; exact HNE.out
        obtain rfl : c = 112 := by rw [← HREN.out.1]; exact l1
        have CNT : Hid (S2.count = 6) := Lib.hid (by rw [← HREN.out.2.2]; exact l3)
        obtain ⟨ad, had⟩ := errOf_some (E := E) (c := 112) (by omega)
        have HAD := Lib.hid had
        obtain rfl := HV.out.symm.trans had
        clear hx hy l1 l3 had
        go_wp2_with fail
        obtain ⟨w7, hw7⟩ : ∃ w7, w7 = w6.alloc (.cells #[.int .i64 2, .int .i64 3, .int .i64 4, .int .i64 5, .int .i64 2] 3) := ⟨_, rfl⟩
        have r7 : Row w7 w6.heap.size 3 [.int .i64 2, .int .i64 3, .int .i64 4, .int .i64 5, .int .i64 2] := by rw [hw7]; exact Row.new _ _ _
        have b7 : Below w6.heap.size w6 w7 := by rw [hw7]; exact bl_alloc (Below.refl _ _) _
        rw [← hw7]
        have h7 := (H6.out.below b7).more (r7.plain (plainI _ _))
        have k7 := K6.out.trans (H6.out.wb.kept b7)
        obtain ⟨s3, hs3⟩ : ∃ s3, w6.heap.size = s3 := ⟨_, rfl⟩
        rw [hs3] at h7 r7 ⊢
        obtain ⟨L7, hL7⟩ : ∃ L7 : Nat → Prop, L7 = fun y => y = s3 ∨ L y := ⟨_, rfl⟩
        rw [← hL7] at h7
        have cx : w7.cell? ⟨s3, F, none⟩ = some (.int .i64 x) := (r7.cell F).trans ((ids_get F (by omega)).trans (by rw [HXY.out.1]))
        have cy : w7.cell? ⟨s3, 2, none⟩ = some (.int .i64 y) := (r7.cell 2).trans ((ids_get 2 (by omega)).trans (by rw [HXY.out.2]))
        have HR7 : Hid (L7 s1 ∧ L7 s3 ∧ (∀ i, i < 5 → w7.cell? ⟨s1, i, none⟩ = some (.string (overN i))) ∧ w7.cell? ⟨s3, F, none⟩ = some (.int .i64 x) ∧ w7.cell? ⟨s3, 2, none⟩ = some (.int .i64 y)) :=
          Lib.hid ⟨by rw [hL7]; exact .inr HR.out.1, by rw [hL7]; exact .inl rfl, fun i hi => (k7.cell HR.out.1 i).trans (HR.out.2.2.1 i hi), cx, cy⟩
        have H7 := Lib.hid h7
        clear hw7 r7 b7 h7 k7 hs3 hL7 H6 K6
        go_region
        obtain ⟨w7d, hwd⟩ : ∃ w', w7.drew = w' := ⟨_, rfl⟩
        have HR7 : Hid (L7 s1 ∧ L7 s3 ∧ (∀ i, i < 5 → w7d.cell? ⟨s1, i, none⟩ = some (.string (overN i))) ∧ w7d.cell? ⟨s3, F, none⟩ = some (.int .i64 x) ∧ w7d.cell? ⟨s3, 2, none⟩ = some (.int .i64 y)) := Lib.hid (by rw [← hwd]; exact HR7.out)
        have H7 : Hid (TS E B L7 a b t dm w1 S2 w7d) := Lib.hid (by rw [← hwd]; exact H7.out.below (Below.refl _ _).drew)
        have cx := HR7.out.2.2.2.1
        have cy := HR7.out.2.2.2.2
        rw [hwd]
        clear hwd
        go_wp2_with fail
        refine (ts_is H7.out HAD.out (by omega) (by decide : ((112 : Int) == 112) = true)).mono ?_
        rintro e w8 ⟨rfl, hb8, h8⟩
        have H8 := Lib.hid h8
        clear h8 hb8
        go_wp2_with fail
        refine (ts_entries H8.out CNT.out).mono ?_
        rintro e w9 ⟨rfl, h9, k9⟩
        have H9 := Lib.hid h9
        clear h9 k9
        go_wp2
        rw [← HP.out]
        exact ⟨by first | done | rfl | simp, HB1.out.trans H9.out.bel⟩
      by_cases hT3 : T = 3
      · subst hT3
        have HNE : Hid (idsN F ≠ idsN 3) := Lib.hid ((by decide : ∀ i, i < 5 → i ≠ 2 → i ≠ 3 → idsN i ≠ idsN 3) F hF5 hF2 hF3)
        have bF2 : ((F : Int) == 2) = false := by rw [beq_eq_false_iff_ne]; omega
        have bF3 : ((F : Int) == 3) = false := by rw [beq_eq_false_iff_ne]; omega
        have nF2 : ¬ (F : Int) = 2 := by omega
        have nF3 : ¬ (F : Int) = 3 := by omega
        have nF0 : (0 : Int) ≤ (F : Int) := by omega
        have nF5 : (F : Int) < 5 := by omega
        obtain ⟨x, hx⟩ : ∃ x, idsN F = x := ⟨_, rfl⟩
        obtain ⟨y, hy⟩ : ∃ y, idsN 3 = y := ⟨_, rfl⟩
        have HXY := Lib.hid (And.intro hx hy)
        obtain ⟨l1, l3⟩ := over_law3b F hF5 hF2 hF3
        have hxy : ¬ x = y := by rw [← hx, ← hy]; exact HNE.out
        obtain rfl : c = 112 := by rw [← HREN.out.1]; exact l1
        have CNT : Hid (S2.count = 6) := Lib.hid (by rw [← HREN.out.2.2]; exact l3)
        obtain ⟨ad, had⟩ := errOf_some (E := E) (c := 112) (by omega)
        have HAD := Lib.hid had
        obtain rfl := HV.out.symm.trans had
        clear hx hy l1 l3 had
        go_wp2_with fail
        obtain ⟨w7, hw7⟩ : ∃ w7, w7 = w6.alloc (.cells #[.int .i64 2, .int .i64 3, .int .i64 4, .int .i64 5, .int .i64 2] 3) := ⟨_, rfl⟩
        have r7 : Row w7 w6.heap.size 3 [.int .i64 2, .int .i64 3, .int .i64 4, .int .i64 5, .int .i64 2] := by rw [hw7]; exact Row.new _ _ _
        have b7 : Below w6.heap.size w6 w7 := by rw [hw7]; exact bl_alloc (Below.refl _ _) _
        rw [← hw7]
        have h7 := (H6.out.below b7).more (r7.plain (plainI _ _))
        have k7 := K6.out.trans (H6.out.wb.kept b7)
        obtain ⟨s3, hs3⟩ : ∃ s3, w6.heap.size = s3 := ⟨_, rfl⟩
        rw [hs3] at h7 r7 ⊢
        obtain ⟨L7, hL7⟩ : ∃ L7 : Nat → Prop, L7 = fun y => y = s3 ∨ L y := ⟨_, rfl⟩
        rw [← hL7] at h7
        have cx : w7.cell? ⟨s3, F, none⟩ = some (.int .i64 x) := (r7.cell F).trans ((ids_get F (by omega)).trans (by rw [HXY.out.1]))
        have cy : w7.cell? ⟨s3, 3, none⟩ = some (.int .i64 y) := (r7.cell 3).trans ((ids_get 3 (by omega)).trans (by rw [HXY.out.2]))
        have HR7 : Hid (L7 s1 ∧ L7 s3 ∧ (∀ i, i < 5 → w7.cell? ⟨s1, i, none⟩ = some (.string (overN i))) ∧ w7.cell? ⟨s3, F, none⟩ = some (.int .i64 x) ∧ w7.cell? ⟨s3, 3, none⟩ = some (.int .i64 y)) :=
          Lib.hid ⟨by rw [hL7]; exact .inr HR.out.1, by rw [hL7]; exact .inl rfl, fun i hi => (k7.cell HR.out.1 i).trans (HR.out.2.2.1 i hi), cx, cy⟩
        have H7 := Lib.hid h7
        clear hw7 r7 b7 h7 k7 hs3 hL7 H6 K6
        go_region
        obtain ⟨w7d, hwd⟩ : ∃ w', w7.drew = w' := ⟨_, rfl⟩
        have HR7 : Hid (L7 s1 ∧ L7 s3 ∧ (∀ i, i < 5 → w7d.cell? ⟨s1, i, none⟩ = some (.string (overN i))) ∧ w7d.cell? ⟨s3, F, none⟩ = some (.int .i64 x) ∧ w7d.cell? ⟨s3, 3, none⟩ = some (.int .i64 y)) := Lib.hid (by rw [← hwd]; exact HR7.out)
        have H7 : Hid (TS E B L7 a b t dm w1 S2 w7d) := Lib.hid (by rw [← hwd]; exact H7.out.below (Below.refl _ _).drew)
        have cx := HR7.out.2.2.2.1
        have cy := HR7.out.2.2.2.2
        rw [hwd]
        clear hwd
        go_wp2_with fail
        refine (ts_is H7.out HAD.out (by omega) (by decide : ((112 : Int) == 112) = true)).mono ?_
        rintro e w8 ⟨rfl, hb8, h8⟩
        have H8 := Lib.hid h8
        clear h8 hb8
        go_wp2_with fail
        refine (ts_entries H8.out CNT.out).mono ?_
        rintro e w9 ⟨rfl, h9, k9⟩
        have H9 := Lib.hid h9
        clear h9 k9
        go_wp2
        rw [← HP.out]
        exact ⟨by first | done | rfl | simp, HB1.out.trans H9.out.bel⟩
      by_cases heq : idsN F = idsN T
      · skip
        have HEQ : Hid (idsN F = idsN T) := Lib.hid heq
        have bF2 : ((F : Int) == 2) = false := by rw [beq_eq_false_iff_ne]; omega
        have bF3 : ((F : Int) == 3) = false := by rw [beq_eq_false_iff_ne]; omega
        have nF2 : ¬ (F : Int) = 2 := by omega
        have nF3 : ¬ (F : Int) = 3 := by omega
        have nF0 : (0 : Int) ≤ (F : Int) := by omega
        have nF5 : (F : Int) < 5 := by omega
        have bT2 : ((T : Int) == 2) = false := by rw [beq_eq_false_iff_ne]; omega
        have bT3 : ((T : Int) == 3) = false := by rw [beq_eq_false_iff_ne]; omega
        have nT2 : ¬ (T : Int) = 2 := by omega
        have nT3 : ¬ (T : Int) = 3 := by omega
        have nT0 : (0 : Int) ≤ (T : Int) := by omega
        have nT5 : (T : Int) < 5 := by omega
        obtain ⟨x, hx⟩ : ∃ x, idsN F = x := ⟨_, rfl⟩
        obtain ⟨y, hy⟩ : ∃ y, idsN T = y := ⟨_, rfl⟩
        have HXY := Lib.hid (And.intro hx hy)
        obtain ⟨l1, l2, l3⟩ := over_law1 F (by omega) T (by omega) HEQ.out
        obtain rfl : x = y := hx.symm.trans (HEQ.out.trans hy)
        obtain rfl : c = 0 := by rw [← HREN.out.1]; exact l1
        obtain rfl : id = 0 := by rw [← HREN.out.2.1]; exact l2
        have CNT : Hid (S2.count = 6) := Lib.hid (by rw [← HREN.out.2.2]; exact l3)
        obtain rfl : v = .nilIface := HV.out.symm
        clear hx hy l1 l2 l3
        go_wp2_with fail
        obtain ⟨w7, hw7⟩ : ∃ w7, w7 = w6.alloc (.cells #[.int .i64 2, .int .i64 3, .int .i64 4, .int .i64 5, .int .i64 2] 3) := ⟨_, rfl⟩
        have r7 : Row w7 w6.heap.size 3 [.int .i64 2, .int .i64 3, .int .i64 4, .int .i64 5, .int .i64 2] := by rw [hw7]; exact Row.new _ _ _
        have b7 : Below w6.heap.size w6 w7 := by rw [hw7]; exact bl_alloc (Below.refl _ _) _
        rw [← hw7]
        have h7 := (H6.out.below b7).more (r7.plain (plainI _ _))
        have k7 := K6.out.trans (H6.out.wb.kept b7)
        obtain ⟨s3, hs3⟩ : ∃ s3, w6.heap.size = s3 := ⟨_, rfl⟩
        rw [hs3] at h7 r7 ⊢
        obtain ⟨L7, hL7⟩ : ∃ L7 : Nat → Prop, L7 = fun y => y = s3 ∨ L y := ⟨_, rfl⟩
        rw [← hL7] at h7
        have cx : w7.cell? ⟨s3, F, none⟩ = some (.int .i64 x) := (r7.cell F).trans ((ids_get F (by omega)).trans (by rw [HXY.out.1]))
        have cy : w7.cell? ⟨s3, T, none⟩ = some (.int .i64 x) := (r7.cell T).trans ((ids_get T (by omega)).trans (by rw [HXY.out.2]))
        have HR7 : Hid (L7 s1 ∧ L7 s3 ∧ (∀ i, i < 5 → w7.cell? ⟨s1, i, none⟩ = some (.string (overN i))) ∧ w7.cell? ⟨s3, F, none⟩ = some (.int .i64 x) ∧ w7.cell? ⟨s3, T, none⟩ = some (.int .i64 x)) :=
          Lib.hid ⟨by rw [hL7]; exact .inr HR.out.1, by rw [hL7]; exact .inl rfl, fun i hi => (k7.cell HR.out.1 i).trans (HR.out.2.2.1 i hi), cx, cy⟩
        have H7 := Lib.hid h7
        clear hw7 r7 b7 h7 k7 hs3 hL7 H6 K6
        go_region
        obtain ⟨w7d, hwd⟩ : ∃ w', w7.drew = w' := ⟨_, rfl⟩
        have HR7 : Hid (L7 s1 ∧ L7 s3 ∧ (∀ i, i < 5 → w7d.cell? ⟨s1, i, none⟩ = some (.string (overN i))) ∧ w7d.cell? ⟨s3, F, none⟩ = some (.int .i64 x) ∧ w7d.cell? ⟨s3, T, none⟩ = some (.int .i64 x)) := Lib.hid (by rw [← hwd]; exact HR7.out)
        have H7 : Hid (TS E B L7 a b t dm w1 S2 w7d) := Lib.hid (by rw [← hwd]; exact H7.out.below (Below.refl _ _).drew)
        have cx := HR7.out.2.2.2.1
        have cy := HR7.out.2.2.2.2
        rw [hwd]
        clear hwd
        go_wp2_with fail
        refine (ts_entries H7.out CNT.out).mono ?_
        rintro e w9 ⟨rfl, h9, k9⟩
        have H9 := Lib.hid h9
        clear h9 k9
        go_wp2
        rw [← HP.out]
        exact ⟨by first | done | rfl | simp, HB1.out.trans H9.out.bel⟩
      have HNE : Hid (idsN F ≠ idsN T) := Lib.hid heq
      have bF2 : ((F : Int) == 2) = false := by rw [beq_eq_false_iff_ne]; omega
      have bF3 : ((F : Int) == 3) = false := by rw [beq_eq_false_iff_ne]; omega
      have nF2 : ¬ (F : Int) = 2 := by omega
      have nF3 : ¬ (F : Int) = 3 := by omega
      have nF0 : (0 : Int) ≤ (F : Int) := by omega
      have nF5 : (F : Int) < 5 := by omega
      have bT2 : ((T : Int) == 2) = false := by rw [beq_eq_false_iff_ne]; omega
      have bT3 : ((T : Int) == 3) = false := by rw [beq_eq_false_iff_ne]; omega
      have nT2 : ¬ (T : Int) = 2 := by omega
      have nT3 : ¬ (T : Int) = 3 := by omega
      have nT0 : (0 : Int) ≤ (T : Int) := by omega
      have nT5 : (T : Int) < 5 := by omega
      obtain ⟨x, hx⟩ : ∃ x, idsN F = x := ⟨_, rfl⟩
      obtain ⟨y, hy⟩ : ∃ y, idsN T = y := ⟨_, rfl⟩
      have HXY := Lib.hid (And.intro hx hy)
      obtain ⟨l1, l2, l3, l4⟩ := over_law5b F hF5 hF2 hF3 T hT5 hT2 hT3 HNE.out
      obtain ⟨l5, l6, l7, l8⟩ := over_law6b F hF5 hF2 hF3 T hT5 hT2 hT3 HNE.out
      have hxy : ¬ x = y := by rw [← hx, ← hy]; exact HNE.out
      rw [HREN.out.2.2] at l3 l4 l5 l6 l7 l8
      rw [hx] at l4
      rw [hy] at l2 l7 l8
      obtain rfl : c = 0 := by rw [← HREN.out.1]; exact l1
      obtain rfl : id = y := by rw [← HREN.out.2.1]; exact l2
      have CNT : Hid (S2.count = 5) := Lib.hid l6
      obtain rfl : v = .nilIface := HV.out.symm
      obtain ⟨nd, hnd⟩ : ∃ nd, (lookT S2 (overN T) false).2 = nd := ⟨_, rfl⟩
      rw [hnd] at l4
      have HL1 := Lib.hid (And.intro l3 hnd)
      obtain ⟨d1, d2, d3, d4, d5, d6⟩ := nd
      simp only at l4
      subst l4
      obtain ⟨nf, hnf⟩ : ∃ nd, (lookT S2 (overN F) false).2 = nd := ⟨_, rfl⟩
      have HL2 := Lib.hid (And.intro l5 hnf)
      obtain ⟨e1, e2, e3, e4, e5, e6⟩ := nf
      obtain ⟨nq, hnq⟩ : ∃ nd, (S2.nd id).getD noNd = nd := ⟨_, rfl⟩
      have hsm : (S2.nd id).isSome = true := l7
      have hlk := l8
      rw [hnq] at hlk
      obtain ⟨q1, q2, q3, q4, q5, q6⟩ := nq
      simp only at hlk
      have HLK := Lib.hid hlk
      clear hlk
      have HQ := Lib.hid (And.intro hnq hsm)
      have HIDR : Hid (-9223372036854775808 ≤ id ∧ id ≤ 9223372036854775807) := Lib.hid (by rw [← hy]; exact ids_range T (by omega))
      obtain ⟨ad, had⟩ := errOf_some (E := E) (c := 109) (by omega)
      have HAD := Lib.hid had
      clear hx hy l1 l2 l3 l5 l6 l7 l8 hnd hnf hnq hsm had
      go_wp2_with fail
      obtain ⟨w7, hw7⟩ : ∃ w7, w7 = w6.alloc (.cells #[.int .i64 2, .int .i64 3, .int .i64 4, .int .i64 5, .int .i64 2] 3) := ⟨_, rfl⟩
      have r7 : Row w7 w6.heap.size 3 [.int .i64 2, .int .i64 3, .int .i64 4, .int .i64 5, .int .i64 2] := by rw [hw7]; exact Row.new _ _ _
      have b7 : Below w6.heap.size w6 w7 := by rw [hw7]; exact bl_alloc (Below.refl _ _) _
      rw [← hw7]
      have h7 := (H6.out.below b7).more (r7.plain (plainI _ _))
      have k7 := K6.out.trans (H6.out.wb.kept b7)
      obtain ⟨s3, hs3⟩ : ∃ s3, w6.heap.size = s3 := ⟨_, rfl⟩
      rw [hs3] at h7 r7 ⊢
      obtain ⟨L7, hL7⟩ : ∃ L7 : Nat → Prop, L7 = fun y => y = s3 ∨ L y := ⟨_, rfl⟩
      rw [← hL7] at h7
      have cx : w7.cell? ⟨s3, F, none⟩ = some (.int .i64 d1) := (r7.cell F).trans ((ids_get F (by omega)).trans (by rw [HXY.out.1]))
      have cy : w7.cell? ⟨s3, T, none⟩ = some (.int .i64 id) := (r7.cell T).trans ((ids_get T (by omega)).trans (by rw [HXY.out.2]))
      have HR7 : Hid (L7 s1 ∧ L7 s3 ∧ (∀ i, i < 5 → w7.cell? ⟨s1, i, none⟩ = some (.string (overN i))) ∧ w7.cell? ⟨s3, F, none⟩ = some (.int .i64 d1) ∧ w7.cell? ⟨s3, T, none⟩ = some (.int .i64 id)) :=
        Lib.hid ⟨by rw [hL7]; exact .inr HR.out.1, by rw [hL7]; exact .inl rfl, fun i hi => (k7.cell HR.out.1 i).trans (HR.out.2.2.1 i hi), cx, cy⟩
      have H7 := Lib.hid h7
      clear hw7 r7 b7 h7 k7 hs3 hL7 H6 K6
      go_region
      obtain ⟨w7d, hwd⟩ : ∃ w', w7.drew = w' := ⟨_, rfl⟩
      have HR7 : Hid (L7 s1 ∧ L7 s3 ∧ (∀ i, i < 5 → w7d.cell? ⟨s1, i, none⟩ = some (.string (overN i))) ∧ w7d.cell? ⟨s3, F, none⟩ = some (.int .i64 d1) ∧ w7d.cell? ⟨s3, T, none⟩ = some (.int .i64 id)) := Lib.hid (by rw [← hwd]; exact HR7.out)
      have H7 : Hid (TS E B L7 a b t dm w1 S2 w7d) := Lib.hid (by rw [← hwd]; exact H7.out.below (Below.refl _ _).drew)
      have cx := HR7.out.2.2.2.1
      have cy := HR7.out.2.2.2.2
      rw [hwd]
      clear hwd
      have cT : w7d.cell? ⟨s1, T, none⟩ = some (.string (overN T)) := HR7.out.2.2.1 T (by omega)
      go_wp2_with fail
      refine (ts_look H7.out (overN T) false HL1.out.1 HL1.out.2 rfl).mono ?_
      rintro e w8 ⟨rfl, h8, k8⟩
      simp only [encN]
      rw [show errOf E 0 = .nilIface from rfl]
      have H8 := Lib.hid h8
      have K8 := Lib.hid k8
      clear h8 k8 cT cx cy H7
      have cF8 : w8.cell? ⟨s1, F, none⟩ = some (.string (overN F)) := (K8.out.cell HR7.out.1 _).trans (HR7.out.2.2.1 F (by omega))
      have lt8 : s1 < w8.heap.size := H8.out.wb.2.1 s1 HR7.out.1
      have cF9 : (w8.alloc (.cells #[.int .i64 d1, .int .i64 d2, .int .i64 d3, .int .i64 d4, .string d5, .int .i64 d6] 35)).cell? ⟨s1, F, none⟩ = some (.string (overN F)) := ((bl_alloc (Below.refl _ _) _).cell (p := ⟨s1, F, none⟩) lt8).trans cF8
      go_wp2_with fail
      obtain ⟨w9, hw9⟩ : ∃ w9, w9 = w8.alloc (.cells #[.int .i64 d1, .int .i64 d2, .int .i64 d3, .int .i64 d4, .string d5, .int .i64 d6] 35) := ⟨_, rfl⟩
      have r9 : Row w9 w8.heap.size 35 [.int .i64 d1, .int .i64 d2, .int .i64 d3, .int .i64 d4, .string d5, .int .i64 d6] := by rw [hw9]; exact Row.new _ _ _
      have b9 : Below w8.heap.size w8 w9 := by rw [hw9]; exact bl_alloc (Below.refl _ _) _
      rw [← hw9]
      have h9 := (H8.out.below b9).more (r9.plain (plainI _ _))
      have k9 := K8.out.trans (H8.out.wb.kept b9)
      obtain ⟨X, hX⟩ : ∃ X, w8.heap.size = X := ⟨_, rfl⟩
      rw [hX] at h9 r9 ⊢
      obtain ⟨L9, hL9⟩ : ∃ L9 : Nat → Prop, L9 = fun y => y = X ∨ L7 y := ⟨_, rfl⟩
      rw [← hL9] at h9
      have HR9 : Hid (L9 X ∧ L9 s3 ∧ w9.cell? ⟨X, 0, none⟩ = some (.int .i64 d1) ∧ w9.cell? ⟨s3, F, none⟩ = some (.int .i64 d1) ∧ w9.cell? ⟨s3, T, none⟩ = some (.int .i64 id)) :=
        Lib.hid ⟨by rw [hL9]; exact .inl rfl, by rw [hL9]; exact .inr HR7.out.2.1, (r9.cell 0).trans rfl, (k9.cell HR7.out.2.1 _).trans HR7.out.2.2.2.1, (k9.cell HR7.out.2.1 _).trans HR7.out.2.2.2.2⟩
      have H9 := Lib.hid h9
      clear hw9 r9 b9 h9 k9 hX hL9 H8 K8 cF8 lt8 cF9
      refine (ts_look H9.out (overN F) false HL2.out.1 HL2.out.2 HAD.out).mono ?_
      rintro e w10 ⟨rfl, h10, k10⟩
      simp only [encN]
      have H10 := Lib.hid h10
      have K10 := Lib.hid k10
      clear h10 k10 H9
      go_wp2_with fail
      obtain ⟨w11, hw11⟩ : ∃ w11, w11 = w10.alloc (.cells #[.int .i64 e1, .int .i64 e2, .int .i64 e3, .int .i64 e4, .string e5, .int .i64 e6] 35) := ⟨_, rfl⟩
      have b11 : Below w10.heap.size w10 w11 := by rw [hw11]; exact bl_alloc (Below.refl _ _) _
      rw [← hw11]
      have H11 := Lib.hid (H10.out.below b11)
      have K11 := Lib.hid (K10.out.trans (H10.out.wb.kept b11))
      clear hw11 b11 H10 K10
      have S : ∀ w', ShH w11.heap.size (ndC ⟨q1, q2, q3, q4, q5, q6⟩) 35 w11 w' → w'.cell? ⟨a, 0, none⟩ = some (.pointer (some ⟨b, 0, none⟩)) ∧ w'.cell? ⟨b, 0, none⟩ = some (.pointer (some ⟨t, 0, none⟩)) ∧ w'.cell? ⟨s3, T, none⟩ = some (.int .i64 id) :=
        fun w' hs => ⟨(hs.bel.cell (p := ⟨a, 0, none⟩) H11.out.ta.2).trans H11.out.ta.1, (hs.bel.cell (p := ⟨b, 0, none⟩) H11.out.wb.lt.1).trans H11.out.wb.c0, (hs.bel.cell (p := ⟨s3, T, none⟩) (H11.out.wb.2.1 s3 HR9.out.2.1)).trans ((K11.out.cell HR9.out.2.1 _).trans HR9.out.2.2.2.2)⟩
      have HG : Hid (∀ w', ShH w11.heap.size (ndC ⟨q1, q2, q3, q4, q5, q6⟩) 35 w11 w' → Calls Tryz.prog 21 #[.pointer (some ⟨t, 0, none⟩), .int .i64 id] w' fun e w'' => e = .returned (.tuple #[.agg #[.int .i64 q1, .int .i64 q2, .int .i64 q3, .int .i64 q4, .string q5, .int .i64 q6], .bool true]) ∧ Below w'.heap.size w' w'') := Lib.hid (by
        intro w' hs
        have := wl_get (H11.out.wb.below hs.bel) (k := id) HIDR.out
        rw [HQ.out.1, HQ.out.2] at this
        exact this)
      apply wp_region_rel _ (by kernel_rfl) (by kernel_rfl) (fun w' => ShH w11.heap.size (ndC ⟨q1, q2, q3, q4, q5, q6⟩) 35 w11 w') (fun w' w'' => ShH w11.heap.size (ndC ⟨q1, q2, q3, q4, q5, q6⟩) 35 w' w'') (fun w' w'' h1 h2 => h1.trans h2) (ShH.refl _ _ _ _).drew
      repeat (first
        | (apply wpRel_fix (by rfl)
           · intro w' hC hf R hR
             have hS := S w' hC
             go_simp
             exact hR _ (ShH.refl _ _ _ _)
           simp only [Act.put, List.setIfInBounds_toArray, List.set_cons_zero, List.set_cons_succ])
        | (apply wpRel_fix (by rfl)
           · intro w' hC hf R hR
             have hS := S w' hC
             go_simp
             refine (HG.out w' hC).mono ?_
             rintro e w'' ⟨rfl, hb⟩
             exact ⟨_, rfl, hR _ (ShH.of_below hb (Nat.le_trans hC.bel.size (Nat.le_refl _)))⟩
           simp only [Act.put, List.setIfInBounds_toArray, List.set_cons_zero, List.set_cons_succ]))
      apply wpRel_rel (PtTy w11.heap.size ((ndC ⟨q1, q2, q3, q4, q5, q6⟩) : List Value).length 35) (by rfl) ptTy_keep
      · intro w' hC hf R hR
        go_simp
        exact hR _ _ ⟨_, rfl, hC.bel.size, TyB.new _ _ _ rfl⟩ (ShH.of_below (bl_alloc (Below.refl _ _) _) hC.bel.size)
      intro vptr
      simp only [Act.put, List.setIfInBounds_toArray, List.set_cons_zero, List.set_cons_succ]
      apply wpRel_dep 25 (PtRow w11.heap.size (ndC ⟨q1, q2, q3, q4, q5, q6⟩) 35) (by rfl) (by rfl) ptRow_keep
      · intro w' hC hf R hR
        obtain ⟨c, rfl, hc, hk⟩ := hf _ (List.mem_cons_self ..) (by kernel_rfl)
        obtain ⟨u0, e0⟩ := hk.cell (i := 0) (Nat.lt_of_lt_of_eq (by decide : 0 < 6) rfl)
        have f0 := hk.froz 0
        obtain ⟨u1, e1⟩ := hk.cell (i := 1) (Nat.lt_of_lt_of_eq (by decide : 1 < 6) rfl)
        have f1 := hk.froz 1
        obtain ⟨u2, e2⟩ := hk.cell (i := 2) (Nat.lt_of_lt_of_eq (by decide : 2 < 6) rfl)
        have f2 := hk.froz 2
        obtain ⟨u3, e3⟩ := hk.cell (i := 3) (Nat.lt_of_lt_of_eq (by decide : 3 < 6) rfl)
        have f3 := hk.froz 3
        obtain ⟨u4, e4⟩ := hk.cell (i := 4) (Nat.lt_of_lt_of_eq (by decide : 4 < 6) rfl)
        have f4 := hk.froz 4
        obtain ⟨u5, e5⟩ := hk.cell (i := 5) (Nat.lt_of_lt_of_eq (by decide : 5 < 6) rfl)
        have f5 := hk.froz 5
        have hN := Lib.hid hk
        clear hk
        go_simp
        exact hR _ _ (ptRow_mk hN.out hc) (ShH.setAll hN.out hc)
      intro vst
      simp only [Act.put, List.setIfInBounds_toArray, List.set_cons_zero, List.set_cons_succ]
      repeat (first
        | (apply wpRel_fix (by rfl)
           · intro w' hC hf R hR
             have hS := S w' hC
             go_simp
             exact hR _ (ShH.refl _ _ _ _)
           simp only [Act.put, List.setIfInBounds_toArray, List.set_cons_zero, List.set_cons_succ]))
      refine wpRel_nil (fun w12 hC hf => ?_)
      obtain ⟨cn, rfl, hcn, rw12⟩ : PtRow w11.heap.size (ndC ⟨q1, q2, q3, q4, q5, q6⟩) 35 vptr w12 := hf _ (List.mem_cons_self ..)
      have h12 := (H11.out.below hC.bel).more (rw12.plain (plainI _ _))
      have k12 := K11.out.trans (H11.out.wb.kept hC.bel)
      obtain ⟨L12, hL12⟩ : ∃ L12 : Nat → Prop, L12 = fun y => y = cn ∨ L9 y := ⟨_, rfl⟩
      rw [← hL12] at h12
      have HR12 : Hid (L12 X ∧ L12 s3 ∧ L12 cn ∧ w12.cell? ⟨X, 0, none⟩ = some (.int .i64 d1) ∧ w12.cell? ⟨s3, F, none⟩ = some (.int .i64 d1) ∧ w12.cell? ⟨s3, T, none⟩ = some (.int .i64 id) ∧ w12.cell? ⟨cn, 2, none⟩ = some (.int .i64 q3)) :=
        Lib.hid ⟨by rw [hL12]; exact .inr HR9.out.1, by rw [hL12]; exact .inr HR9.out.2.1, by rw [hL12]; exact .inl rfl, (k12.cell HR9.out.1 _).trans HR9.out.2.2.1, (k12.cell HR9.out.2.1 _).trans HR9.out.2.2.2.1, (k12.cell HR9.out.2.1 _).trans HR9.out.2.2.2.2, (rw12.cell 2).trans rfl⟩
      have H12 := Lib.hid h12
      clear S hf hC HG rw12 h12 k12 hL12 H11 K11
      have cy : w12.cell? ⟨s3, T, none⟩ = some (.int .i64 id) := HR12.out.2.2.2.2.2.1
      by_cases hid2 : id = 2
      · subst hid2
        have hq := HLK.out
        rw [if_pos rfl] at hq
        subst hq
        go_wp2_with fail
        clear cy
        have S : ∀ w', (TS E B L12 a b t dm w1 S2 w' ∧ KeptP B L12 w12 w') → w'.cell? ⟨X, 0, none⟩ = some (.int .i64 d1) ∧ w'.cell? ⟨s3, F, none⟩ = some (.int .i64 d1) ∧ w'.cell? ⟨s3, T, none⟩ = some (.int .i64 2) :=
          fun w' h => ⟨(h.2.cell HR12.out.1 _).trans HR12.out.2.2.2.1, (h.2.cell HR12.out.2.1 _).trans HR12.out.2.2.2.2.1, (h.2.cell HR12.out.2.1 _).trans HR12.out.2.2.2.2.2.1⟩
        apply wp_region_rel _ (by kernel_rfl) (by kernel_rfl) (fun w' => TS E B L12 a b t dm w1 S2 w' ∧ KeptP B L12 w12 w') (fun w' w'' => (TS E B L12 a b t dm w1 S2 w' → TS E B L12 a b t dm w1 S2 w'') ∧ KeptP B L12 w' w'') (fun w' w'' h1 h2 => ⟨h2.1 h1.1, h1.2.trans h2.2⟩) ⟨H12.out.below (Below.refl _ _).drew, H12.out.wb.kept (Below.refl _ _).drew⟩
        repeat (first
          | (apply wpRel_skip (by rfl)
             simp only [Act.put, List.setIfInBounds_toArray, List.set_cons_zero, List.set_cons_succ])
          | (apply wpRel_fix (by rfl)
             · intro w' hC hf R hR
               have hS := S w' hC
               go_simp
               exact hR _ ⟨fun h => h, KeptP.refl _ _ _⟩
             simp only [Act.put, List.setIfInBounds_toArray, List.set_cons_zero, List.set_cons_succ])
          | (apply wpRel_fix (by rfl)
             · intro w' hC hf R hR
               have hS := S w' hC
               go_simp
               refine (ts_is hC.1 HAD.out (by omega) (by decide : ((109 : Int) == 109) = true)).mono ?_
               rintro e w'' ⟨rfl, hb9, hk9⟩
               exact ⟨_, rfl, hR _ ⟨fun _ => hk9, hC.1.wb.kept hb9⟩⟩
             simp only [Act.put, List.setIfInBounds_toArray, List.set_cons_zero, List.set_cons_succ])
          | (apply wpRel_fix (by rfl)
             · intro w' hC hf R hR
               have hS := S w' hC
               go_simp
               refine (ts_entries hC.1 CNT.out).mono ?_
               rintro e w'' ⟨rfl, hk8, hk9⟩
               exact ⟨_, rfl, hR _ ⟨fun _ => hk8, hk9⟩⟩
             simp only [Act.put, List.setIfInBounds_toArray, List.set_cons_zero, List.set_cons_succ]))
        refine wpRel_nil (fun w13 hC hf => ?_)
        have cl : w13.cell? ⟨cn, 2, none⟩ = some (.int .i64 1) := (hC.2.cell HR12.out.2.2.1 _).trans HR12.out.2.2.2.2.2.2
        have H13 := Lib.hid hC.1
        clear S hf hC
        go_wp2
        rw [← HP.out]
        exact ⟨by first | done | rfl | simp, HB1.out.trans H13.out.bel⟩
      · have hq := HLK.out
        rw [if_neg hid2] at hq
        subst hq
        go_wp2_with fail
        clear cy
        have S : ∀ w', (TS E B L12 a b t dm w1 S2 w' ∧ KeptP B L12 w12 w') → w'.cell? ⟨X, 0, none⟩ = some (.int .i64 d1) ∧ w'.cell? ⟨s3, F, none⟩ = some (.int .i64 d1) ∧ w'.cell? ⟨s3, T, none⟩ = some (.int .i64 id) :=
          fun w' h => ⟨(h.2.cell HR12.out.1 _).trans HR12.out.2.2.2.1, (h.2.cell HR12.out.2.1 _).trans HR12.out.2.2.2.2.1, (h.2.cell HR12.out.2.1 _).trans HR12.out.2.2.2.2.2.1⟩
        apply wp_region_rel _ (by kernel_rfl) (by kernel_rfl) (fun w' => TS E B L12 a b t dm w1 S2 w' ∧ KeptP B L12 w12 w') (fun w' w'' => (TS E B L12 a b t dm w1 S2 w' → TS E B L12 a b t dm w1 S2 w'') ∧ KeptP B L12 w' w'') (fun w' w'' h1 h2 => ⟨h2.1 h1.1, h1.2.trans h2.2⟩) ⟨H12.out.below (Below.refl _ _).drew, H12.out.wb.kept (Below.refl _ _).drew⟩
        repeat (first
          | (apply wpRel_skip (by rfl)
             simp only [Act.put, List.setIfInBounds_toArray, List.set_cons_zero, List.set_cons_succ])
          | (apply wpRel_fix (by rfl)
             · intro w' hC hf R hR
               have hS := S w' hC
               go_simp
               exact hR _ ⟨fun h => h, KeptP.refl _ _ _⟩
             simp only [Act.put, List.setIfInBounds_toArray, List.set_cons_zero, List.set_cons_succ])
          | (apply wpRel_fix (by rfl)
             · intro w' hC hf R hR
               have hS := S w' hC
               go_simp
               refine (ts_is hC.1 HAD.out (by omega) (by decide : ((109 : Int) == 109) = true)).mono ?_
               rintro e w'' ⟨rfl, hb9, hk9⟩
               exact ⟨_, rfl, hR _ ⟨fun _ => hk9, hC.1.wb.kept hb9⟩⟩
             simp only [Act.put, List.setIfInBounds_toArray, List.set_cons_zero, List.set_cons_succ])
          | (apply wpRel_fix (by rfl)
             · intro w' hC hf R hR
               have hS := S w' hC
               go_simp
               refine (ts_entries hC.1 CNT.out).mono ?_
               rintro e w'' ⟨rfl, hk8, hk9⟩
               exact ⟨_, rfl, hR _ ⟨fun _ => hk8, hk9⟩⟩
             simp only [Act.put, List.setIfInBounds_toArray, List.set_cons_zero, List.set_cons_succ]))
        refine wpRel_nil (fun w13 hC hf => ?_)
        have cl : w13.cell? ⟨cn, 2, none⟩ = some (.int .i64 0) := (hC.2.cell HR12.out.2.2.1 _).trans HR12.out.2.2.2.2.2.2
        have H13 := Lib.hid hC.1
        clear S hf hC
        go_wp2
        rw [← HP.out]
        exact ⟨by first | done | rfl | simp, HB1.out.trans H13.out.bel⟩
end Go.Proofs.YtjmbilbkmcebeaaGreatDoor
end

section
namespace Go.Proofs.YtjmbilbkmcebeaaGreatDoor.treeOver
open Go.ChangeShapes Go.WideShapes Go.ChangeAt Go.RowKit
set_option maxRecDepth 100000

theorem own : ownKnob Tryz.prog.godebug = none := by kernel_rfl

theorem door_met (os : Os) (args : Array Value) : laidMetH Tryz.prog Rows.treeOverRow.laid ((World.laidAll Tryz.prog os Rows.treeOverRow.laid).forCall (fun _ _ => 0) ⟨#[], args, []⟩).memory := by
  rw [MakeChecks.laidMetH_plain _ _ _ (by kernel_rfl)]
  exact laidMet_laidAll _ (by kernel_rfl) (by kernel_rfl)

theorem lifted (os : Os) (started : os.Started) (H : Type) (enc : TypeId × Value → H) :
    ReturnsInHanded {} Tryz.checked os 4 .any (fun w args => (Rows.treeOverSpec.pre enc Tryz.prog Tryz.f4 [] false w args ∧ laidMetH Tryz.prog Rows.treeOverRow.laid w) ∧ sizedMet enc Tryz.prog Tryz.f4 (OpenSpec.ofChange Rows.treeOverSpec) false w args)
      (Rows.treeOverSpec.post enc Tryz.prog Tryz.f4 false true false false) := by
  refine handed_and_shaped (C := Tryz.checked) (X := fun w _ => laidMetH Tryz.prog Rows.treeOverRow.laid w) (fun _ _ _ hh h => h.of_heap hh) own started (by kernel_rfl) Tryz.func4
    (ChangeSpec.witness_shaped (enc := enc) (C := Tryz.checked) (os := os) (X := fun w _ => laidMetH Tryz.prog Rows.treeOverRow.laid w) false (World.laidAll Tryz.prog os Rows.treeOverRow.laid) #[.int .i64 0, .int .i64 0, .int .i64 0] 8 (World.laidAll_os _ _ _) (World.shaped_of_ZipB (by kernel_rfl) (by kernel_rfl)) (by kernel_rfl) (by kernel_rfl) (by kernel_rfl) (door_met os _)) ?_
  intro W base args ds gs before hval0 hW _ _ hL hSh _
  have hval : ∀ (j : Nat) t v, Tryz.f4.params[j]? = some t → args[j]? = some v → Value.okWide Tryz.prog W .any base t v := hval0
  have hW' := hW
  obtain ⟨p, q, hA0, hV, rfl, hfz, hnd⟩ := hW
  have hA : DataW.TrodAll enc Tryz.prog W 0 (fun _ => true) true Tryz.f4.params.toList args.toList ds p := hA0
  rw [Tryz.params4] at hA hval
  obtain ⟨v0, vs0, d0, ds0, p0, q0, hargs, rfl, rfl, h0, r0⟩ := trodAll_cons hA
  obtain ⟨v1, vs1, d1, ds1, p1, q1, rfl, rfl, rfl, h1, r1⟩ := trodAll_cons r0
  obtain ⟨v2, vs2, d2, ds2, p2, q2, rfl, rfl, rfl, h2, r2⟩ := trodAll_cons r1
  obtain ⟨rfl, rfl, rfl⟩ := trodAll_nil r2
  obtain rfl : args = #[v0, v1, v2] := by cases args; simp_all
  obtain ⟨rfl, rfl⟩ := trodVars_none hV
  obtain ⟨a0, rfl, rfl, rfl, w0⟩ := open_int Tryz.underlying3 (hval 0 3 v0 rfl rfl) h0
  obtain ⟨a1, rfl, rfl, rfl, w1⟩ := open_int Tryz.underlying3 (hval 1 3 v1 rfl rfl) h1
  obtain ⟨a2, rfl, rfl, rfl, w2⟩ := open_int Tryz.underlying3 (hval 2 3 v2 rfl rfl) h2
  obtain ⟨E, hE0⟩ := env_of_laid_mid 1 24 hL (by kernel_rfl) (by kernel_rfl) (by kernel_rfl)
  have hE := envM_of hE0 hSh

  clear hA0 hval0
  simp only [List.append_nil] at hW'
  refine (treeover_any a0 a1 a2 W hE).mono fun e W' ⟨he, bel⟩ => ?_
  subst he
  exact ⟨_, rfl, _, _, _, [], [], [], hW', trodAll_mk1 (shut_bool Tryz.underlying4 _), (trodAll_cons_mk (shut_int Tryz.underlying3 w0) (trodAll_cons_mk (shut_int Tryz.underlying3 w1) (trodAll_cons_mk (shut_int Tryz.underlying3 w2) trodAll_mk0))), rfl, bel.frame _, fun h => by cases h⟩

theorem joined : joinedFacts Tryz.prog 4 Tryz.f4 Rows.treeOverSpec Rows.treeOverRow = true := by
  unfold joinedFacts
  rw [seat_laidOut, seat_mapsRowed, seat_stopsHeard, seat_mayEnter, seat_plainKeys, seat_lifted, seat_make]
  kernel_rfl
theorem inst : Tryz.f4.isInstance Tryz.prog Rows.treeOverRow.origin Rows.treeOverRow.targs := of_decide_eq_true (by kernel_rfl)
theorem wrap : Tryz.f4.isWrapper Tryz.prog Rows.treeOverRow.wrapper Rows.treeOverRow.mainSum := by
  unfold Func.isWrapper
  first | (rw [if_pos (by decide +kernel)]; kernel_rfl) | (rw [if_neg (by decide +kernel)]; exact ⟨rfl, rfl⟩)

theorem over : Rows.treeOverRow.holds Tryz.pinned (OpenSpec.ofChange Rows.treeOverSpec) :=
  OpenClaim.holds_of_wide 4 Tryz.f4 rfl rfl rfl rfl rfl rfl rfl ⟨rfl, rfl, rfl, rfl, rfl⟩ rfl rfl rfl rfl rfl (by kernel_rfl) Tryz.func4 joined inst wrap
    (fun os started H enc _ => lifted os started H enc)

theorem proved : Rows.TreeOverCardSaid :=
  Claim7.holds_tied_plain_at .later [] Rows.treeOverCard.laidKinds true Rows.treeOverCard.stood.harness true
    over (fun _ h => by cases h) (by kernel_rfl) (fun _ h => by cases h) treeOver_row_tie rfl ⟨rfl, rfl⟩ (by kernel_rfl) rfl
    (fun f fn hf hfn => by
      obtain rfl : f = 4 := Option.some.inj ((show Tryz.prog.funcNamed "breviary/breviarylaw19.TreeOver" = some 4 by kernel_rfl).symm.trans hf) |>.symm
      obtain rfl : fn = Tryz.f4 := (Option.some.inj (Tryz.func4.symm.trans hfn)).symm
      exact ⟨by kernel_rfl, fun j t ht => by
        rw [Tryz.params4] at ht
        have hm : t ∈ [3, 3, 3] := by
          have := Array.mem_of_getElem? ht
          simpa using this
        have hall : [3, 3, 3].all (fun t => !(Tryz.prog.wantsStandIn t)) = true := by kernel_rfl
        have h := (List.all_eq_true.1 hall) t hm
        simp only [Bool.not_eq_true'] at h
        exact h⟩)
    (by kernel_rfl)
#print axioms proved
end Go.Proofs.YtjmbilbkmcebeaaGreatDoor.treeOver
end
