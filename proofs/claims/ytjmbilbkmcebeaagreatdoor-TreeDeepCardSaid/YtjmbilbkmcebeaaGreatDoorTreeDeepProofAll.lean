/- PROVED: Rows.TreeDeepCardSaid: for every input the law TreeDeep returns true, and each argument reads as before. Conditions: none beyond the listed package variables, which the card ties to the program's text. -/
import Derived.Test.YtjmbilbkmcebeaaGreatDoorBase30
import Derived.Test.YtjmbilbkmcebeaaGreatDoorBase29
import Derived.Test.YtjmbilbkmcebeaaGreatDoorBase28
import Derived.Test.YtjmbilbkmcebeaaGreatDoorBase22
import Derived.Test.YtjmbilbkmcebeaaGreatDoorBase12
import Derived.Test.YtjmbilbkmcebeaaGreatDoorItoaS
import Derived.Test.YtjmbilbkmcebeaaGreatDoorRows
import Derived.Test.YtjmbilbkmcebeaaGreatDoorCards
import Derived.Test.YtjmbilbkmcebeaaGreatDoorTie
import Derived.Test.YtjmbilbkmcebeaaGreatDoorBase05
import Derived.Test.YtjmbilbkmcebeaaGreatDoorBase06
import Derived.Test.YtjmbilbkmcebeaaGreatDoorBase31
import Derived.Test.YtjmbilbkmcebeaaGreatDoorBase32
import Derived.ProofKit
import Derived.OpenShut
import Derived.ChangeOld
import Derived.LaidMore
import Derived.ChangeSame
import Derived.ChangeVars
import Derived.JoinedOf
import Derived.Lay
import Derived.MakeChecks
import Derived.SevenTiedAt
import Derived.Stop.Joined
import Derived.ChangeMaps5
section
/- The walk of the law TreeRings. -/
namespace Go.Proofs.YtjmbilbkmcebeaaGreatDoor
open Go Go.RowKit
set_option maxRecDepth 100000
set_option linter.unusedSimpArgs false
set_option linter.unusedVariables false
attribute [local go_sem] giv
variable {E : Nat → Addr} {B : Nat}
theorem rings_full : ∀ k, Full (ringS k).2
  | 0 => newSt_full
  | k + 1 => makeT_full (rings_full k) _ 2 noText
def ringL (k : Nat) : List ByteArray := (List.range k).map fun i => (ringS (i + 1)).1
theorem ringL_len (k : Nat) : (ringL k).length = k := by simp [ringL]
theorem ringL_succ (k : Nat) : ringL (k + 1) = ringL k ++ [(ringS (k + 1)).1] := by simp [ringL, List.range_succ]
theorem ringL_get {k i : Nat} (h : i < k) : (ringL k)[i]? = some (ringS (i + 1)).1 := by
  unfold ringL
  rw [List.getElem?_map, List.getElem?_range h]
  rfl
theorem nmA_app (x : ByteArray) (l : List UInt8) : x ++ (⟨l.toArray⟩ : ByteArray) = nmA (x.data.toList ++ l) := by
  apply ByteArray.ext
  apply Array.toList_inj.1
  simp [nmA]
theorem nmA_size (l : List UInt8) : (nmA l).size = l.length := by simp [nmA, ByteArray.size]
theorem ring_size : ∀ k, (ringS k).1.size = 2 * k
  | 0 => rfl
  | k + 1 => by
    have h : (ringS (k + 1)).1 = nmA ((ringS k).1.data.toList ++ [47, 100]) := rfl
    have h2 : (ringS k).1.data.toList.length = (ringS k).1.size := Array.length_toList
    rw [h, nmA_size, List.length_append, h2, ring_size k]
    simp
    omega
theorem ring_make : ∀ k, k < 8 → (makeT (ringS k).2 (ringS (k + 1)).1 2 noText).1 = 0 ∧ (parseP (ringS (k + 1)).1).1 = 0 := by decide +kernel
def ringX (k : Nat) : ByteArray := nmA ((ringS k).1.data.toList ++ [47, 120])
theorem ring_law {D A C : Nat} (hD : D < 7) (hA : A < D + 2) (hC : C < D + 2) :
    if A ≤ C then (renameT (ringS (D + 2)).2 (ringS (A + 1)).1 (ringX (C + 1))).1 = 114 ∧ (renameT (ringS (D + 2)).2 (ringS (A + 1)).1 (ringX (C + 1))).2.2.within ((C : Int) + 1 + 1) ((A : Int) + 1 + 1) = true
    else (renameT (ringS (D + 2)).2 (ringS (A + 1)).1 (ringX (C + 1))).1 = 0 ∧ (lookT (renameT (ringS (D + 2)).2 (ringS (A + 1)).1 (ringX (C + 1))).2.2 (ringX (C + 1)) false).1 = 0 ∧
      (lookT (renameT (ringS (D + 2)).2 (ringS (A + 1)).1 (ringX (C + 1))).2.2 (ringX (C + 1)) false).2.id = (A : Int) + 1 + 1 ∧ (lookT (renameT (ringS (D + 2)).2 (ringS (A + 1)).1 (ringX (C + 1))).2.2 (ringX (C + 1)) false).2.parent = (C : Int) + 1 + 1 ∧
      (renameT (ringS (D + 2)).2 (ringS (A + 1)).1 (ringX (C + 1))).2.2.within ((A : Int) + 1 + 1) ((C : Int) + 1 + 1) = true ∧ (renameT (ringS (D + 2)).2 (ringS (A + 1)).1 (ringX (C + 1))).2.2.within ((C : Int) + 1 + 1) ((A : Int) + 1 + 1) = false ∧
      (renameT (ringS (D + 2)).2 (ringS (A + 1)).1 (ringX (C + 1))).2.2.count = ((D + 2 : Nat) : Int) := by
  have h := List.all_eq_true.1 (List.all_eq_true.1 (List.all_eq_true.1 ring_all D (by simpa using hD)) A (by simpa using hA)) C (by simpa using hC)
  unfold ringOk at h
  by_cases hc : A ≤ C
  · rw [if_pos hc]
    rw [if_pos (by omega)] at h
    simpa [ringX] using h
  · rw [if_neg hc]
    rw [if_neg (by omega)] at h
    simp only [Bool.and_eq_true, beq_iff_eq, Bool.not_eq_true'] at h
    obtain ⟨⟨⟨⟨⟨⟨h1, h2⟩, h3⟩, h4⟩, h5⟩, h6⟩, h7⟩ := h
    exact ⟨h1, h2, h3, h4, h5, h6, h7⟩
theorem SlE.neS {w : World} {base : Nat} {e : TypeId} {k : Nat} {enc : ByteArray → List Value} {v : Value} {xs : List ByteArray} (h : SlE w base e k enc v xs) (hn : xs ≠ []) : ∃ g cap, v = .slice (some ⟨g, 0, none⟩) xs.length cap ∧ base ≤ g ∧ g < w.heap.size := by
  rcases h.cases with ⟨_, h⟩ | ⟨g, cap, h1, h2, h3, _⟩
  · exact absurd h hn
  · exact ⟨g, cap, h1, h2, h3⟩
theorem SlE.cellS {w : World} {base : Nat} {e : TypeId} {v : Value} {xs : List ByteArray} (h : SlE w base e 1 encS v xs) {g : Nat} (hg : v.ownBlock = some g) {i : Nat} {x : ByteArray} (hi : xs[i]? = some x) : w.cell? ⟨g, i, none⟩ = some (.string x) := by
  have hf : flat encS xs = xs.map Value.string := by
    clear h hi
    induction xs with
    | nil => rfl
    | cons x xs ih => rw [flat_cons, ih]; rfl
  have := World.ownsRow.cells h (g := g) hg i (.string x) (by rw [hf, List.getElem?_map, hi]; rfl)
  rwa [show (⟨g, 0, none⟩ : Addr).add i = ⟨g, i, none⟩ by unfold Addr.add; split <;> simp_all] at this
theorem SlE.plainS {w : World} {base : Nat} {e : TypeId} {v : Value} {xs : List ByteArray} (h : SlE w base e 1 encS v xs) (hn : xs ≠ []) {g : Nat} (hg : v.ownBlock = some g) : Plain w g := by
  cases xs with
  | nil => exact absurd rfl hn
  | cons x xs => exact ⟨.string x, h.cellS hg (i := 0) rfl, Go.Proofs.YtjmbilbkmcebeaaGreatDoor.plainS x⟩

set_option maxHeartbeats 8000000 in
theorem treerings_any (n1 n2 n3 : Int) (w : World) (hE : EnvM E B w) :
    Calls Tryz.prog 3 #[.int .i64 n1, .int .i64 n2, .int .i64 n3] w fun e w' => e = .returned (.bool true) ∧ Below B w w' := by
  have HE := Lib.hid hE
  generalize hP : (fun (e : Ending) (w' : World) => e = .returned (.bool true) ∧ Below B w w') = Post
  have HP := Lib.hid hP
  clear hP hE
  go_enter Tryz.func3, Tryz.ntmps3
  go_wp2_with fail
  refine (first_any HE.out).mono ?_
  rintro e w1 ⟨rfl, hb1⟩
  have HE1 := Lib.hid (HE.out.keep hb1)
  have HB1 := Lib.hid hb1
  clear hb1 HE
  go_wp2_with fail
  refine (number_any n1 7 (by omega) _).mono ?_
  rintro e w2 ⟨rfl, rfl⟩
  obtain ⟨D, hD⟩ : ∃ D : Nat, n1 % 7 = D := ⟨(n1 % 7).toNat, by omega⟩
  have hD7 : D < 7 := by omega
  rw [hD]
  clear hD
  go_wp2_with fail
  refine (number_any n2 ((D : Int) + 2) (by omega) _).mono ?_
  rintro e w2 ⟨rfl, rfl⟩
  obtain ⟨A, hA⟩ : ∃ A : Nat, n2 % ((D : Int) + 2) = A := ⟨(n2 % ((D : Int) + 2)).toNat, by have := Int.emod_nonneg n2 (show (D : Int) + 2 ≠ 0 by omega); omega⟩
  have hA7 : A < D + 2 := by have := Int.emod_lt_of_pos n2 (show 0 < (D : Int) + 2 by omega); omega
  rw [hA]
  clear hA
  go_wp2_with fail
  refine (number_any n3 ((D : Int) + 2) (by omega) _).mono ?_
  rintro e w2 ⟨rfl, rfl⟩
  obtain ⟨C, hC⟩ : ∃ C : Nat, n3 % ((D : Int) + 2) = C := ⟨(n3 % ((D : Int) + 2)).toNat, by have := Int.emod_nonneg n3 (show (D : Int) + 2 ≠ 0 by omega); omega⟩
  have hC7 : C < D + 2 := by have := Int.emod_lt_of_pos n3 (show 0 < (D : Int) + 2 by omega); omega
  rw [hC]
  clear hC
  go_wp2_with fail
  refine (ts_new HE1.out).mono ?_
  rintro e w2 ⟨a, b, t, dm, rfl, ha, h2⟩
  have H2 := Lib.hid h2
  have HSZ := Lib.hid (Nat.le_trans HE1.out.size ha)
  clear h2 ha
  go_wp2_with fail
  go_loopw [9, 10, 11] (fun s p i wr => ∃ k : Nat, k ≤ D + 2 ∧ s = .string (ringS k).1 ∧ i = .int .i64 ((k + 1 : Nat) : Int) ∧ Hid (∃ L, TS E B L a b t dm w1 (ringS k).2 wr ∧ SlE wr (a + 1) 9 1 encS p (ringL k) ∧ (∀ x, p.ownBlock = some x → L x))) (fun _ _ i _ => D + 3 - (intOf i).toNat)
  case atStart => exact ⟨0, Nat.zero_le _, rfl, rfl, Lib.hid ⟨_, H2.out, SlE.nil _ _ _ _ _, fun x hx => by simp [Value.ownBlock] at hx⟩⟩
  case round =>
    obtain ⟨k, hk, rfl, rfl, HR⟩ := hrel
    clear H2
    obtain ⟨L, hts, hsl, hloc⟩ := HR.out
    have HTS := Lib.hid hts
    have HSL := Lib.hid hsl
    have HLOC := Lib.hid hloc
    clear hts hsl hloc HR
    by_cases hkD : k < D + 2
    · have hcat : (ringS k).1 ++ (⟨#[47, 100]⟩ : ByteArray) = (ringS (k + 1)).1 := nmA_app _ [47, 100]
      have hfit : ¬ 9223372036854775807 < (ringS k).1.size + 2 := by rw [ring_size]; omega
      have HCAT := Lib.hid hcat
      have HOWN := Lib.hid (SlE.below HSL.out (bl_alloc (Below.refl _ wr) (.cells #[.string ((ringS k).1 ++ ⟨#[47, 100]⟩)] 9)))
      have HROW : Hid (RdE (wr.alloc (.cells #[.string ((ringS k).1 ++ ⟨#[47, 100]⟩)] 9)) 1 encS (.slice (some ⟨wr.heap.size, 0, none⟩) 1 1) [(ringS k).1 ++ ⟨#[47, 100]⟩]) := Lib.hid (RdE.one (x := (ringS k).1 ++ ⟨#[47, 100]⟩) (Row.new wr 9 (encS ((ringS k).1 ++ ⟨#[47, 100]⟩))))
      have HBS : Hid (a + 1 ≤ (wr.alloc (.cells #[.string ((ringS k).1 ++ ⟨#[47, 100]⟩)] 9)).heap.size) := Lib.hid (by have := HTS.out.ta.2; simp; omega)
      have HLN := Lib.hid (ringL_len k)
      clear hcat
      go_wp2_with (at_builtin; refine wpList_app strT rfl _ _ rfl rfl HOWN.out rfl HROW.out (by rw [HLN.out]; exact small_max (by simp; omega)) (by rw [HLN.out]; simp; omega) HBS.out ?_; intro v' w' hs' ht'; have HS' := Lib.hid hs'; have HT' := Lib.hid ht'; clear hs' ht')
      have hb := HTS.out.below (bl_alloc (Below.refl _ wr) (.cells #[.string ((ringS k).1 ++ ⟨#[47, 100]⟩)] 9))
      have ht1 := hb.touch HT'.out (fun x hx => ⟨HLOC.out x hx, by have := (SlE.lt HSL.out x hx).1; omega, by have := (SlE.lt HSL.out x hx).1; have := HSZ.out; omega⟩)
      have hs1 := HS'.out
      rw [HCAT.out, ← ringL_succ] at hs1
      rw [HCAT.out]
      obtain ⟨g, cap, rfl, hga, hgl⟩ := SlE.neS hs1 (by rw [ringL_succ]; simp)
      have hpl := SlE.plainS hs1 (by rw [ringL_succ]; simp) (g := g) rfl
      have ht2 := ht1.more hpl
      have HT2 := Lib.hid ht2
      have HS2 := Lib.hid hs1
      clear hb ht1 hs1 hpl ht2 HS' HT' HBS HROW HOWN HTS HSL
      obtain ⟨hm1, hm2⟩ := ring_make k (by omega)
      refine (ts_make HT2.out (ringS (k + 1)).1 noText 2 hm1 rfl (rfl : _ = (ringS (k + 1)).2) rfl hm2 ⟨by decide, by decide⟩).mono ?_
      generalize (makeT (ringS k).2 (ringS (k + 1)).1 2 noText).2.1 = id
      rintro e w4 ⟨rfl, h4, k4⟩
      rw [show errOf E 0 = .nilIface from rfl]
      have H4 := Lib.hid (And.intro h4 (HS2.out.keep (fun x hx => k4.loc x (.inl (by simpa [Value.ownBlock] using hx.symm)))))
      clear h4 k4 hm1 hm2
      go_wp2
      go_roundw
      case rel => exact ⟨k + 1, by omega, rfl, by go_num, Lib.hid ⟨_, H4.out.1, H4.out.2, fun x hx => .inl (by simpa [Value.ownBlock] using hx.symm)⟩⟩
      case measure => simp [intOf]; omega
    · obtain rfl : k = D + 2 := by omega
      obtain ⟨g, cap, rfl, hga, hgl⟩ := SlE.neS HSL.out (by intro h; have := congrArg List.length h; rw [ringL_len] at this; simp at this)
      rw [ringL_len]
      have hgL : L g := HLOC.out g rfl
      have cA := SlE.cellS HSL.out (g := g) rfl (ringL_get hA7)
      have cC := SlE.cellS HSL.out (g := g) rfl (ringL_get hC7)
      have HC := Lib.hid (And.intro hgL (And.intro cA cC))
      clear hgL cA cC
      have hfit : ¬ 9223372036854775807 < (ringS (C + 1)).1.size + 2 := by rw [ring_size]; omega
      have hcx : (ringS (C + 1)).1 ++ (⟨#[47, 120]⟩ : ByteArray) = ringX (C + 1) := nmA_app _ [47, 120]
      have HCX := Lib.hid hcx
      clear hcx
      have hlaw := ring_law hD7 hA7 hC7
      obtain ⟨c, hcc⟩ : ∃ c, (renameT (ringS (D + 2)).2 (ringS (A + 1)).1 (ringX (C + 1))).1 = c := ⟨_, rfl⟩
      obtain ⟨id, hid⟩ : ∃ c, (renameT (ringS (D + 2)).2 (ringS (A + 1)).1 (ringX (C + 1))).2.1 = c := ⟨_, rfl⟩
      obtain ⟨S2, hS2⟩ : ∃ c, (renameT (ringS (D + 2)).2 (ringS (A + 1)).1 (ringX (C + 1))).2.2 = c := ⟨_, rfl⟩
      obtain ⟨v, hv⟩ : ∃ v, errOf E c = v := ⟨_, rfl⟩
      rw [hcc, hS2] at hlaw
      have HLAW := Lib.hid hlaw
      have HV := Lib.hid hv
      have HREN := Lib.hid (And.intro hcc (And.intro hid hS2))
      clear hlaw hv hcc hid hS2
      have hA0 : (0 : Int) ≤ (A : Int) := by omega
      have hA1 : (A : Int) < (D : Int) + 2 := by omega
      have hC0 : (0 : Int) ≤ (C : Int) := by omega
      have hC1 : (C : Int) < (D : Int) + 2 := by omega
      have hwA : IntKind.i64.wrap (A : Int) = A := IntWalk.i64_in _ (by omega)
      have hwC : IntKind.i64.wrap (C : Int) = C := IntWalk.i64_in _ (by omega)
      go_wp2_with fail
      have HC0 : Hid (KeptP B L wr wr.drew ∧ TS E B L a b t dm w1 (if false = true then S2 else (ringS (D + 2)).2) wr.drew) := Lib.hid ⟨HTS.out.wb.kept (Below.refl _ _).drew, HTS.out.below (Below.refl _ _).drew⟩
      have S : ∀ (d : Bool) w', (KeptP B L wr w' ∧ TS E B L a b t dm w1 (if d = true then S2 else (ringS (D + 2)).2) w') → w'.cell? ⟨g, A, none⟩ = some (.string (ringS (A + 1)).1) ∧ w'.cell? ⟨g, C, none⟩ = some (.string (ringS (C + 1)).1) :=
        fun d w' h => ⟨(h.1.cell HC.out.1 A).trans HC.out.2.1, (h.1.cell HC.out.1 C).trans HC.out.2.2⟩
      have HT : Hid (∀ w', (KeptP B L wr w' ∧ TS E B L a b t dm w1 (if false = true then S2 else (ringS (D + 2)).2) w') → Calls Tryz.prog 15 #[.pointer (some ⟨a, 0, none⟩), .string (ringS (A + 1)).1, .string ((ringS (C + 1)).1 ++ ⟨#[47, 120]⟩)] w' fun e w'' =>
          e = .returned (.tuple #[.int .i64 id, v]) ∧ (KeptP B L wr w'' ∧ TS E B L a b t dm w1 (if true = true then S2 else (ringS (D + 2)).2) w'')) := Lib.hid (by
        intro w' h
        rw [HCX.out]
        refine (ts_rename h.2 _ _ HREN.out.1 HREN.out.2.1 HREN.out.2.2 HV.out).mono ?_
        rintro e w'' ⟨h1, h2, h3⟩
        exact ⟨h1, h.1.trans h3, h2⟩)
      apply wp_region_once 12 _ (by kernel_rfl) (by kernel_rfl) (by decide) (fun d w' => KeptP B L wr w' ∧ TS E B L a b t dm w1 (if d = true then S2 else (ringS (D + 2)).2) w') HC0.out
      repeat (first
        | (apply once_skip (by rfl) (by decide)
           simp only [Act.put, List.setIfInBounds_toArray, List.set_cons_zero, List.set_cons_succ])
        | (apply once_fix (by rfl) (by rfl)
           · intro d w' hc R hR
             have hS := S d w' hc
             go_simp
             exact hR
           simp only [Act.put, List.setIfInBounds_toArray, List.set_cons_zero, List.set_cons_succ])
        | (apply once_call (by rfl) (by rfl)
           · intro w' hc
             have hS := S false w' hc
             go_simp
             refine (HT.out w' hc).mono ?_
             rintro e w'' ⟨rfl, hc''⟩
             exact ⟨_, rfl, rfl, hc''⟩
           simp only [Act.put, List.setIfInBounds_toArray, List.set_cons_zero, List.set_cons_succ]))
      refine once_nil (fun w5 hc => ?_)
      have H5 : Hid (TS E B L a b t dm w1 S2 w5) := Lib.hid hc.2
      have K5 := Lib.hid hc.1
      clear hc S HT HC0 hwA hwC
      have hr1 : ((C : Int) + 1 + 1 ≥ -9223372036854775808 ∧ (C : Int) + 1 + 1 ≤ 9223372036854775807) := ⟨by omega, by omega⟩
      have hr2 : ((A : Int) + 1 + 1 ≥ -9223372036854775808 ∧ (A : Int) + 1 + 1 ≤ 9223372036854775807) := ⟨by omega, by omega⟩
      have R1 := Lib.hid hr1
      have R2 := Lib.hid hr2
      clear hr1 hr2
      by_cases hac : A ≤ C
      · have hl := HLAW.out
        rw [if_pos hac] at hl
        obtain ⟨rfl, hl2⟩ := hl
        have HL2 := Lib.hid hl2
        clear hl2 HLAW
        obtain ⟨ad, had⟩ := errOf_some (E := E) (c := 114) (by omega)
        have HAD := Lib.hid had
        have hve := HV.out.symm.trans had
        subst hve
        clear had HV
        have hge : (C : Int) + 1 ≥ (A : Int) + 1 := by omega
        go_wp2_with fail
        refine (ts_is H5.out HAD.out (by omega) (by decide : ((114 : Int) == 114) = true)).mono ?_
        rintro e w6 ⟨rfl, hb6, h6⟩
        have H6 := Lib.hid h6
        clear h6 hb6
        go_wp2_with fail
        refine (ts_within H6.out HL2.out R1.out R2.out).mono ?_
        rintro e w7 ⟨rfl, h7, k7⟩
        have H7 := Lib.hid h7
        clear h7 k7
        go_wp2
        rw [← HP.out]
        exact ⟨by first | done | rfl, HB1.out.trans H7.out.bel⟩
      · have hl := HLAW.out
        rw [if_neg hac] at hl
        obtain ⟨rfl, l1, l2, l3, l4, l5, l6⟩ := hl
        have HL4 := Lib.hid l4
        have HL5 := Lib.hid l5
        have HL6 := Lib.hid l6
        have hve : v = .nilIface := HV.out.symm
        subst hve
        have hge : ¬ (C : Int) + 1 ≥ (A : Int) + 1 := by omega
        have cC5 : w5.cell? ⟨g, C, none⟩ = some (.string (ringS (C + 1)).1) := (K5.out.cell HC.out.1 C).trans HC.out.2.2
        obtain ⟨nd, hnd⟩ : ∃ nd, (lookT S2 (ringX (C + 1)) false).2 = nd := ⟨_, rfl⟩
        rw [hnd] at l2 l3
        have HL1 := Lib.hid (And.intro l1 hnd)
        obtain ⟨m1, m2, m3, m4, m5, m6⟩ := nd
        simp only at l2 l3
        subst l2 l3
        clear l1 hnd l4 l5 l6 HLAW
        go_wp2_with fail
        rw [HCX.out]
        refine (ts_look H5.out (ringX (C + 1)) false HL1.out.1 HL1.out.2 rfl).mono ?_
        rintro e w6 ⟨rfl, h6, k6⟩
        simp only [encN]
        rw [show errOf E 0 = .nilIface from rfl]
        have H6 := Lib.hid h6
        clear h6 k6 cC5
        go_wp2_with fail
        refine (ts_within (H6.out.below (bl_alloc (Below.refl _ _) _)) HL4.out R2.out R1.out).mono ?_
        rintro e w7 ⟨rfl, h7, k7⟩
        have H7 := Lib.hid h7
        clear h7 k7
        go_wp2_with fail
        refine (ts_within H7.out HL5.out R1.out R2.out).mono ?_
        rintro e w8 ⟨rfl, h8, k8⟩
        have H8 := Lib.hid h8
        clear h8 k8
        go_wp2_with fail
        refine (ts_entries H8.out HL6.out).mono ?_
        rintro e w9 ⟨rfl, h9, k9⟩
        have H9 := Lib.hid h9
        clear h9 k9
        go_wp2
        rw [← HP.out]
        exact ⟨by first | done | rfl | simp, HB1.out.trans H9.out.bel⟩
end Go.Proofs.YtjmbilbkmcebeaaGreatDoor
end

section
/- The walk of the law TreeMany. -/
namespace Go.Proofs.YtjmbilbkmcebeaaGreatDoor
open Go Go.RowKit
set_option maxRecDepth 100000
set_option linter.unusedSimpArgs false
set_option linter.unusedVariables false
attribute [local go_sem] giv
variable {E : Nat → Addr} {B : Nat}
theorem many_full : ∀ k, Full (manyS k)
  | 0 => makeT_full newSt_full fNm 1 noText
  | k + 1 => hardT_full (many_full k) fNm (gNm (k + 1))
theorem manyU_full (n : Nat) : ∀ k, Full (manyU n k)
  | 0 => many_full n
  | k + 1 => unlinkT_full (manyU_full n k) (gNm (k + 1))
theorem many_at {n : Nat} (h : n < 20) : manyOk n = true := List.all_eq_true.1 many_all n (by simpa using h)
theorem many_code {n k : Nat} (h : n < 20) (hk : k < n) : manyCode k = if k + 1 < 16 then 0 else 117 := by
  have := many_at h
  unfold manyOk at this
  simp only [Bool.and_eq_true, List.all_eq_true, List.mem_range, beq_iff_eq] at this
  exact this.1.1.1 k hk
theorem many_rest {n : Nat} (h : n < 20) : (freeT (manyS n) 2).1 = false ∧ (∀ k, k < min n 15 → (unlinkT (manyU n k) (gNm (k + 1))).1 = 0 ∧ (unlinkT (manyU n k) (gNm (k + 1))).2.1 = 2) ∧
    (unlinkT (manyU n (min n 15)) fNm).1 = 0 ∧ (unlinkT (manyU n (min n 15)) fNm).2.1 = 2 ∧ ((unlinkT (manyU n (min n 15)) fNm).2.2.get 2).isSome = true ∧ (unlinkT (manyU n (min n 15)) fNm).2.2.count = 0 ∧
    (freeT (unlinkT (manyU n (min n 15)) fNm).2.2 2).1 = true ∧ (freeT (freeT (unlinkT (manyU n (min n 15)) fNm).2.2 2).2 2).1 = false ∧ (freeT (unlinkT (manyU n (min n 15)) fNm).2.2 2).2.ns.length = 1 := by
  have := many_at h
  unfold manyOk at this
  simp only [Bool.and_eq_true, List.all_eq_true, List.mem_range, beq_iff_eq, Bool.not_eq_true'] at this
  obtain ⟨⟨⟨_, h2⟩, h3⟩, ⟨⟨⟨⟨⟨h4, h5⟩, h6⟩, h7⟩, h8⟩, h9⟩, h10⟩ := this
  exact ⟨h2, h3, h4, h5, h6, h7, h8, h9, h10⟩
theorem free_false {s : St} {k : Int} (h : (freeT s k).1 = false) : (freeT s k).2 = s := by
  unfold freeT at h ⊢
  cases hg : s.get k with
  | none => rfl
  | some n =>
    rw [hg] at h
    simp only at h ⊢
    split at h
    · rename_i hl
      rw [if_pos hl]
    · cases h
theorem num_many {j : Nat} (hj : j < 20) : (⟨#[47, 103]⟩ : ByteArray) ++ ⟨(Lib.decDigits j).toArray⟩ = gNm j := by
  have h : ∀ j, j < 20 → ((⟨#[47, 103]⟩ : ByteArray) ++ ⟨(Lib.decDigits j).toArray⟩).data.toList = (gNm j).data.toList := by decide +kernel
  have := h j hj
  exact ByteArray.ext (Array.toList_inj.1 this)
theorem many_first : (makeT newSt fNm 1 noText).1 = 0 ∧ (makeT newSt fNm 1 noText).2.1 = 2 ∧ (parseP fNm).1 = 0 := by decide +kernel
theorem tnum_any {x : Int} {j : Nat} (hx : x = j) (hj : j < 100) (w : World) : Calls Tryz.prog 39 #[.int .i64 x] w fun e w' => e = .returned (.string ⟨(Lib.decDigits j).toArray⟩) ∧ w = w' := by
  subst hx
  go_enter Tryz.func39, Tryz.ntmps39
  go_wp2_with fail
  refine (Tryz.strconv_Itoa_small j hj w).mono ?_
  rintro e w2 ⟨rfl, rfl⟩
  go_wp2
  go_ret
  exact ⟨rfl, rfl⟩

set_option maxHeartbeats 4000000 in
theorem treemany_any (n : Int) (w : World) (hE : EnvM E B w) :
    Calls Tryz.prog 10 #[.int .i64 n] w fun e w' => e = .returned (.bool true) ∧ Below B w w' := by
  have HE := Lib.hid hE
  generalize hP : (fun (e : Ending) (w' : World) => e = .returned (.bool true) ∧ Below B w w') = Post
  have HP := Lib.hid hP
  clear hP hE
  go_enter Tryz.func10, Tryz.ntmps10
  go_wp2_with fail
  refine (first_any HE.out).mono ?_
  rintro e w1 ⟨rfl, hb1⟩
  have HE1 := Lib.hid (HE.out.keep hb1)
  have HB1 := Lib.hid hb1
  clear hb1 HE
  go_wp2_with fail
  refine (number_any n 20 (by omega) _).mono ?_
  rintro e w2 ⟨rfl, rfl⟩
  obtain ⟨N, hN⟩ : ∃ N : Nat, n % 20 = N := ⟨(n % 20).toNat, by omega⟩
  have hN20 : N < 20 := by omega
  rw [hN]
  clear hN
  go_wp2_with fail
  refine (tnew_any (L := fun _ => False) w1 HE1.out.size (fun _ h => h.elim) HE1.out.toEnv).mono ?_
  rintro e w2 ⟨a, b, t, dm, rfl, ha, hta, hwb, hk⟩
  obtain ⟨L, hL⟩ : ∃ L : Nat → Prop, L = fun x => x = a ∨ False := ⟨_, rfl⟩
  rw [← hL] at hwb
  have HLA : Hid (L a) := Lib.hid (by rw [hL]; exact .inl rfl)
  have HTA := Lib.hid hta
  have HW := Lib.hid hwb
  have HB2 := Lib.hid (HB1.out.trans hk.below)
  have HE2 := Lib.hid (HE1.out.keep hk.below)
  clear hta hwb hk ha hL HB1 HE1
  go_wp2_with fail
  have hm0 : makeT newSt fNm 1 noText = (0, 2, manyS 0) := Prod.ext many_first.1 (Prod.ext many_first.2.1 rfl)
  refine (tmake_ok HTA.out HLA.out HW.out newSt_full fNm noText HE2.out many_first.2.2 ⟨by decide, by decide⟩).mono ?_
  rw [hm0]
  rintro e w3 ⟨rfl, h3, k3⟩
  have HTA3 := Lib.hid (HTA.out.kept HLA.out k3)
  have HW3 := Lib.hid h3
  have HB3 := Lib.hid (HB2.out.trans k3.below)
  have HE3 := Lib.hid (HE2.out.keep k3.below)
  clear h3 k3 hm0 HTA HW HB2 HE2
  simp only []
  rw [show errOf E 0 = .nilIface from rfl]
  go_wp2_with fail
  go_loopw [7, 8] (fun v _ wr => ∃ i : Nat, i ≤ N ∧ v = .int .i64 ((i + 1 : Nat) : Int) ∧ Hid (TA wr a b) ∧ Hid (WB B L wr b t dm (manyS i)) ∧ Hid (EnvM E B wr) ∧ Hid (Below B w wr)) (fun v _ _ => N + 1 - (intOf v).toNat)
  case atStart => exact ⟨0, Nat.zero_le _, rfl, HTA3, HW3, HE3, HB3⟩
  case round =>
    obtain ⟨i, hi, rfl, HTAr, HWr, HEr, HBr⟩ := hrel
    clear HTA3 HW3 HE3 HB3
    by_cases hiN : i < N
    · go_wp2_with fail
      refine (tnum_any (j := i + 1) (by omega) (by omega) wr).mono ?_
      rintro e w4 ⟨rfl, rfl⟩
      have hnm := num_many (show i + 1 < 20 by omega)
      have hfit : ¬ 9223372036854775807 < 2 + (Lib.decDigits (i + 1)).length := by
        have h : ∀ j, j < 21 → (Lib.decDigits j).length ≤ 2 := by decide +kernel
        have := h (i + 1) (by omega)
        omega
      go_wp2_with fail
      have hcode : (hardT (manyS i) fNm (gNm (i + 1))).1 = if i + 1 < 16 then 0 else 117 := many_code hN20 hiN
      have hst : (hardT (manyS i) fNm (gNm (i + 1))).2 = manyS (i + 1) := rfl
      refine (thard_any HTAr.out HLA.out HWr.out (many_full i) fNm (gNm (i + 1)) HEr.out).mono ?_
      unfold HardR
      rw [hcode, hst]
      rintro e w5 ⟨rfl, h5, k5⟩
      have HTA5 := Lib.hid (HTAr.out.kept HLA.out k5)
      have HW5 := Lib.hid h5
      have HE5 := Lib.hid (HEr.out.keep k5.below)
      have HB5 := Lib.hid (HBr.out.trans k5.below)
      clear h5 k5 hcode hst hnm hfit HTAr HWr HEr HBr
      by_cases h16 : i + 1 < 16
      · rw [if_pos h16, show errOf E 0 = .nilIface from rfl]
        have h16' : (i : Int) + 1 < 16 := by omega
        go_wp2
        go_roundw
        case rel => exact ⟨i + 1, by omega, by go_num, HTA5, HW5, HE5, HB5⟩
        case measure => simp [intOf]; omega
      · rw [if_neg h16]
        have h16' : ¬ (i : Int) + 1 < 16 := by omega
        obtain ⟨ad, had⟩ := errOf_some (E := E) (c := 117) (by omega)
        have hIs := is_of (E := E) (B := B) 117 117 (.inr (by omega)) w5 HE5.out.toEnv
        rw [had] at hIs ⊢
        have HIS := Lib.hid hIs
        clear hIs had
        go_wp2_with fail
        refine HIS.out.mono ?_
        rintro e w6 ⟨rfl, hb6⟩
        have HTA6 := Lib.hid (HTA5.out.below hb6)
        have HW6 := Lib.hid (HW5.out.below hb6)
        have HE6 := Lib.hid (HE5.out.below hb6)
        have HB6 := Lib.hid (HB5.out.trans (hb6.mono HE5.out.size))
        clear hb6
        go_wp2
        go_roundw
        case rel => exact ⟨i + 1, by omega, by go_num, HTA6, HW6, HE6, HB6⟩
        case measure => simp [intOf]; omega
    · have hiN2 : i = N := by omega
      subst hiN2
      clear hiN hi
      obtain ⟨r1, r2, r3, r4, r5, r6, r7, r8, r9⟩ := many_rest hN20
      have R2 := Lib.hid r2
      have R3 := Lib.hid (And.intro r3 (And.intro r4 (And.intro r5 (And.intro r6 (And.intro r7 (And.intro r8 r9))))))
      have hst := free_false r1
      have HR1 := Lib.hid (And.intro r1 hst)
      clear r1 r2 r3 r4 r5 r6 r7 r8 r9 hst
      go_wp2_with fail
      refine (tfree_any HTAr.out HWr.out (many_full i) (k := 2) (by omega)).mono ?_
      rw [HR1.out.1, HR1.out.2]
      rintro e w5 ⟨rfl, h5, k5⟩
      have HTA5 := Lib.hid (HTAr.out.kept HLA.out k5)
      have HW5 := Lib.hid h5
      have HE5 := Lib.hid (HEr.out.keep k5.below)
      have HB5 := Lib.hid (HBr.out.trans k5.below)
      clear h5 k5 HTAr HWr HEr HBr
      go_wp2_with fail
      go_loopw [9, 10, 11] (fun v _ _ wr => ∃ k : Nat, k ≤ min i 15 ∧ v = .int .i64 ((k + 1 : Nat) : Int) ∧ Hid (TA wr a b) ∧ Hid (WB B L wr b t dm (manyU i k)) ∧ Hid (EnvM E B wr) ∧ Hid (Below B w wr)) (fun v _ _ _ => i + 1 - (intOf v).toNat)
      case atStart => exact ⟨0, Nat.zero_le _, rfl, HTA5, HW5, HE5, HB5⟩
      case round =>
        obtain ⟨k, hk, rfl, HTAx, HWx, HEx, HBx⟩ := hrel
        clear HTA5 HW5 HE5 HB5
        by_cases hkN : k < min i 15
        · have hc : (k : Int) + 1 ≤ min (i : Int) 15 := by omega
          go_wp2_with fail
          have hk15 : k < 15 := Nat.lt_of_lt_of_le hkN (Nat.min_le_right _ _)
          refine (tnum_any (j := k + 1) (by omega) (by omega) _).mono ?_
          rintro e w6 ⟨rfl, rfl⟩
          have hnm := num_many (show k + 1 < 20 by omega)
          have hfit : ¬ 9223372036854775807 < 2 + (Lib.decDigits (k + 1)).length := by
            have h : ∀ j, j < 21 → (Lib.decDigits j).length ≤ 2 := by decide +kernel
            have := h (k + 1) (by omega)
            omega
          go_wp2_with fail
          obtain ⟨hc1, hc2⟩ := R2.out k hkN
          have hst : (unlinkT (manyU i k) (gNm (k + 1))).2.2 = manyU i (k + 1) := rfl
          refine (tunlink_any HTAx.out HLA.out HWx.out (manyU_full i k) (gNm (k + 1)) HEx.out).mono ?_
          unfold UnlR
          rw [hc1, hc2, hst, show errOf E 0 = .nilIface from rfl]
          rintro e w7 ⟨rfl, h7, k7⟩
          have HTA7 := Lib.hid (HTAx.out.kept HLA.out k7)
          have HW7 := Lib.hid h7
          have HE7 := Lib.hid (HEx.out.keep k7.below)
          have HB7 := Lib.hid (HBx.out.trans k7.below)
          clear h7 k7 hc1 hc2 hst hnm hfit HTAx HWx HEx HBx
          go_wp2
          go_roundw
          case rel => exact ⟨k + 1, by omega, by go_num, HTA7, HW7, HE7, HB7⟩
          case measure => simp [intOf]; omega
        · have hkk : k = min i 15 := by omega
          have hc : ¬ (k : Int) + 1 ≤ min (i : Int) 15 := by omega
          go_wp2_with fail
          subst hkk
          refine (tunlink_any HTAx.out HLA.out HWx.out (manyU_full i _) fNm HEx.out).mono ?_
          obtain ⟨Rf, hRf⟩ : ∃ Rf, unlinkT (manyU i (min i 15)) fNm = Rf := ⟨_, rfl⟩
          have hff := unlinkT_full (manyU_full i (min i 15)) fNm
          have h3 := R3.out
          rw [hRf] at h3 hff ⊢
          obtain ⟨c, d, S1⟩ := Rf
          simp only at h3 hff
          obtain ⟨rfl, rfl, q1, q2, q3, q4, q5⟩ := h3
          unfold UnlR
          rintro e w7 ⟨rfl, h7, k7⟩
          have HTA7 := Lib.hid (HTAx.out.kept HLA.out k7)
          have HW7 := Lib.hid h7
          have HB7 := Lib.hid (HBx.out.trans k7.below)
          have Q1 := Lib.hid q1
          have Q2 := Lib.hid q2
          have Q3 := Lib.hid q3
          have Q4 := Lib.hid q4
          have Q5 := Lib.hid q5
          have HFF := Lib.hid hff
          clear h7 k7 q1 q2 q3 q4 q5 hff hRf HTAx HWx HEx HBx
          simp only []
          rw [show errOf E 0 = .nilIface from rfl]
          obtain ⟨a0, al⟩ := HTA7.out
          have b0 := HW7.out.c0
          have bl0 := HW7.out.lt.1
          go_wp2_with fail
          refine (wl_get HW7.out (k := 2) (by omega)).mono ?_
          have his : (S1.nd 2).isSome = true := by unfold St.nd; simpa using Q1.out
          obtain ⟨nn, hnn⟩ : ∃ nn, (S1.nd 2).getD noNd = nn := ⟨_, rfl⟩
          rw [his, hnn]
          obtain ⟨n1, n2, n3, n4, n5, n6⟩ := nn
          rintro e w8 ⟨rfl, hb8⟩
          simp only [encN]
          have HTA8 := Lib.hid (HTA7.out.below hb8)
          have HW8 := Lib.hid (HW7.out.below hb8)
          have HB8 := Lib.hid (HB7.out.trans (hb8.mono HW7.out.1))
          clear hb8 his hnn a0 al b0 bl0
          go_wp2_with fail
          obtain ⟨w9, hw9⟩ : ∃ w9, w9 = w8.alloc (.cells #[.int .i64 n1, .int .i64 n2, .int .i64 n3, .int .i64 n4, .string n5, .int .i64 n6] 35) := ⟨_, rfl⟩
          have b89 : Below w8.heap.size w8 w9 := by rw [hw9]; exact bl_alloc (Below.refl _ _) _
          rw [← hw9]
          have HTA9 := Lib.hid (HTA8.out.below b89)
          have HW9 := Lib.hid (HW8.out.below b89)
          have HB9 := Lib.hid (HB8.out.trans (b89.mono HW8.out.1))
          clear hw9 b89
          refine (tentries_any HTA9.out HLA.out HW9.out HFF.out).mono ?_
          rw [Q2.out]
          rintro e w10 ⟨rfl, h10, k10⟩
          have HTA10 := Lib.hid (HTA9.out.kept HLA.out k10)
          have HW10 := Lib.hid h10
          have HB10 := Lib.hid (HB9.out.trans k10.below)
          clear h10 k10
          go_wp2_with fail
          refine (tfree_any HTA10.out HW10.out HFF.out (k := 2) (by omega)).mono ?_
          rw [Q3.out]
          have hf2 := freeT_full HFF.out 2
          obtain ⟨S2, hS2⟩ : ∃ S2, (freeT S1 2).2 = S2 := ⟨_, rfl⟩
          have q4 := Q4.out
          have q5 := Q5.out
          rw [hS2] at hf2 q4 q5 ⊢
          rintro e w11 ⟨rfl, h11, k11⟩
          have HTA11 := Lib.hid (HTA10.out.kept HLA.out k11)
          have HW11 := Lib.hid h11
          have HB11 := Lib.hid (HB10.out.trans k11.below)
          have Q4 := Lib.hid q4
          have Q5 := Lib.hid q5
          have HF2 := Lib.hid hf2
          clear h11 k11 q4 q5 hf2 hS2
          go_wp2_with fail
          refine (tfree_any HTA11.out HW11.out HF2.out (k := 2) (by omega)).mono ?_
          rw [Q4.out, free_false Q4.out]
          rintro e w12 ⟨rfl, h12, k12⟩
          have HTA12 := Lib.hid (HTA11.out.kept HLA.out k12)
          have HW12 := Lib.hid h12
          have HB12 := Lib.hid (HB11.out.trans k12.below)
          clear h12 k12
          obtain ⟨a0, al⟩ := HTA12.out
          have b0 := HW12.out.c0
          have bl0 := HW12.out.lt.1
          go_wp2_with fail
          refine (wl_len HW12.out).mono ?_
          rintro e w13 ⟨rfl, rfl⟩
          rw [Q5.out]
          go_wp2
          rw [← HP.out]
          exact ⟨by first | done | rfl, HB12.out⟩
end Go.Proofs.YtjmbilbkmcebeaaGreatDoor
end

section
/- The walk of the law TreeDeep. -/
namespace Go.Proofs.YtjmbilbkmcebeaaGreatDoor
open Go Go.RowKit
set_option maxRecDepth 100000
set_option linter.unusedSimpArgs false
set_option linter.unusedVariables false
attribute [local go_sem] giv
variable {E : Nat → Addr} {B : Nat}
theorem deepS_full : ∀ k, Full (deepS k)
  | 0 => newSt_full
  | k + 1 => makeT_full (deepS_full k) _ 2 noText
theorem deepD_full {s : St} (f : Full s) (deep : Nat) : ∀ k, Full (deepD deep s k)
  | 0 => f
  | k + 1 => rmdirT_full (deepD_full f deep k) _
def deepL (k : Nat) : List ByteArray := (List.range k).map fun i => deepP (i + 1)
theorem deepL_len (k : Nat) : (deepL k).length = k := by simp [deepL]
theorem deepL_succ (k : Nat) : deepL (k + 1) = deepL k ++ [deepP (k + 1)] := by simp [deepL, List.range_succ]
theorem deepL_get {k i : Nat} (h : i < k) : (deepL k)[i]? = some (deepP (i + 1)) := by
  unfold deepL
  rw [List.getElem?_map, List.getElem?_range h]
  rfl
theorem deep_size : ∀ k, k < 10 → (deepP k).size ≤ 30 := by decide +kernel
theorem deepUp_size : ∀ d, d < 10 → ∀ k, k < 10 → (deepUp d k).size ≤ 60 := by decide +kernel
theorem deep_make : ∀ k, k < 9 → (makeT (deepS k) (deepP (k + 1)) 2 noText).1 = 0 ∧ (makeT (deepS k) (deepP (k + 1)) 2 noText).2.1 = (k : Int) + 2 ∧ (parseP (deepP (k + 1))).1 = 0 := by decide +kernel
theorem deep_num {k : Nat} (hk : k < 10) : (deepP k ++ (⟨#[47, 100]⟩ : ByteArray)) ++ ⟨(Lib.decDigits k).toArray⟩ = deepP (k + 1) := by
  have h : ∀ j, j < 10 → ((deepP j ++ (⟨#[47, 100]⟩ : ByteArray)) ++ ⟨(Lib.decDigits j).toArray⟩).data.toList = (deepP (j + 1)).data.toList := by decide +kernel
  exact ByteArray.ext (Array.toList_inj.1 (h k hk))
def deepX (d u : Nat) : ByteArray := nmA ((deepUp d u).data.toList ++ [47, 46])
theorem deep_law {D U : Nat} (hD : D < 8) (hU : U < D + 1) : (lookT (deepS (D + 1)) (deepUp (D + 1) U) true).1 = 0 ∧ (lookT (deepS (D + 1)) (deepUp (D + 1) U) true).2.id = ((D + 1 : Nat) : Int) + 1 - U ∧
    (lookT (deepS (D + 1)) (deepUp (D + 1) U) true).2.parent = max 1 (((D + 1 : Nat) : Int) - U) ∧ (if U > 0 then (rmdirT (deepS (D + 1)) (deepX (D + 1) U)).1 ≠ 0 else (rmdirT (deepS (D + 1)) (deepX (D + 1) U)).1 = 0) := by
  have h := List.all_eq_true.1 (List.all_eq_true.1 deep_all D (by simpa using hD)) U (by simpa using hU)
  unfold deepOk at h
  simp only [Bool.and_eq_true, beq_iff_eq] at h
  obtain ⟨⟨⟨h1, h2⟩, h3⟩, h4⟩ := h
  refine ⟨h1, h2, h3, ?_⟩
  split
  · rename_i h5; rw [if_pos h5] at h4; simpa [deepX] using h4
  · rename_i h5; rw [if_neg h5] at h4; simpa [deepX] using h4
def deepF (D U : Nat) : Nat := if U = 0 then D else D + 1
def deepT (D U k : Nat) : St := deepD (deepF D U) (rmdirT (deepS (D + 1)) (deepX (D + 1) U)).2.2 k
theorem deepT_full (D U k : Nat) : Full (deepT D U k) := deepD_full (rmdirT_full (deepS_full _) _) _ _
theorem deep_rest {D U : Nat} (hD : D < 8) (hU : U < D + 1) : (∀ j, j < deepF D U → (1 < deepF D U - j → (rmdirT (deepT D U j) (deepP (deepF D U - j - 1))).1 = 113) ∧ (rmdirT (deepT D U j) (deepP (deepF D U - j))).1 = 0 ∧ (rmdirT (deepT D U j) (deepP (deepF D U - j))).2.1 = ((deepF D U - j : Nat) : Int) + 1) ∧
    (deepT D U (deepF D U)).count = 0 ∧ (deepT D U (deepF D U)).ns.length = 1 := by
  have h := List.all_eq_true.1 (List.all_eq_true.1 deep_down D (by simpa using hD)) U (by simpa using hU)
  have hf : (if U = 0 then D + 1 - 1 else D + 1) = deepF D U := by unfold deepF; split <;> omega
  unfold deepDown at h
  simp only [hf] at h
  simp only [Bool.and_eq_true, List.all_eq_true, List.mem_range, beq_iff_eq] at h
  obtain ⟨⟨h1, h2⟩, h3⟩ := h
  refine ⟨fun j hj => ?_, h2, h3⟩
  obtain ⟨h4, h5, h6⟩ := h1 j hj
  refine ⟨fun hk => ?_, h5, h6⟩
  rw [if_pos hk] at h4
  exact beq_iff_eq.1 h4
theorem rmdirT_err {s : St} {a : ByteArray} (h : (rmdirT s a).1 ≠ 0) : (rmdirT s a).2.2 = s := by
  revert h
  unfold rmdirT
  simp only
  repeat (first | (intro h; rfl) | (intro h; exact absurd rfl h) | split)
theorem fieldA {w : World} : (Instr.field 69 (.agg #[.int .i64 0, .int .i64 0, .string ⟨#[]⟩, .string ⟨#[]⟩]) 2).run Tryz.prog w = .ok (.string ⟨#[]⟩) w := by kernel_rfl
theorem deep_code : ∀ D, D < 8 → ∀ U, U < D + 1 → 0 < U → 101 ≤ (rmdirT (deepS (D + 1)) (deepX (D + 1) U)).1 ∧ (rmdirT (deepS (D + 1)) (deepX (D + 1) U)).1 ≤ 124 := by decide +kernel

set_option maxHeartbeats 8000000 in
theorem treedeep_any (n1 n2 : Int) (w : World) (hE : EnvM E B w) :
    Calls Tryz.prog 9 #[.int .i64 n1, .int .i64 n2] w fun e w' => e = .returned (.bool true) ∧ Below B w w' := by
  have HE := Lib.hid hE
  generalize hP : (fun (e : Ending) (w' : World) => e = .returned (.bool true) ∧ Below B w w') = Post
  have HP := Lib.hid hP
  clear hP hE
  go_enter Tryz.func9, Tryz.ntmps9
  go_wp2_with fail
  refine (first_any HE.out).mono ?_
  rintro e w1 ⟨rfl, hb1⟩
  have HE1 := Lib.hid (HE.out.keep hb1)
  have HB1 := Lib.hid hb1
  clear hb1 HE
  go_wp2_with fail
  refine (number_any n1 8 (by omega) _).mono ?_
  rintro e w2 ⟨rfl, rfl⟩
  obtain ⟨D, hD⟩ : ∃ D : Nat, n1 % 8 = D := ⟨(n1 % 8).toNat, by omega⟩
  have hD8 : D < 8 := by omega
  rw [hD]
  clear hD
  go_wp2_with fail
  refine (number_any n2 ((D : Int) + 1) (by omega) _).mono ?_
  rintro e w2 ⟨rfl, rfl⟩
  obtain ⟨U, hU⟩ : ∃ U : Nat, n2 % ((D : Int) + 1) = U := ⟨(n2 % ((D : Int) + 1)).toNat, by have := Int.emod_nonneg n2 (show (D : Int) + 1 ≠ 0 by omega); omega⟩
  have hU8 : U < D + 1 := by have := Int.emod_lt_of_pos n2 (show 0 < (D : Int) + 1 by omega); omega
  rw [hU]
  clear hU
  go_wp2_with fail
  refine (ts_new HE1.out).mono ?_
  rintro e w2 ⟨a, b, t, dm, rfl, ha, h2⟩
  have H2 := Lib.hid h2
  have HSZ := Lib.hid (Nat.le_trans HE1.out.size ha)
  clear h2 ha
  go_wp2_with fail
  go_loopw [7, 8, 9] (fun s p i wr => ∃ k : Nat, k ≤ D + 1 ∧ s = .string (deepP k) ∧ i = .int .i64 (k : Int) ∧ Hid (∃ L, TS E B L a b t dm w1 (deepS k) wr ∧ SlE wr (a + 1) 9 1 encS p (deepL k) ∧ (∀ x, p.ownBlock = some x → L x))) (fun _ _ i _ => D + 3 - (intOf i).toNat)
  case atStart => exact ⟨0, Nat.zero_le _, rfl, rfl, Lib.hid ⟨_, H2.out, SlE.nil _ _ _ _ _, fun x hx => by simp [Value.ownBlock] at hx⟩⟩
  case round =>
    obtain ⟨k, hk, rfl, rfl, HR⟩ := hrel
    clear H2
    obtain ⟨L, hts, hsl, hloc⟩ := HR.out
    have HTS := Lib.hid hts
    have HSL := Lib.hid hsl
    have HLOC := Lib.hid hloc
    clear hts hsl hloc HR
    by_cases hkD : k < D + 1
    · have hsz := deep_size k (by omega)
      have hdl : (Lib.decDigits k).length ≤ 2 := by
        have h : ∀ j, j < 21 → (Lib.decDigits j).length ≤ 2 := by decide +kernel
        exact h k (by omega)
      have hfit : ¬ 9223372036854775807 < (deepP k).size + 2 := by omega
      have hfit2 : ¬ 9223372036854775807 < (deepP k).size + 2 + (Lib.decDigits k).length := by omega
      have HCAT := Lib.hid (deep_num (show k < 10 by omega))
      go_wp2_with fail
      refine (tnum_any (j := k) rfl (by omega) wr).mono ?_
      rintro e w4 ⟨rfl, rfl⟩
      have HOWN := Lib.hid (SlE.below HSL.out (bl_alloc (Below.refl _ wr) (.cells #[.string ((deepP k ++ (⟨#[47, 100]⟩ : ByteArray)) ++ ⟨(Lib.decDigits k).toArray⟩)] 9)))
      have HROW : Hid (RdE (wr.alloc (.cells #[.string ((deepP k ++ (⟨#[47, 100]⟩ : ByteArray)) ++ ⟨(Lib.decDigits k).toArray⟩)] 9)) 1 encS (.slice (some ⟨wr.heap.size, 0, none⟩) 1 1) [(deepP k ++ (⟨#[47, 100]⟩ : ByteArray)) ++ ⟨(Lib.decDigits k).toArray⟩]) := Lib.hid (RdE.one (Row.new wr 9 (encS _)))
      have HBS : Hid (a + 1 ≤ (wr.alloc (.cells #[.string ((deepP k ++ (⟨#[47, 100]⟩ : ByteArray)) ++ ⟨(Lib.decDigits k).toArray⟩)] 9)).heap.size) := Lib.hid (by have := HTS.out.ta.2; simp; omega)
      have HLN := Lib.hid (deepL_len k)
      go_wp2_with (at_builtin; refine wpList_app strT rfl _ _ rfl rfl HOWN.out rfl HROW.out (by rw [HLN.out]; exact small_max (by simp; omega)) (by rw [HLN.out]; simp; omega) HBS.out ?_; intro v' w' hs' ht'; have HS' := Lib.hid hs'; have HT' := Lib.hid ht'; clear hs' ht')
      have hb := HTS.out.below (bl_alloc (Below.refl _ wr) (.cells #[.string ((deepP k ++ (⟨#[47, 100]⟩ : ByteArray)) ++ ⟨(Lib.decDigits k).toArray⟩)] 9))
      have ht1 := hb.touch HT'.out (fun x hx => ⟨HLOC.out x hx, by have := (SlE.lt HSL.out x hx).1; omega, by have := (SlE.lt HSL.out x hx).1; have := HSZ.out; omega⟩)
      have hs1 := HS'.out
      rw [HCAT.out, ← deepL_succ] at hs1
      rw [HCAT.out]
      obtain ⟨g, cap, rfl, hga, hgl⟩ := SlE.neS hs1 (by rw [deepL_succ]; simp)
      have hpl := SlE.plainS hs1 (by rw [deepL_succ]; simp) (g := g) rfl
      have ht2 := ht1.more hpl
      have HT2 := Lib.hid ht2
      have HS2 := Lib.hid hs1
      clear hb ht1 hs1 hpl ht2 HS' HT' HBS HROW HOWN HTS HSL hfit hfit2
      obtain ⟨hm1, hm3, hm2⟩ := deep_make k (by omega)
      refine (ts_make HT2.out (deepP (k + 1)) noText 2 hm1 hm3 (rfl : _ = deepS (k + 1)) rfl hm2 ⟨by decide, by decide⟩).mono ?_
      rintro e w4 ⟨rfl, h4, k4⟩
      rw [show errOf E 0 = .nilIface from rfl]
      have H4 := Lib.hid (And.intro h4 (HS2.out.keep (fun x hx => k4.loc x (.inl (by simpa [Value.ownBlock] using hx.symm)))))
      clear h4 k4 hm1 hm2 hm3
      go_wp2
      go_roundw
      case rel => exact ⟨k + 1, by omega, rfl, by go_num, Lib.hid ⟨_, H4.out.1, H4.out.2, fun x hx => .inl (by simpa [Value.ownBlock] using hx.symm)⟩⟩
      case measure => simp [intOf]; omega
    · obtain rfl : k = D + 1 := by omega
      obtain ⟨g, cap, rfl, hga, hgl⟩ := SlE.neS HSL.out (by intro h; have := congrArg List.length h; rw [deepL_len] at this; simp at this)
      rw [deepL_len]
      have hgL : L g := HLOC.out g rfl
      have HC : Hid (L g ∧ ∀ i, i < D + 1 → wr.cell? ⟨g, i, none⟩ = some (.string (deepP (i + 1)))) := Lib.hid ⟨hgL, fun i hi => SlE.cellS HSL.out (g := g) rfl (deepL_get hi)⟩
      clear hgL
      go_wp2_with fail
      go_loopw [12, 13] (fun p i wx => ∃ j : Nat, j ≤ U ∧ p = .string (deepUp (D + 1) j) ∧ i = .int .i64 (j : Int) ∧ wr = wx) (fun _ i _ => U + 1 - (intOf i).toNat)
      case atStart => exact ⟨0, Nat.zero_le _, rfl, rfl, rfl⟩
      case round =>
        obtain ⟨j, hj, rfl, rfl, rfl⟩ := hrel
        have hsz := deepUp_size (D + 1) (by omega) j (by omega)
        by_cases hjU : j < U
        · have hfit : ¬ 9223372036854775807 < (deepUp (D + 1) j).size + 3 := by omega
          have hcat : deepUp (D + 1) j ++ (⟨#[47, 46, 46]⟩ : ByteArray) = deepUp (D + 1) (j + 1) := nmA_app _ [47, 46, 46]
          have HCAT := Lib.hid hcat
          clear hcat
          go_wp2
          go_roundw
          case rel => exact ⟨j + 1, by omega, by rw [HCAT.out], by go_num, by first | trivial | rfl⟩
          case measure => simp [intOf]; omega
        · obtain rfl : U = j := by omega
          have hfit : ¬ 9223372036854775807 < (deepUp (D + 1) U).size + 2 := by omega
          have hcat : deepUp (D + 1) U ++ (⟨#[47, 46]⟩ : ByteArray) = deepX (D + 1) U := nmA_app _ [47, 46]
          have HCAT := Lib.hid hcat
          obtain ⟨l1, l2, l3, l4⟩ := deep_law hD8 hU8
          obtain ⟨nd, hnd⟩ : ∃ nd, (lookT (deepS (D + 1)) (deepUp (D + 1) U) true).2 = nd := ⟨_, rfl⟩
          rw [hnd] at l2 l3
          have HL1 := Lib.hid (And.intro l1 hnd)
          have HL4 := Lib.hid l4
          have HR0 := Lib.hid (deep_rest hD8 hU8)
          obtain ⟨m1, m2, m3, m4, m5, m6⟩ := nd
          simp only at l2 l3
          obtain rfl : m1 = (D : Int) + 1 + 1 - (U : Int) := by omega
          obtain rfl : m6 = max 1 ((D : Int) + 1 - (U : Int)) := by rw [l3]; congr 1
          clear l1 hnd l2 l3 l4 hcat hsz hj hjU
          go_wp2_with fail
          refine (ts_look HTS.out (deepUp (D + 1) U) true HL1.out.1 HL1.out.2 rfl).mono ?_
          rintro e w6 ⟨rfl, h6, k6⟩
          simp only [encN]
          rw [show errOf E 0 = .nilIface from rfl]
          have H6 := Lib.hid h6
          have C6 : Hid (∀ i, i < D + 1 → w6.cell? ⟨g, i, none⟩ = some (.string (deepP (i + 1)))) := Lib.hid (fun i hi => (k6.cell HC.out.1 i).trans (HC.out.2 i hi))
          clear h6 k6
          go_wp2_with fail
          have row := Row.new w6 35 [.int .i64 ((D : Int) + 1 + 1 - (U : Int)), .int .i64 m2, .int .i64 m3, .int .i64 m4, .string m5, .int .i64 (max 1 ((D : Int) + 1 - (U : Int)))]
          have b67 : Below w6.heap.size w6 (w6.alloc (.cells #[.int .i64 ((D : Int) + 1 + 1 - (U : Int)), .int .i64 m2, .int .i64 m3, .int .i64 m4, .string m5, .int .i64 (max 1 ((D : Int) + 1 - (U : Int)))] 35)) := bl_alloc (Below.refl _ _) _
          obtain ⟨w7, hw7⟩ : ∃ w7, w7 = w6.alloc (.cells #[.int .i64 ((D : Int) + 1 + 1 - (U : Int)), .int .i64 m2, .int .i64 m3, .int .i64 m4, .string m5, .int .i64 (max 1 ((D : Int) + 1 - (U : Int)))] 35) := ⟨_, rfl⟩
          rw [← hw7] at b67 ⊢
          have row7 : Row w7 w6.heap.size 35 [.int .i64 ((D : Int) + 1 + 1 - (U : Int)), .int .i64 m2, .int .i64 m3, .int .i64 m4, .string m5, .int .i64 (max 1 ((D : Int) + 1 - (U : Int)))] := by rw [hw7]; exact row
          obtain ⟨X, hX⟩ : ∃ X, w6.heap.size = X := ⟨_, rfl⟩
          have hgl6 : g < w6.heap.size := H6.out.wb.2.1 g HC.out.1
          have h7 := (H6.out.below b67).more (row7.plain (plainI _ _))
          obtain ⟨L7, hL7⟩ : ∃ L7 : Nat → Prop, L7 = fun y => y = w6.heap.size ∨ L y := ⟨_, rfl⟩
          rw [← hL7] at h7
          have HLg : Hid (L7 g) := Lib.hid (by rw [hL7]; exact .inr HC.out.1)
          have HLX : Hid (L7 X) := Lib.hid (by rw [hL7]; exact .inl hX.symm)
          have C7 : Hid (∀ i, i < D + 1 → w7.cell? ⟨g, i, none⟩ = some (.string (deepP (i + 1)))) := Lib.hid (fun i hi => (b67.cell (p := ⟨g, i, none⟩) hgl6).trans (C6.out i hi))
          rw [hX] at row7 ⊢
          have R7 := Lib.hid row7
          have H7 := Lib.hid h7
          clear hw7 b67 row row7 h7 hL7 hX hgl6 C6
          rw [HCAT.out]
          obtain ⟨c, hcc⟩ : ∃ c, (rmdirT (deepS (D + 1)) (deepX (D + 1) U)).1 = c := ⟨_, rfl⟩
          obtain ⟨v, hv⟩ : ∃ v, errOf E c = v := ⟨_, rfl⟩
          have HCC := Lib.hid hcc
          have HV := Lib.hid hv
          clear hcc hv
          refine (ts_rmdir H7.out (deepX (D + 1) U) HCC.out rfl (rfl : _ = deepT D U 0) HV.out).mono ?_
          generalize (rmdirT (deepS (D + 1)) (deepX (D + 1) U)).2.1 = id1
          rintro e w8 ⟨rfl, h8, k8⟩
          have H8 := Lib.hid h8
          have C8 : Hid (∀ i, i < D + 1 → w8.cell? ⟨g, i, none⟩ = some (.string (deepP (i + 1)))) := Lib.hid (fun i hi => (k8.cell HLg.out i).trans (C7.out i hi))
          have x0 : w8.cell? ⟨X, 0, none⟩ = some (.int .i64 ((D : Int) + 1 + 1 - (U : Int))) := ((k8.cell HLX.out 0).trans (R7.out.cell 0)).trans rfl
          have x5 : w8.cell? ⟨X, 5, none⟩ = some (.int .i64 (max 1 ((D : Int) + 1 - (U : Int)))) := ((k8.cell HLX.out 5).trans (R7.out.cell 5)).trans rfl
          clear h8 k8 C7 H7 R7 H6
          by_cases hj0 : U = 0
          · subst hj0
            have hc0 : c = 0 := by have := HL4.out; rw [if_neg (by omega), HCC.out] at this; exact this
            subst hc0
            have hve : v = .nilIface := HV.out.symm
            subst hve
            have HF : Hid (deepF D 0 = D) := Lib.hid rfl
            have hu0 : ¬ ((0 : Nat) : Int) > 0 := by omega
            clear HL4
            go_wp2_with fail
            go_loopw [19, 20, 21, 22, 23] (fun i _ _ _ _ wx => ∃ j q : Nat, j + q = D ∧ i = .int .i64 ((q : Int) - 1) ∧ Hid (TS E B L7 a b t dm w1 (deepT D 0 j) wx) ∧ Hid (∀ i, i < D + 1 → wx.cell? ⟨g, i, none⟩ = some (.string (deepP (i + 1))))) (fun i _ _ _ _ _ => (intOf i + 1).toNat)
            case atStart => exact ⟨0, D, by omega, by go_num, H8, C8⟩
            case round =>
              obtain ⟨j, q, hjq, rfl, HX, CX⟩ := hrel
              clear H8 C8
              cases q with
              | zero =>
                obtain rfl : j = D := by omega
                obtain ⟨a0, al⟩ := HX.out.ta
                have b0 := HX.out.wb.c0
                have bl0 := HX.out.wb.lt.1
                have hq : ((0 : Nat) : Int) - 1 = -1 := rfl
                have ENT := Lib.hid HR0.out.2.1
                have LEN := Lib.hid HR0.out.2.2
                rw [HF.out] at ENT LEN
                rw [hq]
                clear hq a0 b0
                go_wp2_with fail
                refine (ts_entries HX.out ENT.out).mono ?_
                rintro e w9 ⟨rfl, h9, k9⟩
                have H9 := Lib.hid h9
                clear h9 k9
                obtain ⟨a0, al⟩ := H9.out.ta
                have b0 := H9.out.wb.c0
                have bl0 := H9.out.wb.lt.1
                go_wp2_with fail
                refine (wl_len H9.out.wb).mono ?_
                rintro e w10 ⟨rfl, rfl⟩
                rw [LEN.out]
                have hfld := fun w => fieldA (w := w)
                go_wp2
                rw [← HP.out]
                exact ⟨by first | done | rfl | simp, HB1.out.trans H9.out.bel⟩
              | succ r =>
                have hi : ((r + 1 : Nat) : Int) - 1 = r := by omega
                rw [hi]
                clear hi
                have hr0 : (r : Int) ≥ 0 := by omega
                have hrD : (r : Int) < (D : Int) + 1 := by omega
                have cr := CX.out r (by omega)
                obtain ⟨e1, e2, e3⟩ := HR0.out.1 j (by rw [HF.out]; omega)
                rw [HF.out, show D - j = r + 1 by omega] at e1 e2 e3
                rw [show r + 1 - 1 = r by omega] at e1
                have hid2 : ((r + 1 : Nat) : Int) + 1 = (r : Int) + 2 := by omega
                rw [hid2] at e3
                have EE := Lib.hid (And.intro e1 (And.intro e2 e3))
                have hst : (rmdirT (deepT D 0 j) (deepP (r + 1))).2.2 = deepT D 0 (j + 1) := by
                  unfold deepT
                  show _ = (rmdirT _ (deepP (deepF D 0 - j))).2.2
                  rw [HF.out, show D - j = r + 1 by omega]
                have HST := Lib.hid hst
                clear hst hid2 e1 e2 e3
                cases r with
                | zero =>
                  have hgt : ¬ ((0 : Nat) : Int) > 0 := by omega
                  go_wp2_with fail
                  refine (ts_rmdir HX.out (deepP (0 + 1)) EE.out.2.1 EE.out.2.2 HST.out rfl).mono ?_
                  rintro e w9 ⟨rfl, h9, k9⟩
                  have H9 := Lib.hid h9
                  have C9 : Hid (∀ i, i < D + 1 → w9.cell? ⟨g, i, none⟩ = some (.string (deepP (i + 1)))) := Lib.hid (fun i hi => (k9.cell HLg.out i).trans (CX.out i hi))
                  clear h9 k9
                  rw [show errOf E 0 = .nilIface from rfl]
                  go_wp2
                  go_roundw
                  case rel => exact ⟨j + 1, 0, by omega, by go_num, H9, C9⟩
                  case measure => simp [intOf]
                | succ r =>
                  have hgt : ((r + 1 : Nat) : Int) > 0 := by omega
                  have hi2 : ((r + 1 : Nat) : Int) - 1 = r := by omega
                  have cr2 := CX.out r (by omega)
                  have hr2 : (r : Int) ≥ 0 := by omega
                  have hr3 : (r : Int) < (D : Int) + 1 := by omega
                  obtain ⟨ad, had⟩ := errOf_some (E := E) (c := 113) (by omega)
                  have HAD := Lib.hid had
                  have H113 := Lib.hid (EE.out.1 (by omega))
                  have HSAME := Lib.hid (rmdirT_err (s := deepT D 0 j) (a := deepP (r + 1)) (by rw [H113.out]; decide))
                  clear had
                  go_wp2_with fail
                  refine (ts_rmdir HX.out (deepP (r + 1)) H113.out rfl HSAME.out HAD.out).mono ?_
                  generalize (rmdirT (deepT D 0 j) (deepP (r + 1))).2.1 = idx
                  rintro e w9 ⟨rfl, h9, k9⟩
                  have H9 := Lib.hid h9
                  have C9 : Hid (∀ i, i < D + 1 → w9.cell? ⟨g, i, none⟩ = some (.string (deepP (i + 1)))) := Lib.hid (fun i hi => (k9.cell HLg.out i).trans (CX.out i hi))
                  clear h9 k9 cr cr2
                  go_wp2_with fail
                  refine (ts_is H9.out HAD.out (by omega) (by decide : ((113 : Int) == 113) = true)).mono ?_
                  rintro e w10 ⟨rfl, hb10, h10⟩
                  have H10 := Lib.hid h10
                  have C10 : Hid (∀ i, i < D + 1 → w10.cell? ⟨g, i, none⟩ = some (.string (deepP (i + 1)))) := Lib.hid (fun i hi => (hb10.cell (p := ⟨g, i, none⟩) (H9.out.wb.2.1 g HLg.out)).trans (C9.out i hi))
                  clear h10 hb10
                  have cr := C10.out (r + 1) (by omega)
                  go_wp2_with fail
                  refine (ts_rmdir H10.out (deepP (r + 1 + 1)) EE.out.2.1 EE.out.2.2 HST.out rfl).mono ?_
                  rintro e w11 ⟨rfl, h11, k11⟩
                  have H11 := Lib.hid h11
                  have C11 : Hid (∀ i, i < D + 1 → w11.cell? ⟨g, i, none⟩ = some (.string (deepP (i + 1)))) := Lib.hid (fun i hi => (k11.cell HLg.out i).trans (C10.out i hi))
                  clear h11 k11 cr
                  rw [show errOf E 0 = .nilIface from rfl]
                  go_wp2
                  go_roundw
                  case rel => exact ⟨j + 1, r + 1, by omega, by go_num, H11, C11⟩
                  case measure => simp [intOf]; omega

          · have hc0 : c ≠ 0 := by have := HL4.out; rw [if_pos (by omega), HCC.out] at this; exact this
            have hcd : 101 ≤ c ∧ c ≤ 124 := by have := deep_code D hD8 U hU8 (by omega); rw [HCC.out] at this; exact this
            obtain ⟨ad1, had1⟩ := errOf_some (E := E) hcd
            have hve := HV.out.symm.trans had1
            subst hve
            have HF : Hid (deepF D U = D + 1) := Lib.hid (if_neg hj0)
            have hu0 : (U : Int) > 0 := by omega
            have hu1 : ¬ (U : Int) = 0 := by omega
            clear HL4 hc0 hcd had1 HV
            go_wp2_with fail
            have hdu : ((U : Int) == 0) = false := by rw [beq_eq_false_iff_ne]; exact hu1
            rw [hdu]
            clear hu0 hu1 hdu
            go_loopw [19, 20, 21, 22, 23] (fun i _ _ _ _ wx => ∃ j q : Nat, j + q = (D + 1) ∧ i = .int .i64 ((q : Int) - 1) ∧ Hid (TS E B L7 a b t dm w1 (deepT D U j) wx) ∧ Hid (∀ i, i < D + 1 → wx.cell? ⟨g, i, none⟩ = some (.string (deepP (i + 1))))) (fun i _ _ _ _ _ => (intOf i + 1).toNat)
            case atStart => exact ⟨0, (D + 1), by omega, by go_num, H8, C8⟩
            case round =>
              obtain ⟨j, q, hjq, rfl, HX, CX⟩ := hrel
              clear H8 C8
              cases q with
              | zero =>
                obtain rfl : j = (D + 1) := by omega
                obtain ⟨a0, al⟩ := HX.out.ta
                have b0 := HX.out.wb.c0
                have bl0 := HX.out.wb.lt.1
                have hq : ((0 : Nat) : Int) - 1 = -1 := rfl
                have ENT := Lib.hid HR0.out.2.1
                have LEN := Lib.hid HR0.out.2.2
                rw [HF.out] at ENT LEN
                rw [hq]
                clear hq a0 b0
                go_wp2_with fail
                refine (ts_entries HX.out ENT.out).mono ?_
                rintro e w9 ⟨rfl, h9, k9⟩
                have H9 := Lib.hid h9
                clear h9 k9
                obtain ⟨a0, al⟩ := H9.out.ta
                have b0 := H9.out.wb.c0
                have bl0 := H9.out.wb.lt.1
                go_wp2_with fail
                refine (wl_len H9.out.wb).mono ?_
                rintro e w10 ⟨rfl, rfl⟩
                rw [LEN.out]
                have hfld := fun w => fieldA (w := w)
                go_wp2
                rw [← HP.out]
                exact ⟨by first | done | rfl | simp, HB1.out.trans H9.out.bel⟩
              | succ r =>
                have hi : ((r + 1 : Nat) : Int) - 1 = r := by omega
                rw [hi]
                clear hi
                have hr0 : (r : Int) ≥ 0 := by omega
                have hrD : (r : Int) < (D : Int) + 1 := by omega
                have cr := CX.out r (by omega)
                obtain ⟨e1, e2, e3⟩ := HR0.out.1 j (by rw [HF.out]; omega)
                rw [HF.out, show (D + 1) - j = r + 1 by omega] at e1 e2 e3
                rw [show r + 1 - 1 = r by omega] at e1
                have hid2 : ((r + 1 : Nat) : Int) + 1 = (r : Int) + 2 := by omega
                rw [hid2] at e3
                have EE := Lib.hid (And.intro e1 (And.intro e2 e3))
                have hst : (rmdirT (deepT D U j) (deepP (r + 1))).2.2 = deepT D U (j + 1) := by
                  unfold deepT
                  show _ = (rmdirT _ (deepP (deepF D U - j))).2.2
                  rw [HF.out, show (D + 1) - j = r + 1 by omega]
                have HST := Lib.hid hst
                clear hst hid2 e1 e2 e3
                cases r with
                | zero =>
                  have hgt : ¬ ((0 : Nat) : Int) > 0 := by omega
                  go_wp2_with fail
                  refine (ts_rmdir HX.out (deepP (0 + 1)) EE.out.2.1 EE.out.2.2 HST.out rfl).mono ?_
                  rintro e w9 ⟨rfl, h9, k9⟩
                  have H9 := Lib.hid h9
                  have C9 : Hid (∀ i, i < D + 1 → w9.cell? ⟨g, i, none⟩ = some (.string (deepP (i + 1)))) := Lib.hid (fun i hi => (k9.cell HLg.out i).trans (CX.out i hi))
                  clear h9 k9
                  rw [show errOf E 0 = .nilIface from rfl]
                  go_wp2
                  go_roundw
                  case rel => exact ⟨j + 1, 0, by omega, by go_num, H9, C9⟩
                  case measure => simp [intOf]
                | succ r =>
                  have hgt : ((r + 1 : Nat) : Int) > 0 := by omega
                  have hi2 : ((r + 1 : Nat) : Int) - 1 = r := by omega
                  have cr2 := CX.out r (by omega)
                  have hr2 : (r : Int) ≥ 0 := by omega
                  have hr3 : (r : Int) < (D : Int) + 1 := by omega
                  obtain ⟨ad, had⟩ := errOf_some (E := E) (c := 113) (by omega)
                  have HAD := Lib.hid had
                  have H113 := Lib.hid (EE.out.1 (by omega))
                  have HSAME := Lib.hid (rmdirT_err (s := deepT D U j) (a := deepP (r + 1)) (by rw [H113.out]; decide))
                  clear had
                  go_wp2_with fail
                  refine (ts_rmdir HX.out (deepP (r + 1)) H113.out rfl HSAME.out HAD.out).mono ?_
                  generalize (rmdirT (deepT D U j) (deepP (r + 1))).2.1 = idx
                  rintro e w9 ⟨rfl, h9, k9⟩
                  have H9 := Lib.hid h9
                  have C9 : Hid (∀ i, i < D + 1 → w9.cell? ⟨g, i, none⟩ = some (.string (deepP (i + 1)))) := Lib.hid (fun i hi => (k9.cell HLg.out i).trans (CX.out i hi))
                  clear h9 k9 cr cr2
                  go_wp2_with fail
                  refine (ts_is H9.out HAD.out (by omega) (by decide : ((113 : Int) == 113) = true)).mono ?_
                  rintro e w10 ⟨rfl, hb10, h10⟩
                  have H10 := Lib.hid h10
                  have C10 : Hid (∀ i, i < D + 1 → w10.cell? ⟨g, i, none⟩ = some (.string (deepP (i + 1)))) := Lib.hid (fun i hi => (hb10.cell (p := ⟨g, i, none⟩) (H9.out.wb.2.1 g HLg.out)).trans (C9.out i hi))
                  clear h10 hb10
                  have cr := C10.out (r + 1) (by omega)
                  go_wp2_with fail
                  refine (ts_rmdir H10.out (deepP (r + 1 + 1)) EE.out.2.1 EE.out.2.2 HST.out rfl).mono ?_
                  rintro e w11 ⟨rfl, h11, k11⟩
                  have H11 := Lib.hid h11
                  have C11 : Hid (∀ i, i < D + 1 → w11.cell? ⟨g, i, none⟩ = some (.string (deepP (i + 1)))) := Lib.hid (fun i hi => (k11.cell HLg.out i).trans (C10.out i hi))
                  clear h11 k11 cr
                  rw [show errOf E 0 = .nilIface from rfl]
                  go_wp2
                  go_roundw
                  case rel => exact ⟨j + 1, r + 1, by omega, by go_num, H11, C11⟩
                  case measure => simp [intOf]; omega

end Go.Proofs.YtjmbilbkmcebeaaGreatDoor
end

section
namespace Go.Proofs.YtjmbilbkmcebeaaGreatDoor.treeDeep
open Go.ChangeShapes Go.WideShapes Go.ChangeAt Go.RowKit
set_option maxRecDepth 100000

theorem own : ownKnob Tryz.prog.godebug = none := by kernel_rfl

theorem door_met (os : Os) (args : Array Value) : laidMetH Tryz.prog Rows.treeDeepRow.laid ((World.laidAll Tryz.prog os Rows.treeDeepRow.laid).forCall (fun _ _ => 0) ⟨#[], args, []⟩).memory := by
  rw [MakeChecks.laidMetH_plain _ _ _ (by kernel_rfl)]
  exact laidMet_laidAll _ (by kernel_rfl) (by kernel_rfl)

theorem lifted (os : Os) (started : os.Started) (H : Type) (enc : TypeId × Value → H) :
    ReturnsInHanded {} Tryz.checked os 9 .any (fun w args => (Rows.treeDeepSpec.pre enc Tryz.prog Tryz.f9 [] false w args ∧ laidMetH Tryz.prog Rows.treeDeepRow.laid w) ∧ sizedMet enc Tryz.prog Tryz.f9 (OpenSpec.ofChange Rows.treeDeepSpec) false w args)
      (Rows.treeDeepSpec.post enc Tryz.prog Tryz.f9 false true false false) := by
  refine handed_and_shaped (C := Tryz.checked) (X := fun w _ => laidMetH Tryz.prog Rows.treeDeepRow.laid w) (fun _ _ _ hh h => h.of_heap hh) own started (by kernel_rfl) Tryz.func9
    (ChangeSpec.witness_shaped (enc := enc) (C := Tryz.checked) (os := os) (X := fun w _ => laidMetH Tryz.prog Rows.treeDeepRow.laid w) false (World.laidAll Tryz.prog os Rows.treeDeepRow.laid) #[.int .i64 0, .int .i64 0] 8 (World.laidAll_os _ _ _) (World.shaped_of_ZipB (by kernel_rfl) (by kernel_rfl)) (by kernel_rfl) (by kernel_rfl) (by kernel_rfl) (door_met os _)) ?_
  intro W base args ds gs before hval0 hW _ _ hL hSh _
  have hval : ∀ (j : Nat) t v, Tryz.f9.params[j]? = some t → args[j]? = some v → Value.okWide Tryz.prog W .any base t v := hval0
  have hW' := hW
  obtain ⟨p, q, hA0, hV, rfl, hfz, hnd⟩ := hW
  have hA : DataW.TrodAll enc Tryz.prog W 0 (fun _ => true) true Tryz.f9.params.toList args.toList ds p := hA0
  rw [Tryz.params9] at hA hval
  obtain ⟨v0, vs0, d0, ds0, p0, q0, hargs, rfl, rfl, h0, r0⟩ := trodAll_cons hA
  obtain ⟨v1, vs1, d1, ds1, p1, q1, rfl, rfl, rfl, h1, r1⟩ := trodAll_cons r0
  obtain ⟨rfl, rfl, rfl⟩ := trodAll_nil r1
  obtain rfl : args = #[v0, v1] := by cases args; simp_all
  obtain ⟨rfl, rfl⟩ := trodVars_none hV
  obtain ⟨a0, rfl, rfl, rfl, w0⟩ := open_int Tryz.underlying3 (hval 0 3 v0 rfl rfl) h0
  obtain ⟨a1, rfl, rfl, rfl, w1⟩ := open_int Tryz.underlying3 (hval 1 3 v1 rfl rfl) h1
  obtain ⟨E, hE0⟩ := env_of_laid_mid 4 24 hL (by kernel_rfl) (by kernel_rfl) (by kernel_rfl)
  have hE := envM_of hE0 hSh

  clear hA0 hval0
  simp only [List.append_nil] at hW'
  refine (treedeep_any a0 a1 W hE).mono fun e W' ⟨he, bel⟩ => ?_
  subst he
  exact ⟨_, rfl, _, _, _, [], [], [], hW', trodAll_mk1 (shut_bool Tryz.underlying4 _), (trodAll_cons_mk (shut_int Tryz.underlying3 w0) (trodAll_cons_mk (shut_int Tryz.underlying3 w1) trodAll_mk0)), rfl, bel.frame _, fun h => by cases h⟩

theorem joined : joinedFacts Tryz.prog 9 Tryz.f9 Rows.treeDeepSpec Rows.treeDeepRow = true := by
  unfold joinedFacts
  rw [seat_laidOut, seat_mapsRowed, seat_stopsHeard, seat_mayEnter, seat_plainKeys, seat_lifted, seat_make]
  kernel_rfl
theorem inst : Tryz.f9.isInstance Tryz.prog Rows.treeDeepRow.origin Rows.treeDeepRow.targs := of_decide_eq_true (by kernel_rfl)
theorem wrap : Tryz.f9.isWrapper Tryz.prog Rows.treeDeepRow.wrapper Rows.treeDeepRow.mainSum := by
  unfold Func.isWrapper
  first | (rw [if_pos (by decide +kernel)]; kernel_rfl) | (rw [if_neg (by decide +kernel)]; exact ⟨rfl, rfl⟩)

theorem over : Rows.treeDeepRow.holds Tryz.pinned (OpenSpec.ofChange Rows.treeDeepSpec) :=
  OpenClaim.holds_of_wide 9 Tryz.f9 rfl rfl rfl rfl rfl rfl rfl ⟨rfl, rfl, rfl, rfl, rfl⟩ rfl rfl rfl rfl rfl (by kernel_rfl) Tryz.func9 joined inst wrap
    (fun os started H enc _ => lifted os started H enc)

theorem proved : Rows.TreeDeepCardSaid :=
  Claim7.holds_tied_plain_at .later [] Rows.treeDeepCard.laidKinds true Rows.treeDeepCard.stood.harness true
    over (fun _ h => by cases h) (by kernel_rfl) (fun _ h => by cases h) treeDeep_row_tie rfl ⟨rfl, rfl⟩ (by kernel_rfl) rfl
    (fun f fn hf hfn => by
      obtain rfl : f = 9 := Option.some.inj ((show Tryz.prog.funcNamed "breviary/breviarylaw19.TreeDeep" = some 9 by kernel_rfl).symm.trans hf) |>.symm
      obtain rfl : fn = Tryz.f9 := (Option.some.inj (Tryz.func9.symm.trans hfn)).symm
      exact ⟨by kernel_rfl, fun j t ht => by
        rw [Tryz.params9] at ht
        have hm : t ∈ [3, 3] := by
          have := Array.mem_of_getElem? ht
          simpa using this
        have hall : [3, 3].all (fun t => !(Tryz.prog.wantsStandIn t)) = true := by kernel_rfl
        have h := (List.all_eq_true.1 hall) t hm
        simp only [Bool.not_eq_true'] at h
        exact h⟩)
    (by kernel_rfl)
#print axioms proved
end Go.Proofs.YtjmbilbkmcebeaaGreatDoor.treeDeep
end
