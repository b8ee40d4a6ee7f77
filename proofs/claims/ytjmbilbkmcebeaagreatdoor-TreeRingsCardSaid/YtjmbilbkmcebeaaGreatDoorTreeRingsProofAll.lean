/- PROVED: Rows.TreeRingsCardSaid: for every input the law TreeRings returns true, and each argument reads as before. Conditions: none beyond the listed package variables, which the card ties to the program's text. -/
import Derived.Test.YtjmbilbkmcebeaaGreatDoorBase30
import Derived.Test.YtjmbilbkmcebeaaGreatDoorRows
import Derived.Test.YtjmbilbkmcebeaaGreatDoorCards
import Derived.Test.YtjmbilbkmcebeaaGreatDoorTie
import Derived.Test.YtjmbilbkmcebeaaGreatDoorBase05
import Derived.Test.YtjmbilbkmcebeaaGreatDoorBase06
import Derived.Test.YtjmbilbkmcebeaaGreatDoorBase31
import Derived.Test.YtjmbilbkmcebeaaGreatDoorBase32
import Derived.ProofKit
import Derived.OpenShut
import Derived.ChangeOld
import Derived.LaidMore
import Derived.ChangeSame
import Derived.ChangeVars
import Derived.JoinedOf
import Derived.Lay
import Derived.MakeChecks
import Derived.SevenTiedAt
import Derived.Stop.Joined
import Derived.ChangeMaps5
section
/- The walk of the law TreeRings. -/
namespace Go.Proofs.YtjmbilbkmcebeaaGreatDoor
open Go Go.RowKit
set_option maxRecDepth 100000
set_option linter.unusedSimpArgs false
set_option linter.unusedVariables false
attribute [local go_sem] giv
variable {E : Nat → Addr} {B : Nat}
theorem rings_full : ∀ k, Full (ringS k).2
  | 0 => newSt_full
  | k + 1 => makeT_full (rings_full k) _ 2 noText
def ringL (k : Nat) : List ByteArray := (List.range k).map fun i => (ringS (i + 1)).1
theorem ringL_len (k : Nat) : (ringL k).length = k := by simp [ringL]
theorem ringL_succ (k : Nat) : ringL (k + 1) = ringL k ++ [(ringS (k + 1)).1] := by simp [ringL, List.range_succ]
theorem ringL_get {k i : Nat} (h : i < k) : (ringL k)[i]? = some (ringS (i + 1)).1 := by
  unfold ringL
  rw [List.getElem?_map, List.getElem?_range h]
  rfl
theorem nmA_app (x : ByteArray) (l : List UInt8) : x ++ (⟨l.toArray⟩ : ByteArray) = nmA (x.data.toList ++ l) := by
  apply ByteArray.ext
  apply Array.toList_inj.1
  simp [nmA]
theorem nmA_size (l : List UInt8) : (nmA l).size = l.length := by simp [nmA, ByteArray.size]
theorem ring_size : ∀ k, (ringS k).1.size = 2 * k
  | 0 => rfl
  | k + 1 => by
    have h : (ringS (k + 1)).1 = nmA ((ringS k).1.data.toList ++ [47, 100]) := rfl
    have h2 : (ringS k).1.data.toList.length = (ringS k).1.size := Array.length_toList
    rw [h, nmA_size, List.length_append, h2, ring_size k]
    simp
    omega
theorem ring_make : ∀ k, k < 8 → (makeT (ringS k).2 (ringS (k + 1)).1 2 noText).1 = 0 ∧ (parseP (ringS (k + 1)).1).1 = 0 := by decide +kernel
def ringX (k : Nat) : ByteArray := nmA ((ringS k).1.data.toList ++ [47, 120])
theorem ring_law {D A C : Nat} (hD : D < 7) (hA : A < D + 2) (hC : C < D + 2) :
    if A ≤ C then (renameT (ringS (D + 2)).2 (ringS (A + 1)).1 (ringX (C + 1))).1 = 114 ∧ (renameT (ringS (D + 2)).2 (ringS (A + 1)).1 (ringX (C + 1))).2.2.within ((C : Int) + 1 + 1) ((A : Int) + 1 + 1) = true
    else (renameT (ringS (D + 2)).2 (ringS (A + 1)).1 (ringX (C + 1))).1 = 0 ∧ (lookT (renameT (ringS (D + 2)).2 (ringS (A + 1)).1 (ringX (C + 1))).2.2 (ringX (C + 1)) false).1 = 0 ∧
      (lookT (renameT (ringS (D + 2)).2 (ringS (A + 1)).1 (ringX (C + 1))).2.2 (ringX (C + 1)) false).2.id = (A : Int) + 1 + 1 ∧ (lookT (renameT (ringS (D + 2)).2 (ringS (A + 1)).1 (ringX (C + 1))).2.2 (ringX (C + 1)) false).2.parent = (C : Int) + 1 + 1 ∧
      (renameT (ringS (D + 2)).2 (ringS (A + 1)).1 (ringX (C + 1))).2.2.within ((A : Int) + 1 + 1) ((C : Int) + 1 + 1) = true ∧ (renameT (ringS (D + 2)).2 (ringS (A + 1)).1 (ringX (C + 1))).2.2.within ((C : Int) + 1 + 1) ((A : Int) + 1 + 1) = false ∧
      (renameT (ringS (D + 2)).2 (ringS (A + 1)).1 (ringX (C + 1))).2.2.count = ((D + 2 : Nat) : Int) := by
  have h := List.all_eq_true.1 (List.all_eq_true.1 (List.all_eq_true.1 ring_all D (by simpa using hD)) A (by simpa using hA)) C (by simpa using hC)
  unfold ringOk at h
  by_cases hc : A ≤ C
  · rw [if_pos hc]
    rw [if_pos (by omega)] at h
    simpa [ringX] using h
  · rw [if_neg hc]
    rw [if_neg (by omega)] at h
    simp only [Bool.and_eq_true, beq_iff_eq, Bool.not_eq_true'] at h
    obtain ⟨⟨⟨⟨⟨⟨h1, h2⟩, h3⟩, h4⟩, h5⟩, h6⟩, h7⟩ := h
    exact ⟨h1, h2, h3, h4, h5, h6, h7⟩
theorem SlE.neS {w : World} {base : Nat} {e : TypeId} {k : Nat} {enc : ByteArray → List Value} {v : Value} {xs : List ByteArray} (h : SlE w base e k enc v xs) (hn : xs ≠ []) : ∃ g cap, v = .slice (some ⟨g, 0, none⟩) xs.length cap ∧ base ≤ g ∧ g < w.heap.size := by
  rcases h.cases with ⟨_, h⟩ | ⟨g, cap, h1, h2, h3, _⟩
  · exact absurd h hn
  · exact ⟨g, cap, h1, h2, h3⟩
theorem SlE.cellS {w : World} {base : Nat} {e : TypeId} {v : Value} {xs : List ByteArray} (h : SlE w base e 1 encS v xs) {g : Nat} (hg : v.ownBlock = some g) {i : Nat} {x : ByteArray} (hi : xs[i]? = some x) : w.cell? ⟨g, i, none⟩ = some (.string x) := by
  have hf : flat encS xs = xs.map Value.string := by
    clear h hi
    induction xs with
    | nil => rfl
    | cons x xs ih => rw [flat_cons, ih]; rfl
  have := World.ownsRow.cells h (g := g) hg i (.string x) (by rw [hf, List.getElem?_map, hi]; rfl)
  rwa [show (⟨g, 0, none⟩ : Addr).add i = ⟨g, i, none⟩ by unfold Addr.add; split <;> simp_all] at this
theorem SlE.plainS {w : World} {base : Nat} {e : TypeId} {v : Value} {xs : List ByteArray} (h : SlE w base e 1 encS v xs) (hn : xs ≠ []) {g : Nat} (hg : v.ownBlock = some g) : Plain w g := by
  cases xs with
  | nil => exact absurd rfl hn
  | cons x xs => exact ⟨.string x, h.cellS hg (i := 0) rfl, Go.Proofs.YtjmbilbkmcebeaaGreatDoor.plainS x⟩

set_option maxHeartbeats 8000000 in
theorem treerings_any (n1 n2 n3 : Int) (w : World) (hE : EnvM E B w) :
    Calls Tryz.prog 3 #[.int .i64 n1, .int .i64 n2, .int .i64 n3] w fun e w' => e = .returned (.bool true) ∧ Below B w w' := by
  have HE := Lib.hid hE
  generalize hP : (fun (e : Ending) (w' : World) => e = .returned (.bool true) ∧ Below B w w') = Post
  have HP := Lib.hid hP
  clear hP hE
  go_enter Tryz.func3, Tryz.ntmps3
  go_wp2_with fail
  refine (first_any HE.out).mono ?_
  rintro e w1 ⟨rfl, hb1⟩
  have HE1 := Lib.hid (HE.out.keep hb1)
  have HB1 := Lib.hid hb1
  clear hb1 HE
  go_wp2_with fail
  refine (number_any n1 7 (by omega) _).mono ?_
  rintro e w2 ⟨rfl, rfl⟩
  obtain ⟨D, hD⟩ : ∃ D : Nat, n1 % 7 = D := ⟨(n1 % 7).toNat, by omega⟩
  have hD7 : D < 7 := by omega
  rw [hD]
  clear hD
  go_wp2_with fail
  refine (number_any n2 ((D : Int) + 2) (by omega) _).mono ?_
  rintro e w2 ⟨rfl, rfl⟩
  obtain ⟨A, hA⟩ : ∃ A : Nat, n2 % ((D : Int) + 2) = A := ⟨(n2 % ((D : Int) + 2)).toNat, by have := Int.emod_nonneg n2 (show (D : Int) + 2 ≠ 0 by omega); omega⟩
  have hA7 : A < D + 2 := by have := Int.emod_lt_of_pos n2 (show 0 < (D : Int) + 2 by omega); omega
  rw [hA]
  clear hA
  go_wp2_with fail
  refine (number_any n3 ((D : Int) + 2) (by omega) _).mono ?_
  rintro e w2 ⟨rfl, rfl⟩
  obtain ⟨C, hC⟩ : ∃ C : Nat, n3 % ((D : Int) + 2) = C := ⟨(n3 % ((D : Int) + 2)).toNat, by have := Int.emod_nonneg n3 (show (D : Int) + 2 ≠ 0 by omega); omega⟩
  have hC7 : C < D + 2 := by have := Int.emod_lt_of_pos n3 (show 0 < (D : Int) + 2 by omega); omega
  rw [hC]
  clear hC
  go_wp2_with fail
  refine (ts_new HE1.out).mono ?_
  rintro e w2 ⟨a, b, t, dm, rfl, ha, h2⟩
  have H2 := Lib.hid h2
  have HSZ := Lib.hid (Nat.le_trans HE1.out.size ha)
  clear h2 ha
  go_wp2_with fail
  go_loopw [9, 10, 11] (fun s p i wr => ∃ k : Nat, k ≤ D + 2 ∧ s = .string (ringS k).1 ∧ i = .int .i64 ((k + 1 : Nat) : Int) ∧ Hid (∃ L, TS E B L a b t dm w1 (ringS k).2 wr ∧ SlE wr (a + 1) 9 1 encS p (ringL k) ∧ (∀ x, p.ownBlock = some x → L x))) (fun _ _ i _ => D + 3 - (intOf i).toNat)
  case atStart => exact ⟨0, Nat.zero_le _, rfl, rfl, Lib.hid ⟨_, H2.out, SlE.nil _ _ _ _ _, fun x hx => by simp [Value.ownBlock] at hx⟩⟩
  case round =>
    obtain ⟨k, hk, rfl, rfl, HR⟩ := hrel
    clear H2
    obtain ⟨L, hts, hsl, hloc⟩ := HR.out
    have HTS := Lib.hid hts
    have HSL := Lib.hid hsl
    have HLOC := Lib.hid hloc
    clear hts hsl hloc HR
    by_cases hkD : k < D + 2
    · have hcat : (ringS k).1 ++ (⟨#[47, 100]⟩ : ByteArray) = (ringS (k + 1)).1 := nmA_app _ [47, 100]
      have hfit : ¬ 9223372036854775807 < (ringS k).1.size + 2 := by rw [ring_size]; omega
      have HCAT := Lib.hid hcat
      have HOWN := Lib.hid (SlE.below HSL.out (bl_alloc (Below.refl _ wr) (.cells #[.string ((ringS k).1 ++ ⟨#[47, 100]⟩)] 9)))
      have HROW : Hid (RdE (wr.alloc (.cells #[.string ((ringS k).1 ++ ⟨#[47, 100]⟩)] 9)) 1 encS (.slice (some ⟨wr.heap.size, 0, none⟩) 1 1) [(ringS k).1 ++ ⟨#[47, 100]⟩]) := Lib.hid (RdE.one (x := (ringS k).1 ++ ⟨#[47, 100]⟩) (Row.new wr 9 (encS ((ringS k).1 ++ ⟨#[47, 100]⟩))))
      have HBS : Hid (a + 1 ≤ (wr.alloc (.cells #[.string ((ringS k).1 ++ ⟨#[47, 100]⟩)] 9)).heap.size) := Lib.hid (by have := HTS.out.ta.2; simp; omega)
      have HLN := Lib.hid (ringL_len k)
      clear hcat
      go_wp2_with (at_builtin; refine wpList_app strT rfl _ _ rfl rfl HOWN.out rfl HROW.out (by rw [HLN.out]; exact small_max (by simp; omega)) (by rw [HLN.out]; simp; omega) HBS.out ?_; intro v' w' hs' ht'; have HS' := Lib.hid hs'; have HT' := Lib.hid ht'; clear hs' ht')
      have hb := HTS.out.below (bl_alloc (Below.refl _ wr) (.cells #[.string ((ringS k).1 ++ ⟨#[47, 100]⟩)] 9))
      have ht1 := hb.touch HT'.out (fun x hx => ⟨HLOC.out x hx, by have := (SlE.lt HSL.out x hx).1; omega, by have := (SlE.lt HSL.out x hx).1; have := HSZ.out; omega⟩)
      have hs1 := HS'.out
      rw [HCAT.out, ← ringL_succ] at hs1
      rw [HCAT.out]
      obtain ⟨g, cap, rfl, hga, hgl⟩ := SlE.neS hs1 (by rw [ringL_succ]; simp)
      have hpl := SlE.plainS hs1 (by rw [ringL_succ]; simp) (g := g) rfl
      have ht2 := ht1.more hpl
      have HT2 := Lib.hid ht2
      have HS2 := Lib.hid hs1
      clear hb ht1 hs1 hpl ht2 HS' HT' HBS HROW HOWN HTS HSL
      obtain ⟨hm1, hm2⟩ := ring_make k (by omega)
      refine (ts_make HT2.out (ringS (k + 1)).1 noText 2 hm1 rfl (rfl : _ = (ringS (k + 1)).2) rfl hm2 ⟨by decide, by decide⟩).mono ?_
      generalize (makeT (ringS k).2 (ringS (k + 1)).1 2 noText).2.1 = id
      rintro e w4 ⟨rfl, h4, k4⟩
      rw [show errOf E 0 = .nilIface from rfl]
      have H4 := Lib.hid (And.intro h4 (HS2.out.keep (fun x hx => k4.loc x (.inl (by simpa [Value.ownBlock] using hx.symm)))))
      clear h4 k4 hm1 hm2
      go_wp2
      go_roundw
      case rel => exact ⟨k + 1, by omega, rfl, by go_num, Lib.hid ⟨_, H4.out.1, H4.out.2, fun x hx => .inl (by simpa [Value.ownBlock] using hx.symm)⟩⟩
      case measure => simp [intOf]; omega
    · obtain rfl : k = D + 2 := by omega
      obtain ⟨g, cap, rfl, hga, hgl⟩ := SlE.neS HSL.out (by intro h; have := congrArg List.length h; rw [ringL_len] at this; simp at this)
      rw [ringL_len]
      have hgL : L g := HLOC.out g rfl
      have cA := SlE.cellS HSL.out (g := g) rfl (ringL_get hA7)
      have cC := SlE.cellS HSL.out (g := g) rfl (ringL_get hC7)
      have HC := Lib.hid (And.intro hgL (And.intro cA cC))
      clear hgL cA cC
      have hfit : ¬ 9223372036854775807 < (ringS (C + 1)).1.size + 2 := by rw [ring_size]; omega
      have hcx : (ringS (C + 1)).1 ++ (⟨#[47, 120]⟩ : ByteArray) = ringX (C + 1) := nmA_app _ [47, 120]
      have HCX := Lib.hid hcx
      clear hcx
      have hlaw := ring_law hD7 hA7 hC7
      obtain ⟨c, hcc⟩ : ∃ c, (renameT (ringS (D + 2)).2 (ringS (A + 1)).1 (ringX (C + 1))).1 = c := ⟨_, rfl⟩
      obtain ⟨id, hid⟩ : ∃ c, (renameT (ringS (D + 2)).2 (ringS (A + 1)).1 (ringX (C + 1))).2.1 = c := ⟨_, rfl⟩
      obtain ⟨S2, hS2⟩ : ∃ c, (renameT (ringS (D + 2)).2 (ringS (A + 1)).1 (ringX (C + 1))).2.2 = c := ⟨_, rfl⟩
      obtain ⟨v, hv⟩ : ∃ v, errOf E c = v := ⟨_, rfl⟩
      rw [hcc, hS2] at hlaw
      have HLAW := Lib.hid hlaw
      have HV := Lib.hid hv
      have HREN := Lib.hid (And.intro hcc (And.intro hid hS2))
      clear hlaw hv hcc hid hS2
      have hA0 : (0 : Int) ≤ (A : Int) := by omega
      have hA1 : (A : Int) < (D : Int) + 2 := by omega
      have hC0 : (0 : Int) ≤ (C : Int) := by omega
      have hC1 : (C : Int) < (D : Int) + 2 := by omega
      have hwA : IntKind.i64.wrap (A : Int) = A := IntWalk.i64_in _ (by omega)
      have hwC : IntKind.i64.wrap (C : Int) = C := IntWalk.i64_in _ (by omega)
      go_wp2_with fail
      have HC0 : Hid (KeptP B L wr wr.drew ∧ TS E B L a b t dm w1 (if false = true then S2 else (ringS (D + 2)).2) wr.drew) := Lib.hid ⟨HTS.out.wb.kept (Below.refl _ _).drew, HTS.out.below (Below.refl _ _).drew⟩
      have S : ∀ (d : Bool) w', (KeptP B L wr w' ∧ TS E B L a b t dm w1 (if d = true then S2 else (ringS (D + 2)).2) w') → w'.cell? ⟨g, A, none⟩ = some (.string (ringS (A + 1)).1) ∧ w'.cell? ⟨g, C, none⟩ = some (.string (ringS (C + 1)).1) :=
        fun d w' h => ⟨(h.1.cell HC.out.1 A).trans HC.out.2.1, (h.1.cell HC.out.1 C).trans HC.out.2.2⟩
      have HT : Hid (∀ w', (KeptP B L wr w' ∧ TS E B L a b t dm w1 (if false = true then S2 else (ringS (D + 2)).2) w') → Calls Tryz.prog 15 #[.pointer (some ⟨a, 0, none⟩), .string (ringS (A + 1)).1, .string ((ringS (C + 1)).1 ++ ⟨#[47, 120]⟩)] w' fun e w'' =>
          e = .returned (.tuple #[.int .i64 id, v]) ∧ (KeptP B L wr w'' ∧ TS E B L a b t dm w1 (if true = true then S2 else (ringS (D + 2)).2) w'')) := Lib.hid (by
        intro w' h
        rw [HCX.out]
        refine (ts_rename h.2 _ _ HREN.out.1 HREN.out.2.1 HREN.out.2.2 HV.out).mono ?_
        rintro e w'' ⟨h1, h2, h3⟩
        exact ⟨h1, h.1.trans h3, h2⟩)
      apply wp_region_once 12 _ (by kernel_rfl) (by kernel_rfl) (by decide) (fun d w' => KeptP B L wr w' ∧ TS E B L a b t dm w1 (if d = true then S2 else (ringS (D + 2)).2) w') HC0.out
      repeat (first
        | (apply once_skip (by rfl) (by decide)
           simp only [Act.put, List.setIfInBounds_toArray, List.set_cons_zero, List.set_cons_succ])
        | (apply once_fix (by rfl) (by rfl)
           · intro d w' hc R hR
             have hS := S d w' hc
             go_simp
             exact hR
           simp only [Act.put, List.setIfInBounds_toArray, List.set_cons_zero, List.set_cons_succ])
        | (apply once_call (by rfl) (by rfl)
           · intro w' hc
             have hS := S false w' hc
             go_simp
             refine (HT.out w' hc).mono ?_
             rintro e w'' ⟨rfl, hc''⟩
             exact ⟨_, rfl, rfl, hc''⟩
           simp only [Act.put, List.setIfInBounds_toArray, List.set_cons_zero, List.set_cons_succ]))
      refine once_nil (fun w5 hc => ?_)
      have H5 : Hid (TS E B L a b t dm w1 S2 w5) := Lib.hid hc.2
      have K5 := Lib.hid hc.1
      clear hc S HT HC0 hwA hwC
      have hr1 : ((C : Int) + 1 + 1 ≥ -9223372036854775808 ∧ (C : Int) + 1 + 1 ≤ 9223372036854775807) := ⟨by omega, by omega⟩
      have hr2 : ((A : Int) + 1 + 1 ≥ -9223372036854775808 ∧ (A : Int) + 1 + 1 ≤ 9223372036854775807) := ⟨by omega, by omega⟩
      have R1 := Lib.hid hr1
      have R2 := Lib.hid hr2
      clear hr1 hr2
      by_cases hac : A ≤ C
      · have hl := HLAW.out
        rw [if_pos hac] at hl
        obtain ⟨rfl, hl2⟩ := hl
        have HL2 := Lib.hid hl2
        clear hl2 HLAW
        obtain ⟨ad, had⟩ := errOf_some (E := E) (c := 114) (by omega)
        have HAD := Lib.hid had
        have hve := HV.out.symm.trans had
        subst hve
        clear had HV
        have hge : (C : Int) + 1 ≥ (A : Int) + 1 := by omega
        go_wp2_with fail
        refine (ts_is H5.out HAD.out (by omega) (by decide : ((114 : Int) == 114) = true)).mono ?_
        rintro e w6 ⟨rfl, hb6, h6⟩
        have H6 := Lib.hid h6
        clear h6 hb6
        go_wp2_with fail
        refine (ts_within H6.out HL2.out R1.out R2.out).mono ?_
        rintro e w7 ⟨rfl, h7, k7⟩
        have H7 := Lib.hid h7
        clear h7 k7
        go_wp2
        rw [← HP.out]
        exact ⟨by first | done | rfl, HB1.out.trans H7.out.bel⟩
      · have hl := HLAW.out
        rw [if_neg hac] at hl
        obtain ⟨rfl, l1, l2, l3, l4, l5, l6⟩ := hl
        have HL4 := Lib.hid l4
        have HL5 := Lib.hid l5
        have HL6 := Lib.hid l6
        have hve : v = .nilIface := HV.out.symm
        subst hve
        have hge : ¬ (C : Int) + 1 ≥ (A : Int) + 1 := by omega
        have cC5 : w5.cell? ⟨g, C, none⟩ = some (.string (ringS (C + 1)).1) := (K5.out.cell HC.out.1 C).trans HC.out.2.2
        obtain ⟨nd, hnd⟩ : ∃ nd, (lookT S2 (ringX (C + 1)) false).2 = nd := ⟨_, rfl⟩
        rw [hnd] at l2 l3
        have HL1 := Lib.hid (And.intro l1 hnd)
        obtain ⟨m1, m2, m3, m4, m5, m6⟩ := nd
        simp only at l2 l3
        subst l2 l3
        clear l1 hnd l4 l5 l6 HLAW
        go_wp2_with fail
        rw [HCX.out]
        refine (ts_look H5.out (ringX (C + 1)) false HL1.out.1 HL1.out.2 rfl).mono ?_
        rintro e w6 ⟨rfl, h6, k6⟩
        simp only [encN]
        rw [show errOf E 0 = .nilIface from rfl]
        have H6 := Lib.hid h6
        clear h6 k6 cC5
        go_wp2_with fail
        refine (ts_within (H6.out.below (bl_alloc (Below.refl _ _) _)) HL4.out R2.out R1.out).mono ?_
        rintro e w7 ⟨rfl, h7, k7⟩
        have H7 := Lib.hid h7
        clear h7 k7
        go_wp2_with fail
        refine (ts_within H7.out HL5.out R1.out R2.out).mono ?_
        rintro e w8 ⟨rfl, h8, k8⟩
        have H8 := Lib.hid h8
        clear h8 k8
        go_wp2_with fail
        refine (ts_entries H8.out HL6.out).mono ?_
        rintro e w9 ⟨rfl, h9, k9⟩
        have H9 := Lib.hid h9
        clear h9 k9
        go_wp2
        rw [← HP.out]
        exact ⟨by first | done | rfl | simp, HB1.out.trans H9.out.bel⟩
end Go.Proofs.YtjmbilbkmcebeaaGreatDoor
end

section
namespace Go.Proofs.YtjmbilbkmcebeaaGreatDoor.treeRings
open Go.ChangeShapes Go.WideShapes Go.ChangeAt Go.RowKit
set_option maxRecDepth 100000

theorem own : ownKnob Tryz.prog.godebug = none := by kernel_rfl

theorem door_met (os : Os) (args : Array Value) : laidMetH Tryz.prog Rows.treeRingsRow.laid ((World.laidAll Tryz.prog os Rows.treeRingsRow.laid).forCall (fun _ _ => 0) ⟨#[], args, []⟩).memory := by
  rw [MakeChecks.laidMetH_plain _ _ _ (by kernel_rfl)]
  exact laidMet_laidAll _ (by kernel_rfl) (by kernel_rfl)

theorem lifted (os : Os) (started : os.Started) (H : Type) (enc : TypeId × Value → H) :
    ReturnsInHanded {} Tryz.checked os 3 .any (fun w args => (Rows.treeRingsSpec.pre enc Tryz.prog Tryz.f3 [] false w args ∧ laidMetH Tryz.prog Rows.treeRingsRow.laid w) ∧ sizedMet enc Tryz.prog Tryz.f3 (OpenSpec.ofChange Rows.treeRingsSpec) false w args)
      (Rows.treeRingsSpec.post enc Tryz.prog Tryz.f3 false true false false) := by
  refine handed_and_shaped (C := Tryz.checked) (X := fun w _ => laidMetH Tryz.prog Rows.treeRingsRow.laid w) (fun _ _ _ hh h => h.of_heap hh) own started (by kernel_rfl) Tryz.func3
    (ChangeSpec.witness_shaped (enc := enc) (C := Tryz.checked) (os := os) (X := fun w _ => laidMetH Tryz.prog Rows.treeRingsRow.laid w) false (World.laidAll Tryz.prog os Rows.treeRingsRow.laid) #[.int .i64 0, .int .i64 0, .int .i64 0] 8 (World.laidAll_os _ _ _) (World.shaped_of_ZipB (by kernel_rfl) (by kernel_rfl)) (by kernel_rfl) (by kernel_rfl) (by kernel_rfl) (door_met os _)) ?_
  intro W base args ds gs before hval0 hW _ _ hL hSh _
  have hval : ∀ (j : Nat) t v, Tryz.f3.params[j]? = some t → args[j]? = some v → Value.okWide Tryz.prog W .any base t v := hval0
  have hW' := hW
  obtain ⟨p, q, hA0, hV, rfl, hfz, hnd⟩ := hW
  have hA : DataW.TrodAll enc Tryz.prog W 0 (fun _ => true) true Tryz.f3.params.toList args.toList ds p := hA0
  rw [Tryz.params3] at hA hval
  obtain ⟨v0, vs0, d0, ds0, p0, q0, hargs, rfl, rfl, h0, r0⟩ := trodAll_cons hA
  obtain ⟨v1, vs1, d1, ds1, p1, q1, rfl, rfl, rfl, h1, r1⟩ := trodAll_cons r0
  obtain ⟨v2, vs2, d2, ds2, p2, q2, rfl, rfl, rfl, h2, r2⟩ := trodAll_cons r1
  obtain ⟨rfl, rfl, rfl⟩ := trodAll_nil r2
  obtain rfl : args = #[v0, v1, v2] := by cases args; simp_all
  obtain ⟨rfl, rfl⟩ := trodVars_none hV
  obtain ⟨a0, rfl, rfl, rfl, w0⟩ := open_int Tryz.underlying3 (hval 0 3 v0 rfl rfl) h0
  obtain ⟨a1, rfl, rfl, rfl, w1⟩ := open_int Tryz.underlying3 (hval 1 3 v1 rfl rfl) h1
  obtain ⟨a2, rfl, rfl, rfl, w2⟩ := open_int Tryz.underlying3 (hval 2 3 v2 rfl rfl) h2
  obtain ⟨E, hE0⟩ := env_of_laid_mid 1 24 hL (by kernel_rfl) (by kernel_rfl) (by kernel_rfl)
  have hE := envM_of hE0 hSh

  clear hA0 hval0
  simp only [List.append_nil] at hW'
  refine (treerings_any a0 a1 a2 W hE).mono fun e W' ⟨he, bel⟩ => ?_
  subst he
  exact ⟨_, rfl, _, _, _, [], [], [], hW', trodAll_mk1 (shut_bool Tryz.underlying4 _), (trodAll_cons_mk (shut_int Tryz.underlying3 w0) (trodAll_cons_mk (shut_int Tryz.underlying3 w1) (trodAll_cons_mk (shut_int Tryz.underlying3 w2) trodAll_mk0))), rfl, bel.frame _, fun h => by cases h⟩

theorem joined : joinedFacts Tryz.prog 3 Tryz.f3 Rows.treeRingsSpec Rows.treeRingsRow = true := by
  unfold joinedFacts
  rw [seat_laidOut, seat_mapsRowed, seat_stopsHeard, seat_mayEnter, seat_plainKeys, seat_lifted, seat_make]
  kernel_rfl
theorem inst : Tryz.f3.isInstance Tryz.prog Rows.treeRingsRow.origin Rows.treeRingsRow.targs := of_decide_eq_true (by kernel_rfl)
theorem wrap : Tryz.f3.isWrapper Tryz.prog Rows.treeRingsRow.wrapper Rows.treeRingsRow.mainSum := by
  unfold Func.isWrapper
  first | (rw [if_pos (by decide +kernel)]; kernel_rfl) | (rw [if_neg (by decide +kernel)]; exact ⟨rfl, rfl⟩)

theorem over : Rows.treeRingsRow.holds Tryz.pinned (OpenSpec.ofChange Rows.treeRingsSpec) :=
  OpenClaim.holds_of_wide 3 Tryz.f3 rfl rfl rfl rfl rfl rfl rfl ⟨rfl, rfl, rfl, rfl, rfl⟩ rfl rfl rfl rfl rfl (by kernel_rfl) Tryz.func3 joined inst wrap
    (fun os started H enc _ => lifted os started H enc)

theorem proved : Rows.TreeRingsCardSaid :=
  Claim7.holds_tied_plain_at .later [] Rows.treeRingsCard.laidKinds true Rows.treeRingsCard.stood.harness true
    over (fun _ h => by cases h) (by kernel_rfl) (fun _ h => by cases h) treeRings_row_tie rfl ⟨rfl, rfl⟩ (by kernel_rfl) rfl
    (fun f fn hf hfn => by
      obtain rfl : f = 3 := Option.some.inj ((show Tryz.prog.funcNamed "breviary/breviarylaw19.TreeRings" = some 3 by kernel_rfl).symm.trans hf) |>.symm
      obtain rfl : fn = Tryz.f3 := (Option.some.inj (Tryz.func3.symm.trans hfn)).symm
      exact ⟨by kernel_rfl, fun j t ht => by
        rw [Tryz.params3] at ht
        have hm : t ∈ [3, 3, 3] := by
          have := Array.mem_of_getElem? ht
          simpa using this
        have hall : [3, 3, 3].all (fun t => !(Tryz.prog.wantsStandIn t)) = true := by kernel_rfl
        have h := (List.all_eq_true.1 hall) t hm
        simp only [Bool.not_eq_true'] at h
        exact h⟩)
    (by kernel_rfl)
#print axioms proved
end Go.Proofs.YtjmbilbkmcebeaaGreatDoor.treeRings
end
