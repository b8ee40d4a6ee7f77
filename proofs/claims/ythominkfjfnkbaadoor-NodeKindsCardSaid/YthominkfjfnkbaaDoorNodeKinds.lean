/- The walk of the law NodeKinds. -/
import Derived.Test.YthominkfjfnkbaaDoorNodeLaw
namespace Go.Proofs.YthominkfjfnkbaaDoor
open Go Go.RowKit
set_option maxRecDepth 100000
set_option linter.unusedSimpArgs false
attribute [local go_sem] giv
variable {E : Nat → Addr} {B : Nat}

/-- The first j nodes that NodeKinds makes. -/
def seqN (j : Nat) : Int → Option Nd := fun k => if 1 ≤ k ∧ k ≤ j then some (newNd k ((k - 1) % 3 + 1)) else none
theorem seqN_zero : seqN 0 = fun _ => none := by funext k; simp only [seqN]; rw [if_neg (by omega)]
theorem seqN_next (j : Nat) : seqN j ((j : Int) + 1) = none := by simp only [seqN]; rw [if_neg (by omega)]
theorem seqN_succ (j : Nat) : upd (seqN j) ((j : Int) + 1) (newNd ((j : Int) + 1) ((j : Int) % 3 + 1)) = seqN (j + 1) := by
  funext k
  simp only [upd, seqN]
  by_cases h : k = (j : Int) + 1
  · subst h
    rw [if_pos rfl, if_pos (by omega)]
    simp
  · rw [if_neg h]
    by_cases h1 : 1 ≤ k ∧ k ≤ j
    · rw [if_pos h1, if_pos (by omega)]
    · rw [if_neg h1, if_neg (by omega)]

theorem size_of_noText {s : ByteArray} (h : s.toList = []) : s.size = 0 := by
  rw [ByteArray.toList_eq] at h
  have h2 := congrArg List.length h
  simp only [List.length_nil] at h2
  have h3 : s.data.toList.length = s.size := by rw [Array.length_toList]; rfl
  omega

set_option maxHeartbeats 1000000 in
theorem kinds_any (n kind : Int) (s : ByteArray) (w : World) (hE : Env E B w) :
    Calls Tryd.prog 4 #[.int .i64 n, .int .i64 kind, .string s] w fun e w' => e = .returned (.bool true) ∧ Below B w w' := by
  have hB := hE.size
  have HE := Lib.hid hE
  clear hE
  go_enter Tryd.func4, Tryd.ntmps4
  go_wp2_with fail
  refine (first15 _ HE.out).mono ?_
  rintro e w1 ⟨rfl, hb1⟩
  have HE1 := Lib.hid (HE.out.below hb1)
  have HB1 := Lib.hid (hb1.mono hB)
  clear hb1 HE
  by_cases hs : (100 : Int) < s.size
  · go_wp2
    go_ret
    exact ⟨rfl, HB1.out⟩
  have hs' : decide ((100 : Int) < s.size) = false := decide_eq_false hs
  go_wp2_with fail
  refine (number_any n 20 (by omega) _).mono ?_
  rintro e w2 ⟨rfl, rfl⟩
  obtain ⟨N, hN⟩ : ∃ N : Nat, n % 20 = N := ⟨(n % 20).toNat, by omega⟩
  have hN20 : N < 20 := by omega
  rw [hN]
  go_wp2_with fail
  have hN0 : NB B [] (w1.alloc (.cells #[.map none, .int .i64 0] 41)) w1.heap.size (seqN 0) 0 0 := by rw [seqN_zero]; exact NB.new w1 HE1.out.size (by simp)
  have HN0 := Lib.hid hN0
  have HE2 := Lib.hid (HE1.out.alloc (.cells #[.map none, .int .i64 0] 41))
  have HB2 := Lib.hid (HB1.out.trans ((bl_alloc (Below.refl w1.heap.size w1) (.cells #[.map none, .int .i64 0] 41)).mono HE1.out.size))
  clear hN0 HE1 HB1
  generalize w1.heap.size = bt at *
  go_loopw [9, 10, 11] (fun v _ _ wr => ∃ j : Nat, j ≤ N ∧ v = .int .i64 j ∧ NB B [] wr bt (seqN j) j j ∧ Env E B wr ∧ Below B w wr) (fun v _ _ _ => N - (intOf v).toNat)
  case atStart => exact ⟨0, Nat.zero_le _, rfl, HN0.out, HE2.out, HB2.out⟩
  case round =>
    obtain ⟨j, hj, rfl, hnb, he, hb⟩ := hrel
    have HNB := Lib.hid hnb
    have HEr := Lib.hid he
    have HBr := Lib.hid hb
    clear hnb he hb
    by_cases hjN : j < N
    · have ht : (j : Int).tmod 3 = (j : Int) % 3 := Int.tmod_eq_emod_of_nonneg (by omega)
      have hw : wrap64 ((j : Int) % 3 + 1) = (j : Int) % 3 + 1 := by unfold wrap64; omega
      go_wp2_with fail
      refine (nb_new HNB.out (k := (j : Int) % 3 + 1) (by simp [kindB]; omega) (by omega) (by omega) (seqN_next j) HEr.out).mono ?_
      rintro e w3 ⟨rfl, hnb, kp⟩
      rw [seqN_succ] at hnb
      have HNB3 := Lib.hid hnb
      have HE3 := Lib.hid (HEr.out.keep kp.below)
      have HB3 := Lib.hid (HBr.out.trans kp.below)
      clear hnb kp
      go_wp2
      go_roundw
      case rel => exact ⟨j + 1, by omega, by go_num, by simpa using HNB3.out, HE3.out, HB3.out⟩
      case measure => simp [intOf]; omega
    · obtain rfl : j = N := by omega
      clear hjN hj
      go_wp2_with fail
      cases hk : kindB kind
      · refine (nb_new_bad HNB.out hk HEr.out).mono ?_
        rintro e w3 ⟨rfl, hnb, kp⟩
        have HNB3 := Lib.hid hnb
        have HE3 := Lib.hid (HEr.out.keep kp.below)
        have HB3 := Lib.hid (HBr.out.trans kp.below)
        have hk' : kind < 1 ∨ (¬ kind < 1 ∧ 3 < kind) := by simp [kindB] at hk; omega
        have hcode : (codeOf 3 == (103 : Int)) = true := by decide
        clear hnb kp
        rcases hk' with h1 | ⟨h1, h3⟩
        all_goals
          have hd : decide (kind < 1) = false ∨ kind < 1 := by by_cases h : kind < 1; exact .inr h; exact .inl (decide_eq_false h)
          go_wp2_with fail
          refine (is_err (g := 3) (by decide) 103 _ HE3.out).mono ?_
          rintro e w4 ⟨rfl, hb4⟩
          rw [hcode]
          have HNB4 := Lib.hid (HNB3.out.below hb4).1
          have HB4 := Lib.hid (HB3.out.trans (hb4.mono HE3.out.size))
          clear hb4
          go_wp2_with fail
          refine (nb_len HNB4.out).mono ?_
          rintro e w5 ⟨rfl, rfl⟩
          go_wp2
          go_ret
          exact ⟨by simp, HB4.out⟩
      · have hk' : kind = 1 ∨ kind = 2 ∨ kind = 3 := by simp [kindB] at hk; omega
        have hid : wrap64 ((j : Int) + 1) = (j : Int) + 1 := by unfold wrap64; omega
        refine (nb_new HNB.out hk (by omega) (by omega) (seqN_next j) HEr.out).mono ?_
        rintro e w3 ⟨rfl, hnb, kp⟩
        have HNB3 := Lib.hid hnb
        have HE3 := Lib.hid (HEr.out.keep kp.below)
        have HB3 := Lib.hid (HBr.out.trans kp.below)
        clear hnb kp HNB HEr HBr
        rcases hk' with rfl | rfl | rfl
        · go_wp2_with fail
          refine (nb_get HNB3.out (k := (j : Int) + 1) (by omega)).mono ?_
          rintro e w4 ⟨rfl, hnb, kp⟩
          have hl := (hnb.loc (.cells #[.int .i64 ((j : Int) + 1), .int .i64 1, .int .i64 0, .int .i64 0, .string s, .int .i64 0] 44))
          simp only [upd, if_pos, Option.getD_some, Option.isSome_some, newNd, encN]
          have HNB4 := Lib.hid hl
          have HE4 := Lib.hid ((HE3.out.keep kp.below).alloc (.cells #[.int .i64 ((j : Int) + 1), .int .i64 1, .int .i64 0, .int .i64 0, .string s, .int .i64 0] 44))
          have HB4 := Lib.hid ((HB3.out.trans kp.below).trans ((bl_alloc (Below.refl _ _) (.cells #[.int .i64 ((j : Int) + 1), .int .i64 1, .int .i64 0, .int .i64 0, .string s, .int .i64 0] 44)).mono hnb.1))
          clear hnb kp hl
          go_wp2_with fail
          by_cases hv : validB ⟨(j : Int) + 1, 1, 0, 0, s, 0⟩ = true
          · refine (nb_put HNB4.out ⟨(j : Int) + 1, 1, 0, 0, s, 0⟩ hv (by simp [upd]) HE4.out).mono ?_
            rintro e w5 ⟨rfl, hnb, kp⟩
            have HNB5 := Lib.hid hnb
            have HE5 := Lib.hid (HE4.out.keep kp.below)
            have HB5 := Lib.hid (HB4.out.trans kp.below)
            clear hnb kp
            have hs0 : s.toList = [] := by
              have := hv
              simp [validB] at this
              exact this.2.2.1
            go_wp2_with fail
            refine (nb_get HNB5.out (k := (j : Int) + 1) (by omega)).mono ?_
            rintro e w6 ⟨rfl, hnb, kp⟩
            simp only [upd, if_pos, Option.getD_some, Option.isSome_some, encN]
            have HB6 := Lib.hid (HB5.out.trans kp.below)
            have hsz := hnb.1
            clear hnb kp
            go_wp2
            go_ret
            exact ⟨by simp, HB6.out.trans ((bl_alloc (Below.refl _ _) _).mono hsz)⟩
          · refine (nb_put_bad HNB4.out ⟨(j : Int) + 1, 1, 0, 0, s, 0⟩ (by simpa using hv) HE4.out).mono ?_
            rintro e w5 ⟨rfl, hnb, kp⟩
            have HNB5 := Lib.hid hnb
            have HE5 := Lib.hid (HE4.out.keep kp.below)
            have HB5 := Lib.hid (HB4.out.trans kp.below)
            clear hnb kp
            have hs0 : ¬ s.toList = [] := by
              intro h
              apply hv
              have h0 : s.size = 0 := size_of_noText h
              simp [validB, idB, kindB, h, h0]
              omega
            go_wp2_with fail
            refine (nb_get HNB5.out (k := (j : Int) + 1) (by omega)).mono ?_
            rintro e w6 ⟨rfl, hnb, kp⟩
            simp only [upd, if_pos, Option.getD_some, Option.isSome_some, encN]
            have HB6 := Lib.hid (HB5.out.trans kp.below)
            have hsz := hnb.1
            clear hnb kp
            go_wp2
            go_ret
            exact ⟨by simp; exact hs0, HB6.out.trans ((bl_alloc (Below.refl _ _) _).mono hsz)⟩
        · go_wp2_with fail
          refine (nb_get HNB3.out (k := (j : Int) + 1) (by omega)).mono ?_
          rintro e w4 ⟨rfl, hnb, kp⟩
          have hl := (hnb.loc (.cells #[.int .i64 ((j : Int) + 1), .int .i64 2, .int .i64 0, .int .i64 0, .string s, .int .i64 1] 44))
          simp only [upd, if_pos, Option.getD_some, Option.isSome_some, newNd, encN]
          have HNB4 := Lib.hid hl
          have HE4 := Lib.hid ((HE3.out.keep kp.below).alloc (.cells #[.int .i64 ((j : Int) + 1), .int .i64 2, .int .i64 0, .int .i64 0, .string s, .int .i64 1] 44))
          have HB4 := Lib.hid ((HB3.out.trans kp.below).trans ((bl_alloc (Below.refl _ _) (.cells #[.int .i64 ((j : Int) + 1), .int .i64 2, .int .i64 0, .int .i64 0, .string s, .int .i64 1] 44)).mono hnb.1))
          clear hnb kp hl
          go_wp2_with fail
          by_cases hv : validB ⟨(j : Int) + 1, 2, 0, 0, s, 1⟩ = true
          · refine (nb_put HNB4.out ⟨(j : Int) + 1, 2, 0, 0, s, 1⟩ hv (by simp [upd]) HE4.out).mono ?_
            rintro e w5 ⟨rfl, hnb, kp⟩
            have HNB5 := Lib.hid hnb
            have HE5 := Lib.hid (HE4.out.keep kp.below)
            have HB5 := Lib.hid (HB4.out.trans kp.below)
            clear hnb kp
            have hs0 : s.toList = [] := by
              have := hv
              simp [validB] at this
              exact this.2.2.1
            go_wp2_with fail
            refine (nb_get HNB5.out (k := (j : Int) + 1) (by omega)).mono ?_
            rintro e w6 ⟨rfl, hnb, kp⟩
            simp only [upd, if_pos, Option.getD_some, Option.isSome_some, encN]
            have HB6 := Lib.hid (HB5.out.trans kp.below)
            have hsz := hnb.1
            clear hnb kp
            go_wp2
            go_ret
            exact ⟨by simp, HB6.out.trans ((bl_alloc (Below.refl _ _) _).mono hsz)⟩
          · refine (nb_put_bad HNB4.out ⟨(j : Int) + 1, 2, 0, 0, s, 1⟩ (by simpa using hv) HE4.out).mono ?_
            rintro e w5 ⟨rfl, hnb, kp⟩
            have HNB5 := Lib.hid hnb
            have HE5 := Lib.hid (HE4.out.keep kp.below)
            have HB5 := Lib.hid (HB4.out.trans kp.below)
            clear hnb kp
            have hs0 : ¬ s.toList = [] := by
              intro h
              apply hv
              have h0 : s.size = 0 := size_of_noText h
              simp [validB, idB, kindB, h, h0]
              omega
            go_wp2_with fail
            refine (nb_get HNB5.out (k := (j : Int) + 1) (by omega)).mono ?_
            rintro e w6 ⟨rfl, hnb, kp⟩
            simp only [upd, if_pos, Option.getD_some, Option.isSome_some, encN]
            have HB6 := Lib.hid (HB5.out.trans kp.below)
            have hsz := hnb.1
            clear hnb kp
            go_wp2
            go_ret
            exact ⟨by simp; exact hs0, HB6.out.trans ((bl_alloc (Below.refl _ _) _).mono hsz)⟩
        · go_wp2_with fail
          refine (nb_get HNB3.out (k := (j : Int) + 1) (by omega)).mono ?_
          rintro e w4 ⟨rfl, hnb, kp⟩
          have hl := (hnb.loc (.cells #[.int .i64 ((j : Int) + 1), .int .i64 3, .int .i64 0, .int .i64 0, .string s, .int .i64 0] 44))
          simp only [upd, if_pos, Option.getD_some, Option.isSome_some, newNd, encN]
          have HNB4 := Lib.hid hl
          have HE4 := Lib.hid ((HE3.out.keep kp.below).alloc (.cells #[.int .i64 ((j : Int) + 1), .int .i64 3, .int .i64 0, .int .i64 0, .string s, .int .i64 0] 44))
          have HB4 := Lib.hid ((HB3.out.trans kp.below).trans ((bl_alloc (Below.refl _ _) (.cells #[.int .i64 ((j : Int) + 1), .int .i64 3, .int .i64 0, .int .i64 0, .string s, .int .i64 0] 44)).mono hnb.1))
          clear hnb kp hl
          go_wp2_with fail
          by_cases hv : validB ⟨(j : Int) + 1, 3, 0, 0, s, 0⟩ = true
          · refine (nb_put HNB4.out ⟨(j : Int) + 1, 3, 0, 0, s, 0⟩ hv (by simp [upd]) HE4.out).mono ?_
            rintro e w5 ⟨rfl, hnb, kp⟩
            have HNB5 := Lib.hid hnb
            have HE5 := Lib.hid (HE4.out.keep kp.below)
            have HB5 := Lib.hid (HB4.out.trans kp.below)
            clear hnb kp
            have hs0 : ¬ s.toList = [] ∧ s.size ≤ 88 := by
              have := hv
              simp [validB] at this
              exact ⟨this.2.2.1, this.2.2.2⟩
            go_wp2_with fail
            refine (nb_get HNB5.out (k := (j : Int) + 1) (by omega)).mono ?_
            rintro e w6 ⟨rfl, hnb, kp⟩
            simp only [upd, if_pos, Option.getD_some, Option.isSome_some, encN]
            have HB6 := Lib.hid (HB5.out.trans kp.below)
            have hsz := hnb.1
            clear hnb kp
            go_wp2
            go_ret
            exact ⟨by simp, HB6.out.trans ((bl_alloc (Below.refl _ _) _).mono hsz)⟩
          · refine (nb_put_bad HNB4.out ⟨(j : Int) + 1, 3, 0, 0, s, 0⟩ (by simpa using hv) HE4.out).mono ?_
            rintro e w5 ⟨rfl, hnb, kp⟩
            have HNB5 := Lib.hid hnb
            have HE5 := Lib.hid (HE4.out.keep kp.below)
            have HB5 := Lib.hid (HB4.out.trans kp.below)
            clear hnb kp
            have hs0 : s.toList = [] ∨ (¬ s.toList = [] ∧ 88 < s.size) := by
              by_cases h : s.toList = []
              · exact .inl h
              · refine .inr ⟨h, Classical.byContradiction fun h2 => hv ?_⟩
                simp [validB, idB, kindB, h]
                omega
            rcases hs0 with h0 | ⟨h0, h1⟩
            · go_wp2_with fail
              refine (nb_get HNB5.out (k := (j : Int) + 1) (by omega)).mono ?_
              rintro e w6 ⟨rfl, hnb, kp⟩
              simp only [upd, if_pos, Option.getD_some, Option.isSome_some, encN]
              have HB6 := Lib.hid (HB5.out.trans kp.below)
              have hsz := hnb.1
              clear hnb kp
              go_wp2
              go_ret
              exact ⟨by simp [h0], HB6.out.trans ((bl_alloc (Below.refl _ _) _).mono hsz)⟩
            · have h2 : ¬ ((s.size : Int) ≤ 88) := by omega
              go_wp2_with fail
              refine (nb_get HNB5.out (k := (j : Int) + 1) (by omega)).mono ?_
              rintro e w6 ⟨rfl, hnb, kp⟩
              simp only [upd, if_pos, Option.getD_some, Option.isSome_some, encN]
              have HB6 := Lib.hid (HB5.out.trans kp.below)
              have hsz := hnb.1
              clear hnb kp
              go_wp2
              go_ret
              exact ⟨by simp; try omega, HB6.out.trans ((bl_alloc (Below.refl _ _) _).mono hsz)⟩
end Go.Proofs.YthominkfjfnkbaaDoor
