/- The walk of the law OpenLeast. -/
import Derived.Test.YthominkfjfnkbaaDoorOpenLaw
import Derived.Test.YthominkfjfnkbaaDoorNodeLaw
namespace Go.Proofs.YthominkfjfnkbaaDoor
open Go Go.RowKit
set_option maxRecDepth 100000
set_option linter.unusedSimpArgs false
attribute [local go_sem] giv
variable {E : Nat → Addr} {B : Nat}

/-- The first m that were opened. -/
def seqO (m : Nat) : Int → Option (Int × Int) := fun k => if 0 ≤ k ∧ k < m then some (k + 3, 0) else none
theorem seqO_zero : seqO 0 = fun _ => none := by funext k; simp only [seqO]; rw [if_neg (by omega)]
theorem seqO_in {m : Nat} {k : Int} (h : 0 ≤ k ∧ k < m) : seqO m k = some (k + 3, 0) := by simp only [seqO]; rw [if_pos h]
theorem seqO_out {m : Nat} {k : Int} (h : ¬ (0 ≤ k ∧ k < m)) : seqO m k = none := by simp only [seqO]; rw [if_neg h]
theorem seqO_succ (j : Nat) : upd (seqO j) (j : Int) ((j : Int) + 3, 0) = seqO (j + 1) := by
  funext k
  simp only [upd, seqO]
  by_cases h : k = (j : Int)
  · subst h
    rw [if_pos rfl, if_pos (by omega)]
  · rw [if_neg h]
    by_cases h1 : 0 ≤ k ∧ k < j
    · rw [if_pos h1, if_pos (by omega)]
    · rw [if_neg h1, if_neg (by omega)]

set_option maxHeartbeats 2000000 in
theorem least_any (n gap : Int) (w : World) (hE : Env E B w) :
    Calls Tryd.prog 8 #[.int .i64 n, .int .i64 gap] w fun e w' => e = .returned (.bool true) ∧ Below B w w' := by
  have hB := hE.size
  have HE := Lib.hid hE
  clear hE
  go_enter Tryd.func8, Tryd.ntmps8
  go_wp2_with fail
  refine (first20 _).mono ?_
  rintro e w1 ⟨rfl, hb1⟩
  have HE1 := Lib.hid (HE.out.below hb1)
  have HB1 := Lib.hid (hb1.mono hB)
  clear hb1 HE
  go_wp2_with fail
  refine (number_any n 20 (by omega) _).mono ?_
  rintro e w2 ⟨rfl, rfl⟩
  obtain ⟨N, hN⟩ : ∃ N : Nat, n % 20 = N := ⟨(n % 20).toNat, by omega⟩
  have hN20 : N < 20 := by omega
  rw [hN]
  clear hN
  go_wp2_with fail
  have hN0 : FB B [] (w1.alloc (.cells #[.map none] 25)) w1.heap.size (seqO 0) 0 := by rw [seqO_zero]; exact FB.new w1 HE1.out.size (by simp)
  have HN0 := Lib.hid hN0
  have HE2 := Lib.hid (HE1.out.alloc (.cells #[.map none] 25))
  have HB2 := Lib.hid (HB1.out.trans ((bl_alloc (Below.refl w1.heap.size w1) (.cells #[.map none] 25)).mono HE1.out.size))
  clear hN0 HE1 HB1
  generalize w1.heap.size = bt at *
  go_loopw [7, 8, 9] (fun v _ _ wr => ∃ j : Nat, j ≤ N ∧ v = .int .i64 (j : Int) ∧ FB B [] wr bt (seqO (min j 16)) (min j 16) ∧ Env E B wr ∧ Below B w wr) (fun v _ _ _ => N - (intOf v).toNat)
  case atStart => exact ⟨0, Nat.zero_le _, rfl, HN0.out, HE2.out, HB2.out⟩
  case round =>
    obtain ⟨j, hj, rfl, hnb, he, hb⟩ := hrel
    have HNB := Lib.hid hnb
    have HEr := Lib.hid he
    have HBr := Lib.hid hb
    clear hnb he hb
    by_cases hjN : j < N
    · by_cases h5 : j < 16
      · have hm : min j 16 = j := by omega
        have hm1 : min (j + 1) 16 = j + 1 := by omega
        rw [hm] at HNB
        have HM := Lib.hid hm1
        clear hm hm1
        go_wp2_with fail
        refine (fb_open HNB.out ((j : Int) + 3) (j : Int) (by omega) (by omega) (fun i h0 h1 => by rw [seqO_in ⟨h0, h1⟩]; simp) (seqO_out (by omega))).mono ?_
        rintro e w3 ⟨rfl, hnb, kp⟩
        rw [seqO_succ] at hnb
        have HNB3 := Lib.hid hnb
        have HE3 := Lib.hid (HEr.out.keep kp.below)
        have HB3 := Lib.hid (HBr.out.trans kp.below)
        clear hnb kp
        go_wp2
        go_roundw
        case rel => exact ⟨j + 1, by omega, by go_num, by rw [HM.out]; exact HNB3.out, HE3.out, HB3.out⟩
        case measure => simp [intOf]; omega
      · have hm : min j 16 = 16 := by omega
        have hm1 : min (j + 1) 16 = 16 := by omega
        rw [hm] at HNB
        have HM := Lib.hid hm1
        have hcode : (codeOf 0 == (120 : Int)) = true := by decide
        clear hm hm1
        go_wp2_with fail
        refine (fb_full HNB.out ((j : Int) + 3) (fun i h0 h1 => by rw [seqO_in ⟨h0, h1⟩]; simp) HEr.out).mono ?_
        rintro e w3 ⟨rfl, hnb, kp⟩
        have HNB3 := Lib.hid hnb
        have HE3 := Lib.hid (HEr.out.keep kp.below)
        have HB3 := Lib.hid (HBr.out.trans kp.below)
        clear hnb kp
        go_wp2_with fail
        refine (is_err (g := 0) (by decide) 120 _ HE3.out).mono ?_
        rintro e w4 ⟨rfl, hb4⟩
        rw [hcode]
        have HNB4 := Lib.hid (HNB3.out.below hb4).1
        have HE4 := Lib.hid (HE3.out.below hb4)
        have HB4 := Lib.hid (HB3.out.trans (hb4.mono HE3.out.size))
        clear hb4
        go_wp2
        go_roundw
        case rel => exact ⟨j + 1, by omega, by go_num, by rw [HM.out]; exact HNB4.out, HE4.out, HB4.out⟩
        case measure => simp [intOf]; omega
    · obtain rfl : j = N := by omega
      clear hjN hj HN0 HE2 HB2
      by_cases h0 : j = 0
      · subst h0
        go_wp2_with fail
        refine (fb_all HNB.out (by omega)).mono ?_
        rintro e w5 ⟨⟨v, ks, rfl, hv, _, hl⟩, hnb, kp⟩
        have HB5 := Lib.hid (HBr.out.trans kp.below)
        obtain rfl : ks = [] := List.eq_nil_of_length_eq_zero (by omega)
        rcases hv with ⟨rfl, _⟩ | ⟨h, cap, rfl, _⟩
        all_goals
          clear hnb kp
          go_wp2
          go_ret
          exact ⟨by simp, HB5.out⟩
      · have hj1 : ((j : Int) == 0) = false := by rw [beq_eq_false_iff_ne]; omega
        obtain ⟨m, hm⟩ : ∃ m, m = min j 16 := ⟨_, rfl⟩
        rw [← hm] at HNB
        have hm1 : 1 ≤ m := by omega
        have hm5 : m ≤ 16 := by omega
        have hcase : ((j : Int) ≤ 16 ∧ m = j) ∨ (¬ (j : Int) ≤ 16 ∧ m = 16) := by omega
        obtain ⟨k, hk⟩ : ∃ k : Nat, gap % (m : Int) = k := ⟨(gap % (m : Int)).toNat, by have := Int.emod_nonneg gap (b := (m : Int)) (by omega); omega⟩
        have hkm : k < m := by have := Int.emod_lt_of_pos gap (b := (m : Int)) (by omega); omega
        have hk3 : ((k : Int) + 3 == 99) = false := by rw [beq_eq_false_iff_ne]; omega
        have HK := Lib.hid hk
        have hgk : seqO m (k : Int) = some ((k : Int) + 3, 0) := seqO_in (by omega)
        have hg2 : ∀ i : Int, 0 ≤ i → i < k → del (seqO m) (k : Int) i ≠ none := fun i h0 h1 => by simp only [del]; rw [if_neg (by omega), seqO_in (by omega)]; simp
        have hg3 : del (seqO m) (k : Int) (k : Int) = none := by simp [del]
        have hh1 : ∃ i p, upd (del (seqO m) (k : Int)) (k : Int) (99, 0) i = some (99, p) := ⟨k, 0, by simp [upd]⟩
        have hh2 : ¬ ∃ i p, upd (del (seqO m) (k : Int)) (k : Int) (99, 0) i = some ((k : Int) + 3, p) := by
          rintro ⟨i, p, hip⟩
          simp only [upd, del] at hip
          by_cases hik : i = k
          · rw [if_pos hik] at hip
            injection hip with hip
            injection hip with hip
            omega
          · rw [if_neg hik, if_neg hik] at hip
            simp only [seqO] at hip
            split at hip
            · injection hip with hip
              injection hip with hip
              omega
            · cases hip
        have HGK := Lib.hid hgk
        have HG2 := Lib.hid hg2
        have HG3 := Lib.hid hg3
        have HH1 := Lib.hid hh1
        have HH2 := Lib.hid hh2
        clear hk hm hgk hg2 hg3 hh1 hh2
        have hgj : gap % min (j : Int) 16 = k := by
          rw [← HK.out]
          congr 1
          omega
        have HGJ := Lib.hid hgj
        clear hgj hcase
        go_wp2_with fail
        refine (number_any gap _ (by omega) _).mono ?_
        rintro e w3 ⟨rfl, rfl⟩
        rw [HGJ.out]
        go_wp2_with fail
        refine (fb_close HNB.out (k := (k : Int)) (by omega) HGK.out).mono ?_
        rintro e w4 ⟨rfl, hnb, kp⟩
        have hl := hnb.loc (.cells #[.int .i64 ((k : Int) + 3), .int .i64 0] 33)
        have HNB4 := Lib.hid hl
        have HE4 := Lib.hid ((HEr.out.keep kp.below).alloc (.cells #[.int .i64 ((k : Int) + 3), .int .i64 0] 33))
        have HB4 := Lib.hid ((HBr.out.trans kp.below).trans ((bl_alloc (Below.refl _ _) (.cells #[.int .i64 ((k : Int) + 3), .int .i64 0] 33)).mono hnb.1))
        clear hnb kp hl
        go_wp2_with fail
        refine (fb_open HNB4.out 99 (k : Int) (by omega) (by omega) HG2.out HG3.out).mono ?_
        rintro e w5 ⟨rfl, hnb, kp⟩
        have c0 : w5.cell? ⟨w4.heap.size, 0, none⟩ = some (.int .i64 ((k : Int) + 3)) := by rw [kp.cell (List.mem_cons_self ..)]; simp
        have HNB5 := Lib.hid hnb
        have HB5 := Lib.hid (HB4.out.trans kp.below)
        clear hnb kp
        go_wp2_with fail
        refine (fb_holds HNB5.out 99).mono ?_
        rintro e w6 ⟨⟨x, rfl, hx⟩, hnb, kp⟩
        obtain rfl : x = true := hx.2 HH1.out
        have HNB6 := Lib.hid hnb
        have HB6 := Lib.hid (HB5.out.trans kp.below)
        clear hnb kp hx
        go_wp2_with fail
        refine (fb_holds HNB6.out ((k : Int) + 3)).mono ?_
        rintro e w7 ⟨⟨x, rfl, hx⟩, hnb, kp⟩
        obtain rfl : x = false := by
          cases x with
          | false => rfl
          | true => exact absurd (hx.1 rfl) HH2.out
        have HB7 := Lib.hid (HB6.out.trans kp.below)
        clear hnb kp hx
        go_wp2
        go_ret
        exact ⟨by simp, HB7.out⟩
end Go.Proofs.YthominkfjfnkbaaDoor
