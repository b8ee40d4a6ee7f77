/- The walk of the law NodeMany. -/
import Derived.Test.YthominkfjfnkbaaDoorNodeDel
namespace Go.Proofs.YthominkfjfnkbaaDoor
open Go Go.RowKit
set_option maxRecDepth 100000
set_option linter.unusedSimpArgs false
attribute [local go_sem] giv
variable {E : Nat → Addr} {B : Nat}

/-- The first j files. -/
def seqF (j : Nat) : Int → Option Nd := fun k => if 1 ≤ k ∧ k ≤ j then some (newNd k 1) else none
theorem seqF_zero : seqF 0 = fun _ => none := by funext k; simp only [seqF]; rw [if_neg (by omega)]
theorem seqF_next (j : Nat) : seqF j ((j : Int) + 1) = none := by simp only [seqF]; rw [if_neg (by omega)]
theorem seqF_far (j : Nat) (k : Int) (h : (j : Int) < k) : seqF j k = none := by simp only [seqF]; rw [if_neg (by omega)]
theorem seqF_one (j : Nat) (h : 1 ≤ j) : seqF j 1 = some (newNd 1 1) := by simp only [seqF]; rw [if_pos (by omega)]
theorem seqF_succ (j : Nat) : upd (seqF j) ((j : Int) + 1) (newNd ((j : Int) + 1) 1) = seqF (j + 1) := by
  funext k
  simp only [upd, seqF]
  by_cases h : k = (j : Int) + 1
  · subst h
    rw [if_pos rfl, if_pos (by omega)]
  · rw [if_neg h]
    by_cases h1 : 1 ≤ k ∧ k ≤ j
    · rw [if_pos h1, if_pos (by omega)]
    · rw [if_neg h1, if_neg (by omega)]

set_option maxHeartbeats 1000000 in
theorem many_any (n : Int) (w : World) (hE : Env E B w) :
    Calls Tryd.prog 5 #[.int .i64 n] w fun e w' => e = .returned (.bool true) ∧ Below B w w' := by
  have hB := hE.size
  have HE := Lib.hid hE
  clear hE
  go_enter Tryd.func5, Tryd.ntmps5
  go_wp2_with fail
  refine (first15 _ HE.out).mono ?_
  rintro e w1 ⟨rfl, hb1⟩
  have HE1 := Lib.hid (HE.out.below hb1)
  have HB1 := Lib.hid (hb1.mono hB)
  clear hb1 HE
  go_wp2_with fail
  refine (number_any n 600 (by omega) _).mono ?_
  rintro e w2 ⟨rfl, rfl⟩
  obtain ⟨N, hN⟩ : ∃ N : Nat, n % 600 = N := ⟨(n % 600).toNat, by omega⟩
  have hN20 : N < 600 := by omega
  rw [hN]
  clear hN
  go_wp2_with fail
  have hN0 : NB B [] (w1.alloc (.cells #[.map none, .int .i64 0] 41)) w1.heap.size (seqF 0) 0 0 := by rw [seqF_zero]; exact NB.new w1 HE1.out.size (by simp)
  have HN0 := Lib.hid hN0
  have HE2 := Lib.hid (HE1.out.alloc (.cells #[.map none, .int .i64 0] 41))
  have HB2 := Lib.hid (HB1.out.trans ((bl_alloc (Below.refl w1.heap.size w1) (.cells #[.map none, .int .i64 0] 41)).mono HE1.out.size))
  clear hN0 HE1 HB1
  generalize w1.heap.size = bt at *
  go_loopw [5, 6, 7] (fun v _ _ wr => ∃ j : Nat, j ≤ N ∧ v = .int .i64 ((j : Int) + 1) ∧ NB B [] wr bt (seqF (min j 512)) (min j 512) ((min j 512 : Nat) : Int) ∧ Env E B wr ∧ Below B w wr) (fun v _ _ _ => N + 1 - (intOf v).toNat)
  case atStart => exact ⟨0, Nat.zero_le _, rfl, by simpa using HN0.out, HE2.out, HB2.out⟩
  case round =>
    obtain ⟨j, hj, rfl, hnb, he, hb⟩ := hrel
    have HNB := Lib.hid hnb
    have HEr := Lib.hid he
    have HBr := Lib.hid hb
    clear hnb he hb
    have kd : kindB 1 = true := by decide
    by_cases hjN : j < N
    · by_cases h5 : j < 512
      · have hm : min j 512 = j := by omega
        have hm1 : min (j + 1) 512 = j + 1 := by omega
        rw [hm] at HNB
        have HM := Lib.hid hm1
        clear hm hm1
        go_wp2_with fail
        refine (nb_new HNB.out (k := 1) kd (by omega) (by omega) (seqF_next j) HEr.out).mono ?_
        rintro e w3 ⟨rfl, hnb, kp⟩
        rw [seqF_succ] at hnb
        have HNB3 := Lib.hid hnb
        have HE3 := Lib.hid (HEr.out.keep kp.below)
        have HB3 := Lib.hid (HBr.out.trans kp.below)
        clear hnb kp
        go_wp2
        go_roundw
        case rel => exact ⟨j + 1, by omega, by go_num, by rw [HM.out]; simpa using HNB3.out, HE3.out, HB3.out⟩
        case measure => simp [intOf]; omega
      · have hm : min j 512 = 512 := by omega
        have hm1 : min (j + 1) 512 = 512 := by omega
        rw [hm] at HNB
        have HM := Lib.hid hm1
        have hcode : (codeOf 4 == (104 : Int)) = true := by decide
        clear hm hm1
        go_wp2_with fail
        refine (nb_new_full HNB.out (k := 1) kd (.inl (Nat.le_refl _)) HEr.out).mono ?_
        rintro e w3 ⟨rfl, hnb, kp⟩
        have HNB3 := Lib.hid hnb
        have HE3 := Lib.hid (HEr.out.keep kp.below)
        have HB3 := Lib.hid (HBr.out.trans kp.below)
        clear hnb kp
        go_wp2_with fail
        refine (is_err (g := 4) (by decide) 104 _ HE3.out).mono ?_
        rintro e w4 ⟨rfl, hb4⟩
        rw [hcode]
        have HNB4 := Lib.hid (HNB3.out.below hb4).1
        have HE4 := Lib.hid (HE3.out.below hb4)
        have HB4 := Lib.hid (HB3.out.trans (hb4.mono HE3.out.size))
        clear hb4
        go_wp2
        go_roundw
        case rel => exact ⟨j + 1, by omega, by go_num, by rw [HM.out]; exact HNB4.out, HE4.out, HB4.out⟩
        case measure => simp [intOf]; omega
    · obtain rfl : j = N := by omega
      clear hjN hj HN0 HE2 HB2
      by_cases h0 : j = 0
      · subst h0
        go_wp2_with fail
        refine (nb_len HNB.out).mono ?_
        rintro e w5 ⟨rfl, rfl⟩
        go_wp2
        go_ret
        exact ⟨by simp, HBr.out⟩
      · have hj1 : ((j : Int) == 0) = false := by rw [beq_eq_false_iff_ne]; omega
        obtain ⟨m, hm⟩ : ∃ m, m = min j 512 := ⟨_, rfl⟩
        rw [← hm] at HNB
        have hm1 : 1 ≤ m := by omega
        have hm5 : m ≤ 512 := by omega
        have HM := Lib.hid hm
        clear hm
        go_wp2_with fail
        refine (nb_get HNB.out (k := 1) (by omega)).mono ?_
        rintro e w4 ⟨rfl, hnb, kp⟩
        rw [seqF_one m hm1]
        simp only [Option.getD_some, Option.isSome_some, newNd, encN]
        have hl := hnb.loc (.cells #[.int .i64 1, .int .i64 1, .int .i64 3, .int .i64 0, .string { data := #[] }, .int .i64 0] 44)
        have HNB4 := Lib.hid hl
        have HE4 := Lib.hid ((HEr.out.keep kp.below).alloc (.cells #[.int .i64 1, .int .i64 1, .int .i64 3, .int .i64 0, .string { data := #[] }, .int .i64 0] 44))
        have HB4 := Lib.hid ((HBr.out.trans kp.below).trans ((bl_alloc (Below.refl _ _) (.cells #[.int .i64 1, .int .i64 1, .int .i64 3, .int .i64 0, .string { data := #[] }, .int .i64 0] 44)).mono hnb.1))
        clear hnb kp hl HNB HEr HBr
        go_wp2_with fail
        refine (nb_put HNB4.out ⟨1, 1, 3, 0, { data := #[] }, 0⟩ (by simp [validB, idB, kindB]; decide) (by rw [seqF_one m hm1]; simp) HE4.out).mono ?_
        rintro e w5 ⟨rfl, hnb, kp⟩
        rw [seqF_one m hm1] at hnb
        simp only [Option.isSome_some, if_true] at hnb
        have hmx : max (m : Int) 1 = m := by omega
        rw [hmx] at hnb
        have HNB5 := Lib.hid hnb
        have HE5 := Lib.hid (HE4.out.keep kp.below)
        have HB5 := Lib.hid (HB4.out.trans kp.below)
        clear hnb kp HNB4 HE4 HB4 hmx
        have hg2 : upd (seqF m) 1 ⟨1, 1, 3, 0, { data := #[] }, 0⟩ 2000 = none := by simp only [upd]; rw [if_neg (by omega)]; exact seqF_far m 2000 (by omega)
        have hg1 : (upd (seqF m) 1 ⟨1, 1, 3, 0, { data := #[] }, 0⟩ 1).isSome = true := by simp [upd]
        have HG1 := Lib.hid hg1
        have hgl : ∀ k : Int, (m : Int) < k → upd (seqF m) 1 ⟨1, 1, 3, 0, { data := #[] }, 0⟩ k = none := fun k hk => by simp only [upd]; rw [if_neg (by omega)]; exact seqF_far m k hk
        have HGL := Lib.hid hgl
        clear hgl hg1
        generalize upd (seqF m) 1 ⟨1, 1, 3, 0, { data := #[] }, 0⟩ = g at *
        by_cases h5 : m < 512
        · have hj5 : decide ((j : Int) < 512) = true := by simp; have := HM.out; omega
          have hjm : m = j := by have := HM.out; omega
          have HJM := Lib.hid hjm
          have hle : (j : Int) ≤ 512 := by omega
          clear hjm
          go_wp2_with fail
          refine (nb_put HNB5.out ⟨2000, 1, 0, 0, { data := #[] }, 0⟩ (by simp [validB, idB, kindB]; decide) (fun _ => h5) HE5.out).mono ?_
          rintro e w6 ⟨rfl, hnb, kp⟩
          rw [hg2] at hnb
          simp only [Option.isSome_none, Bool.false_eq_true, if_false] at hnb
          have hmx : max (m : Int) 2000 = 2000 := by omega
          rw [hmx] at hnb
          have HNB6 := Lib.hid hnb
          have HE6 := Lib.hid (HE5.out.keep kp.below)
          have HB6 := Lib.hid (HB5.out.trans kp.below)
          clear hnb kp hmx hg2
          have hg1' : (upd g 2000 ⟨2000, 1, 0, 0, { data := #[] }, 0⟩ 1).isSome = true := by simp only [upd]; rw [if_neg (by omega)]; exact HG1.out
          have HG1' := Lib.hid hg1'
          clear hg1'
          go_wp2_with fail
          refine (nb_del HNB6.out (k := 1) (by omega)).mono ?_
          rintro e w7 ⟨rfl, hnb, kp⟩
          rw [HG1'.out] at hnb ⊢
          simp only [if_true] at hnb
          have HNB7 := Lib.hid hnb
          have HE7 := Lib.hid (HE6.out.keep kp.below)
          have HB7 := Lib.hid (HB6.out.trans kp.below)
          clear hnb kp
          go_wp2_with fail
          refine (nb_new HNB7.out (k := 1) kd (by omega) (by omega) (by simp only [del, upd]; rw [if_neg (by omega), if_neg (by omega)]; exact HGL.out _ (by omega)) HE7.out).mono ?_
          rintro e w8 ⟨rfl, _, kp⟩
          have HB8 := Lib.hid (HB7.out.trans kp.below)
          clear kp
          go_wp2
          go_ret
          exact ⟨by simp, HB8.out⟩
        · have hj5 : decide ((j : Int) < 512) = false := by simp; have := HM.out; omega
          have hjm : 512 ≤ (j : Int) := by have := HM.out; omega
          have HJM := Lib.hid hjm
          clear hjm
          obtain rfl : m = 512 := by omega
          go_wp2_with fail
          refine (nb_put_many HNB5.out ⟨2000, 1, 0, 0, { data := #[] }, 0⟩ (by simp [validB, idB, kindB]; decide) hg2 (Nat.le_refl _) HE5.out).mono ?_
          rintro e w6 ⟨rfl, hnb, kp⟩
          have HNB6 := Lib.hid hnb
          have HE6 := Lib.hid (HE5.out.keep kp.below)
          have HB6 := Lib.hid (HB5.out.trans kp.below)
          clear hnb kp hg2
          go_wp2_with fail
          refine (nb_del HNB6.out (k := 1) (by omega)).mono ?_
          rintro e w7 ⟨rfl, hnb, kp⟩
          rw [HG1.out] at hnb ⊢
          simp only [if_true] at hnb
          have HNB7 := Lib.hid hnb
          have HE7 := Lib.hid (HE6.out.keep kp.below)
          have HB7 := Lib.hid (HB6.out.trans kp.below)
          clear hnb kp
          go_wp2_with fail
          refine (nb_new HNB7.out (k := 1) kd (by omega) (by omega) (by simp only [del]; rw [if_neg (by omega)]; exact HGL.out _ (by omega)) HE7.out).mono ?_
          rintro e w8 ⟨rfl, _, kp⟩
          have HB8 := Lib.hid (HB7.out.trans kp.below)
          clear kp
          go_wp2
          all_goals
            go_ret
            exact ⟨ret_bool (by have := HJM.out; simp; try omega), HB8.out⟩
end Go.Proofs.YthominkfjfnkbaaDoor
