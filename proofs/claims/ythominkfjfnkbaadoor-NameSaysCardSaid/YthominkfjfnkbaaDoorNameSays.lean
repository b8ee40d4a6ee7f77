/- The walk of the law NameSays. -/
import Derived.Test.YthominkfjfnkbaaDoorNameRef
import Derived.Test.YthominkfjfnkbaaDoorNodeLaw
namespace Go.Proofs.YthominkfjfnkbaaDoor
open Go Go.RowKit
set_option maxRecDepth 100000
set_option linter.unusedSimpArgs false
attribute [local go_sem] giv bin_geq bin_leq bin_gtr
variable {E : Nat → Addr} {B : Nat}

theorem behind_hit {xs : List ByteArray} {s : ByteArray} {j : Nat} (h : j < xs.length) (hl : nmLt s xs[j]) : behindL (xs.take (j + 1)) s = behindL (xs.take j) s ++ [xs[j]] := by
  unfold behindL
  rw [List.take_succ_eq_append_getElem h, List.filter_append]
  congr 1
  rw [List.filter_cons, if_pos (by simpa [nmLt] using hl)]
  rfl
theorem behind_miss {xs : List ByteArray} {s : ByteArray} {j : Nat} (h : j < xs.length) (hl : ¬ nmLt s xs[j]) : behindL (xs.take (j + 1)) s = behindL (xs.take j) s := by
  unfold behindL
  rw [List.take_succ_eq_append_getElem h, List.filter_append, List.filter_cons, if_neg (by simpa [nmLt] using hl)]
  simp
theorem behind_len (xs : List ByteArray) (s : ByteArray) : (behindL xs s).length ≤ xs.length := List.length_filter_le _ _
theorem gtr_val (x s : ByteArray) : (!(Op.bytesLess x.toList s.toList || x.toList == s.toList)) = decide (s.data.toList < x.data.toList) := by
  rw [bytesLess_eq, Lib.toList_data, Lib.toList_data]
  by_cases h : nmLt s x
  · rw [decide_eq_true (show s.data.toList < x.data.toList from h)]
    have h1 : ¬ nmLt x s := fun k => nmLt_irrefl _ (nmLt_trans h k)
    have h2 : ¬ x.data.toList = s.data.toList := fun k => by rw [nm_ext k] at h; exact nmLt_irrefl _ h
    rw [decide_eq_false (show ¬ x.data.toList < s.data.toList from h1)]
    simpa using h2
  · rw [decide_eq_false (show ¬ s.data.toList < x.data.toList from h)]
    rcases nmLt_tri x s with k | k | k
    · rw [decide_eq_true (show x.data.toList < s.data.toList from k)]; rfl
    · subst k; simp
    · exact (h k).elim

set_option maxHeartbeats 4000000 in
theorem namesays_any {w : World} {v : Value} {ks : List ByteArray} (s : ByteArray) (r : RdS w v ks) (hE : Env E B w) :
    Calls Tryd.prog 12 #[.string s, v] w fun e w' => e = .returned (.bool true) ∧ Below w.heap.size w w' := by
  obtain ⟨sp, cap, rfl, hcap⟩ := RdS.val r
  have HE := Lib.hid hE
  have HR := Lib.hid r
  clear hE r
  go_enter Tryd.func12, Tryd.ntmps12
  go_wp2_with fail
  refine (first11 _ HE.out).mono ?_
  rintro e w1 ⟨rfl, hb1⟩
  have HR1 := Lib.hid (RdE.below HR.out hb1)
  have HE1 := Lib.hid (HE.out.below hb1)
  have HB1 := Lib.hid hb1
  clear hb1
  by_cases h80 : (s.size : Int) ≤ 80
  case neg =>
    go_wp2
    go_ret
    exact ⟨rfl, HB1.out⟩
  by_cases h40 : (ks.length : Int) ≤ 40
  case neg =>
    go_wp2
    go_ret
    exact ⟨rfl, HB1.out⟩
  go_wp2_with fail
  go_loop [6] (fun v => ∃ j : Nat, j ≤ ks.length ∧ v = .int .i64 j) (fun v => ks.length - (intOf v).toNat)
  case atStart => exact ⟨0, Nat.zero_le _, rfl⟩
  case round =>
    obtain ⟨j, hj, rfl⟩ := hrel
    by_cases hlt : j < ks.length
    · obtain ⟨h, off, rfl, hh, c0⟩ := RdS.cell HR1.out hlt
      generalize ks[j] = x at *
      by_cases h60 : (x.size : Int) ≤ 60
      · go_wp2
        go_round
        case rel => exact ⟨j + 1, by omega, by go_num⟩
        case measure => simp [intOf]; omega
      · go_wp2
        go_ret
        exact ⟨rfl, HB1.out⟩
    · obtain rfl : j = ks.length := by omega
      clear hlt hj
      go_wp2_with fail
      refine (refsort_any HR1.out (by omega)).mono ?_
      rintro e w2 ⟨⟨u, rfl, hs2⟩, hb2⟩
      have HRI := Lib.hid (nmSort_rise ks)
      have hxl := nmSort_len ks
      have HEQ : Hid (nmSortL ks = nmSortL ks) := Lib.hid rfl
      have HSRT := Lib.hid (fun w' (hb : Below w1.heap.size w1 w') => nsort_any (RdE.below HR1.out hb) (by omega))
      generalize nmSortL ks = xs at *
      have hrx := SlE.rd hs2 (fun _ => rfl)
      obtain ⟨sq, cq, rfl, hcq⟩ := RdS.val hrx
      have HX2 := Lib.hid hrx
      have HB12 := Lib.hid hb2
      have hxs : xs.length ≤ 40 := by omega
      clear hs2 hb2 hrx HEQ
      go_wp2_with fail
      go_loopw [8, 9] (fun v i wr => ∃ j : Nat, j ≤ xs.length ∧ i = .int .i64 j ∧ Hid (SlS wr w2.heap.size v (behindL (xs.take j) s) ∧ Below w2.heap.size w2 wr)) (fun _ i _ => xs.length - (intOf i).toNat)
      case atStart => exact ⟨0, Nat.zero_le _, rfl, Lib.hid ⟨SlE.nil _ _ _ _ _, Below.refl _ _⟩⟩
      case round =>
        obtain ⟨j, hj, rfl, HI⟩ := hrel
        by_cases hlt : j < xs.length
        · obtain ⟨h1, off1, rfl, hh1, c1⟩ := RdS.cell HX2.out hlt
          have d1 : wr.cell? ⟨h1, off1 + j, none⟩ = some (.string xs[j]) := (HI.out.2.cell (p := ⟨h1, off1 + j, none⟩) hh1).trans c1
          have hj0 : (0 : Int) ≤ (j : Int) := by omega
          have hj1 : (j : Int) < (xs.length : Int) := by omega
          have HH := Lib.hid (behind_hit (s := s) hlt)
          have HM := Lib.hid (behind_miss (s := s) hlt)
          have HLN : Hid ((behindL (xs.take j) s).length ≤ 40) := Lib.hid (by have := behind_len (xs.take j) s; rw [List.length_take] at this; omega)
          have hg := gtr_val xs[j] s
          generalize xs[j] = x at *
          have HOWN := Lib.hid (SlE.below HI.out.1 (bl_alloc (Below.refl _ wr) (.cells #[.string x] 9)))
          have HROW : Hid (RdS (wr.alloc (.cells #[.string x] 9)) (.slice (some ⟨wr.heap.size, 0, none⟩) 1 1) [x]) := Lib.hid (RdE.one (x := x) (Row.new wr 9 (encS x)))
          have HBS : Hid (w2.heap.size ≤ (wr.alloc (.cells #[.string x] 9)).heap.size) := Lib.hid (Nat.le_trans HI.out.2.size (by simp))
          clear c1
          by_cases hsx : nmLt s x
          · rw [decide_eq_true (show s.data.toList < x.data.toList from hsx)] at hg
            go_wp2_with (at_builtin; refine wpList_app strT rfl _ _ rfl rfl HOWN.out rfl HROW.out (small_max (by have := HLN.out; simp; omega)) (by have := HLN.out; simp; omega) HBS.out ?_; intro v' w' hs' ht'; have HS' := Lib.hid hs'; have HT' := Lib.hid ht'; clear hs' ht')
            go_roundw
            case rel =>
              refine ⟨j + 1, by omega, by go_num, Lib.hid ⟨?_, ?_⟩⟩
              · rw [HH.out hsx]; exact HS'.out
              · exact (bl_alloc HI.out.2 _).trans (HT'.out.below (B := w2.heap.size) HBS.out (fun x hx => (SlE.lt HOWN.out x hx).1))
            case measure => simp [intOf]; omega
          · rw [decide_eq_false (show ¬ s.data.toList < x.data.toList from hsx)] at hg
            go_wp2
            go_roundw
            case rel => exact ⟨j + 1, by omega, by go_num, Lib.hid ⟨by rw [HM.out hsx]; exact HI.out.1, HI.out.2⟩⟩
            case measure => simp [intOf]; omega
        · obtain rfl : j = xs.length := by omega
          have HEr := Lib.hid ((HE1.out.below HB12.out).below HI.out.2)
          have HX3 := Lib.hid (RdE.below HX2.out HI.out.2)
          have HBH : Hid (SlS wr w2.heap.size u8 (behindL xs s)) := Lib.hid (by have := HI.out.1; rwa [List.take_length] at this)
          have HB3 := Lib.hid (HB12.out.trans (HI.out.2.mono HB12.out.size))
          clear HI hlt hj HE1 HX2 HE
          go_wp2_with fail
          refine (nvalid_any s _ HEr.out).mono ?_
          rintro e w3 ⟨rfl, rfl⟩
          go_wp2_with fail
          refine (refname_any s _).mono ?_
          rintro e w3 ⟨rfl, rfl⟩
          go_wp2_with fail
          refine (is_of (nmCode s) (nmCode s) (nmCode_ok s) _ HEr.out).mono ?_
          rintro e w3 ⟨rfl, hb3⟩
          rw [beq_self_eq_true]
          have HX4 := Lib.hid (RdE.below HX3.out hb3)
          have HBH4 := Lib.hid (SlE.below HBH.out hb3)
          have HB4 := Lib.hid (HB3.out.trans (hb3.mono HB3.out.size))
          clear hb3
          have hspc : ∀ b : Bool, (b == b) = true := by decide
          have hsp1 := hspc (nmSpecial s)
          go_wp2_with fail
          refine (special_any s _).mono ?_
          rintro e w4 ⟨rfl, rfl⟩
          go_wp2_with fail
          refine (refspecial_any s _).mono ?_
          rintro e w4 ⟨rfl, rfl⟩
          go_wp2_with fail
          refine (HSRT.out _ HB4.out).mono ?_
          rintro e w5 ⟨⟨u5, rfl, hs5⟩, hb5⟩
          have HS5 := Lib.hid hs5
          have HX5 := Lib.hid (RdE.below HX4.out hb5)
          have HBH5 := Lib.hid (SlE.below HBH4.out hb5)
          have HB5 := Lib.hid (HB4.out.trans (hb5.mono HB4.out.size))
          clear hs5 hb5
          go_wp2_with fail
          refine (sametexts_any (SlE.rd HS5.out (fun _ => rfl)) HX5.out (by omega)).mono ?_
          rintro e w6 ⟨rfl, hb6⟩
          rw [decide_eq_true rfl]
          have HX6 := Lib.hid (RdE.below HX5.out hb6)
          have HBH6 := Lib.hid (SlE.below HBH5.out hb6)
          have HB6 := Lib.hid (HB5.out.trans (hb6.mono HB5.out.size))
          clear hb6
          go_wp2_with fail
          refine (after_any HX6.out (by omega) HRI.out s).mono ?_
          rintro e w7 ⟨⟨u7, rfl, hs7⟩, hb7⟩
          have HS7 := Lib.hid hs7
          have HBH7 := Lib.hid (SlE.below HBH6.out hb7)
          have HB7 := Lib.hid (HB6.out.trans (hb7.mono HB6.out.size))
          clear hs7 hb7
          go_wp2_with fail
          refine (sametexts_any (SlE.rd HS7.out (fun _ => rfl)) (SlE.rd HBH7.out (fun _ => rfl)) (by have := behind_len xs s; omega)).mono ?_
          rintro e w8 ⟨rfl, hb8⟩
          rw [decide_eq_true rfl]
          have HB8 := Lib.hid (HB7.out.trans (hb8.mono HB7.out.size))
          clear hb8
          go_wp2
          go_ret
          exact ⟨rfl, HB1.out.trans (HB8.out.mono HB1.out.size)⟩
end Go.Proofs.YthominkfjfnkbaaDoor
