/- The walk of the law NameSorts. -/
import Derived.Test.YthominkfjfnkbaaDoorNameSort
import Derived.Test.YthominkfjfnkbaaDoorName
import Derived.Test.YthominkfjfnkbaaDoorNodeLaw
import Derived.IntWalk
namespace Go.Proofs.YthominkfjfnkbaaDoor
open Go Go.RowKit
set_option maxRecDepth 100000
set_option linter.unusedSimpArgs false
theorem str_geq (t : TypeId) (a b : ByteArray) : binOp .geq t (.string a) (.string b) = pure (.bool !(Op.bytesLess a.toList b.toList)) := by simp [binOp, Op.stringOp]
theorem str_leq (t : TypeId) (a b : ByteArray) : binOp .leq t (.string a) (.string b) = pure (.bool (Op.bytesLess a.toList b.toList || a.toList == b.toList)) := by simp [binOp, Op.stringOp]
theorem str_gtr (t : TypeId) (a b : ByteArray) : binOp .gtr t (.string a) (.string b) = pure (.bool !(Op.bytesLess a.toList b.toList || a.toList == b.toList)) := by simp [binOp, Op.stringOp]
attribute [local go_sem] giv str_geq str_leq str_gtr
variable {E : Nat → Addr} {B : Nat}

def isInB (ks : List ByteArray) (m : Nat) (x : ByteArray) : Bool := (ks.take m).any fun y => decide (y = x)
theorem isIn_zero (ks : List ByteArray) (x : ByteArray) : false = isInB ks 0 x := by simp [isInB]
theorem isIn_all {ks : List ByteArray} {x : ByteArray} (h : x ∈ ks) : isInB ks ks.length x = true := by
  unfold isInB
  rw [List.take_length, List.any_eq_true]
  exact ⟨x, h, by simp⟩
theorem isIn_succ {ks : List ByteArray} {x : ByteArray} {m : Nat} (hm : m < ks.length) : isInB ks (m + 1) x = (isInB ks m x || decide (ks[m] = x)) := by
  unfold isInB
  rw [List.take_succ_eq_append_getElem hm, List.any_append]
  simp
theorem isIn_yes {ks : List ByteArray} {x : ByteArray} {m : Nat} (hm : m < ks.length) (h : true = isInB ks m x) : true = isInB ks (m + 1) x := by
  rw [isIn_succ hm, ← h]; rfl
theorem isIn_hit {ks : List ByteArray} {x : ByteArray} {m : Nat} (hm : m < ks.length) (h : ks[m] = x) : true = isInB ks (m + 1) x := by
  rw [isIn_succ hm, decide_eq_true h, Bool.or_true]
theorem isIn_miss {ks : List ByteArray} {x : ByteArray} {m : Nat} (hm : m < ks.length) (h : ks[m] ≠ x) (h0 : false = isInB ks m x) : false = isInB ks (m + 1) x := by
  rw [isIn_succ hm, decide_eq_false h, ← h0]; rfl

set_option maxHeartbeats 4000000 in
theorem namesorts_any {w : World} {v : Value} {ks : List ByteArray} (r : RdS w v ks) (at' : Int) (hE : Env E B w) :
    Calls Tryd.prog 11 #[v, .int .i64 at'] w fun e w' => e = .returned (.bool true) ∧ Below w.heap.size w w' := by
  obtain ⟨sp, cap, rfl, hcap⟩ := r.val
  have HE := Lib.hid hE
  have HR := Lib.hid r
  clear hE r
  go_enter Tryd.func11, Tryd.ntmps11
  go_wp2_with fail
  refine (first11 _ HE.out).mono ?_
  rintro e w1 ⟨rfl, hb1⟩
  have HR1 := Lib.hid (HR.out.below hb1)
  have HB1 := Lib.hid hb1
  clear hb1
  by_cases h30 : (ks.length : Int) ≤ 30
  · go_wp2_with fail
    go_loop [6] (fun v => ∃ j : Nat, j ≤ ks.length ∧ v = .int .i64 j) (fun v => ks.length - (intOf v).toNat)
    case atStart => exact ⟨0, Nat.zero_le _, rfl⟩
    case round =>
      obtain ⟨j, hj, rfl⟩ := hrel
      by_cases hlt : j < ks.length
      · obtain ⟨h, off, rfl, hh, c0⟩ := RdS.cell HR1.out hlt
        generalize ks[j] = x at *
        by_cases h60 : (x.size : Int) ≤ 60
        · go_wp2
          go_round
          case rel => exact ⟨j + 1, by omega, by go_num⟩
          case measure => simp [intOf]; omega
        · go_wp2
          go_ret
          exact ⟨rfl, HB1.out⟩
      · obtain rfl : j = ks.length := by omega
        clear hlt hj
        go_wp2_with fail
        refine (nsort_any HR1.out (by omega)).mono ?_
        rintro e w2 ⟨⟨u, rfl, hs⟩, hb2⟩
        have hrx := hs.rd (fun _ => rfl)
        have HM := Lib.hid (nmSort_mem ks)
        have HRI := Lib.hid (nmSort_rise ks)
        have hxl := nmSort_len ks
        have HR2 := Lib.hid (HR1.out.below hb2)
        have HB2 := Lib.hid (HB1.out.trans (hb2.mono HB1.out.size))
        generalize nmSortL ks = xs at *
        obtain ⟨sq, cq, rfl, hcq⟩ := RdS.val hrx
        have HX2 := Lib.hid hrx
        clear hs hb2 hrx
        go_wp2_with fail
        go_loopw [8, 9, 10] (fun i _ _ wr => ∃ j : Nat, j ≤ xs.length ∧ i = .int .i64 j ∧ Hid (Below w2.heap.size w2 wr)) (fun i _ _ _ => xs.length - (intOf i).toNat)
        case atStart => exact ⟨0, Nat.zero_le _, rfl, Lib.hid (Below.refl _ _)⟩
        case round =>
          obtain ⟨j, hj, rfl, HI⟩ := hrel
          by_cases hlt : j < xs.length
          · go_wp2_with fail
            have HXX := Lib.hid (RdS.cell HX2.out hlt)
            have HMEM := Lib.hid ((HM.out xs[j]).1 (List.getElem_mem _))
            have HXJ : Hid (xs[j] = xs[j]) := Lib.hid rfl
            generalize hx : xs[j] = x at HXX HMEM
            have HX := Lib.hid hx
            clear hx
            go_loopw [9, 10] (fun b i wt => ∃ (m : Nat) (c : Bool), m ≤ ks.length ∧ i = .int .i64 m ∧ b = .bool c ∧ Hid (c = isInB ks m x ∧ Below w2.heap.size w2 wt)) (fun _ i _ => ks.length - (intOf i).toNat)
            case atStart => exact ⟨0, false, Nat.zero_le _, rfl, rfl, Lib.hid ⟨isIn_zero _ _, HI.out⟩⟩
            case round =>
              obtain ⟨m, c, hm, rfl, rfl, HI2⟩ := hrel
              by_cases hmt : m < ks.length
              · cases c
                · obtain ⟨h1, off1, rfl, hh1, c1⟩ := HXX.out
                  obtain ⟨h2, off2, rfl, hh2, c2⟩ := RdS.cell HR2.out hmt
                  have d1 : wr.cell? ⟨h1, off1 + j, none⟩ = some (.string x) := (HI2.out.2.cell (p := ⟨h1, off1 + j, none⟩) hh1).trans c1
                  have d2 : wr.cell? ⟨h2, off2 + m, none⟩ = some (.string ks[m]) := (HI2.out.2.cell (p := ⟨h2, off2 + m, none⟩) hh2).trans c2
                  have hj0 : (0 : Int) ≤ (j : Int) := by omega
                  have hj1 : (j : Int) < (xs.length : Int) := by omega
                  have hm0 : (0 : Int) ≤ (m : Int) := by omega
                  have hm1 : (m : Int) < (ks.length : Int) := by omega
                  have HH := Lib.hid (fun e => isIn_hit (x := x) hmt e)
                  have HN := Lib.hid (fun e => isIn_miss (x := x) hmt e HI2.out.1)
                  generalize ks[m] = y at *
                  clear c1 c2
                  by_cases hxy : y = x
                  · subst hxy
                    have hq : (y.toList == y.toList) = true := by simp
                    go_wp2_with fail
                    go_quiet (fail)
                    go_wp2
                    go_roundw
                    case rel => exact ⟨m + 1, true, by omega, by go_num, rfl, Lib.hid ⟨HH.out (by first | trivial | rfl), HI2.out.2.trans ((drewN_below _ _).mono HI2.out.2.size)⟩⟩
                    case measure => simp [intOf]; omega
                  · have hq : (y.toList == x.toList) = false := by rw [beq_eq_false_iff_ne]; exact fun h => hxy (str_ext h)
                    go_wp2_with fail
                    go_quiet (fail)
                    go_wp2
                    go_roundw
                    case rel => exact ⟨m + 1, false, by omega, by go_num, rfl, Lib.hid ⟨HN.out (by first | exact hxy | simpa using hxy), HI2.out.2.trans ((drewN_below _ _).mono HI2.out.2.size)⟩⟩
                    case measure => simp [intOf]; omega
                · go_wp2_with fail
                  go_quiet (fail)
                  go_wp2
                  go_roundw
                  case rel => exact ⟨m + 1, true, by omega, by go_num, rfl, Lib.hid ⟨isIn_yes hmt HI2.out.1, HI2.out.2.trans ((drewN_below _ _).mono HI2.out.2.size)⟩⟩
                  case measure => simp [intOf]; omega
              · obtain rfl : m = ks.length := by omega
                obtain rfl : c = true := by rw [HI2.out.1]; exact isIn_all HMEM.out
                clear hmt hm
                have HW : Hid (wrap64 ((j : Int) + 1) = ((j + 1 : Nat) : Int)) := Lib.hid (wrap_up (by omega))
                have hj0 : (0 : Int) ≤ (j : Int) := by omega
                have hj1 : (j : Int) < (xs.length : Int) := by omega
                by_cases hj00 : j = 0
                · subst hj00
                  go_wp2_with fail
                  go_quiet (fail)
                  go_wp2
                  go_roundw
                  case rel => exact ⟨1, by omega, by first | rfl | go_num, Lib.hid (HI2.out.2.trans ((drewN_below _ _).mono HI2.out.2.size))⟩
                  case measure => simp [intOf]; omega
                · obtain ⟨i, hi⟩ : ∃ i, j = i + 1 := ⟨j - 1, by omega⟩
                  have hposN : decide (0 < j) = true := by simp; omega
                  have h0j : 0 < j := by omega
                  have hi0 : (0 : Int) ≤ (i : Int) := by omega
                  have hi1 : (i : Int) < (xs.length : Int) := by omega
                  have hsub : IntKind.i64.wrap ((j : Int) - 1) = (i : Int) := by rw [IntWalk.i64_in _ (by omega)]; omega
                  have hsub2 : wrap64 ((j : Int) - 1) = (i : Int) := by unfold wrap64; omega
                  have hilt : i < xs.length := by omega
                  obtain ⟨h1, off1, rfl, hh1, c1⟩ := HXX.out
                  obtain ⟨h2, off2, he2, _, c2⟩ := RdS.cell HX2.out hilt
                  cases he2
                  have d1 : wr.cell? ⟨h1, off1 + j, none⟩ = some (.string x) := (HI2.out.2.cell (p := ⟨h1, off1 + j, none⟩) hh1).trans c1
                  have d2 : wr.cell? ⟨h1, off1 + i, none⟩ = some (.string xs[i]) := (HI2.out.2.cell (p := ⟨h1, off1 + i, none⟩) hh1).trans c2
                  have hls : nmLt xs[i] x := by
                    rw [← HX.out]
                    exact List.pairwise_iff_getElem.1 HRI.out i j hilt hlt (by omega)
                  have HI := Lib.hid hi
                  clear hi c1 c2 HX
                  generalize xs[i] = y at *
                  have hq : Op.bytesLess y.toList x.toList = true := by rw [bytesLess_eq, Lib.toList_data, Lib.toList_data]; exact decide_eq_true hls
                  go_wp2_with fail
                  go_quiet (fail)
                  go_wp2
                  go_roundw
                  case rel => exact ⟨j + 1, by omega, by first | go_num | exact congrArg (Value.int .i64) HW.out, Lib.hid (HI2.out.2.trans ((drewN_below _ _).mono HI2.out.2.size))⟩
                  case measure => (simp [intOf]; try unfold wrap64); omega
          · obtain rfl : j = xs.length := by omega
            clear hlt hj
            go_wp2_with fail
            go_loopw [11, 12, 13] (fun i _ _ wr => ∃ j : Nat, j ≤ ks.length ∧ i = .int .i64 j ∧ Hid (Below w2.heap.size w2 wr)) (fun i _ _ _ => ks.length - (intOf i).toNat)
            case atStart => exact ⟨0, Nat.zero_le _, rfl, HI⟩
            clear HI
            case round =>
              obtain ⟨j, hj, rfl, HI⟩ := hrel
              by_cases hlt : j < ks.length
              · go_wp2_with fail
                have HXX := Lib.hid (RdS.cell HR2.out hlt)
                have HMEM := Lib.hid ((HM.out ks[j]).2 (List.getElem_mem _))
                generalize hx : ks[j] = x at HXX HMEM
                have HX := Lib.hid hx
                clear hx
                go_loopw [12, 13] (fun b i wt => ∃ (m : Nat) (c : Bool), m ≤ xs.length ∧ i = .int .i64 m ∧ b = .bool c ∧ Hid (c = isInB xs m x ∧ Below w2.heap.size w2 wt)) (fun _ i _ => xs.length - (intOf i).toNat)
                case atStart => exact ⟨0, false, Nat.zero_le _, rfl, rfl, Lib.hid ⟨isIn_zero _ _, HI.out⟩⟩
                case round =>
                  obtain ⟨m, c, hm, rfl, rfl, HI2⟩ := hrel
                  by_cases hmt : m < xs.length
                  · cases c
                    · obtain ⟨h1, off1, rfl, hh1, c1⟩ := HXX.out
                      obtain ⟨h2, off2, rfl, hh2, c2⟩ := RdS.cell HX2.out hmt
                      have d1 : wr.cell? ⟨h1, off1 + j, none⟩ = some (.string x) := (HI2.out.2.cell (p := ⟨h1, off1 + j, none⟩) hh1).trans c1
                      have d2 : wr.cell? ⟨h2, off2 + m, none⟩ = some (.string xs[m]) := (HI2.out.2.cell (p := ⟨h2, off2 + m, none⟩) hh2).trans c2
                      have hj0 : (0 : Int) ≤ (j : Int) := by omega
                      have hj1 : (j : Int) < (ks.length : Int) := by omega
                      have hm0 : (0 : Int) ≤ (m : Int) := by omega
                      have hm1 : (m : Int) < (xs.length : Int) := by omega
                      have HH := Lib.hid (fun e => isIn_hit (x := x) hmt e)
                      have HN := Lib.hid (fun e => isIn_miss (x := x) hmt e HI2.out.1)
                      generalize xs[m] = y at *
                      clear c1 c2
                      by_cases hxy : y = x
                      · subst hxy
                        have hq : (y.toList == y.toList) = true := by simp
                        go_wp2_with fail
                        go_quiet (fail)
                        go_wp2
                        go_roundw
                        case rel => exact ⟨m + 1, true, by omega, by go_num, rfl, Lib.hid ⟨HH.out (by first | trivial | rfl), HI2.out.2.trans ((drewN_below _ _).mono HI2.out.2.size)⟩⟩
                        case measure => simp [intOf]; omega
                      · have hq : (x.toList == y.toList) = false := by rw [beq_eq_false_iff_ne]; exact fun h => hxy (str_ext h).symm
                        go_wp2_with fail
                        go_quiet (fail)
                        go_wp2
                        go_roundw
                        case rel => exact ⟨m + 1, false, by omega, by go_num, rfl, Lib.hid ⟨HN.out (by first | exact hxy | simpa using hxy), HI2.out.2.trans ((drewN_below _ _).mono HI2.out.2.size)⟩⟩
                        case measure => simp [intOf]; omega
                    · go_wp2_with fail
                      go_quiet (fail)
                      go_wp2
                      go_roundw
                      case rel => exact ⟨m + 1, true, by omega, by go_num, rfl, Lib.hid ⟨isIn_yes hmt HI2.out.1, HI2.out.2.trans ((drewN_below _ _).mono HI2.out.2.size)⟩⟩
                      case measure => simp [intOf]; omega
                  · obtain rfl : m = xs.length := by omega
                    obtain rfl : c = true := by rw [HI2.out.1]; exact isIn_all HMEM.out
                    clear hmt hm
                    go_wp2
                    go_roundw
                    case rel => exact ⟨j + 1, by omega, by go_num, Lib.hid HI2.out.2⟩
                    case measure => simp [intOf]; omega
              · obtain rfl : j = ks.length := by omega
                clear hlt hj
                have HRW := Lib.hid (HR2.out.below (HI.out.mono (Nat.le_refl _)))
                have HXW := Lib.hid (HX2.out.below (HI.out.mono (Nat.le_refl _)))
                have HBW := Lib.hid (HB2.out.trans (HI.out.mono HB2.out.size))
                clear HR2 HX2 HB2 HI
                by_cases hx0 : xs.length = 0
                · have hk0 : ks.length = 0 := by
                    cases ks with
                    | nil => rfl
                    | cons k ks =>
                      exfalso
                      have := (HM.out k).2 (by simp)
                      rw [List.eq_nil_of_length_eq_zero hx0] at this
                      simp at this
                  have hq1 : ((xs.length : Int) == 0) = true := by rw [beq_iff_eq]; omega
                  have hq2 : ((ks.length : Int) == 0) = true := by rw [beq_iff_eq]; omega
                  have HX0 := Lib.hid hx0
                  have HK0 := Lib.hid hk0
                  clear hx0 hk0
                  go_wp2
                  go_ret
                  exact ⟨by first | rfl | simp [hq2], HBW.out⟩
                · have hq1 : ((xs.length : Int) == 0) = false := by rw [beq_eq_false_iff_ne]; omega
                  go_wp2_with fail
                  refine (number_any at' xs.length (by omega) _).mono ?_
                  rintro e w3 ⟨rfl, rfl⟩
                  obtain ⟨N, hN⟩ : ∃ N : Nat, at' % (xs.length : Int) = N := ⟨(at' % (xs.length : Int)).toNat, by have := Int.emod_nonneg at' (b := (xs.length : Int)) (by omega); omega⟩
                  have hN2 : N < xs.length := by have := Int.emod_lt_of_pos at' (b := (xs.length : Int)) (by omega); omega
                  rw [hN]
                  clear hN
                  obtain ⟨l, hl⟩ : ∃ l, l = N + 1 := ⟨_, rfl⟩
                  have hxs30 : xs.length ≤ 1000000 := by omega
                  have HAF : Hid (∀ w', Below wr.heap.size wr w' → Calls Tryd.prog 62 #[.slice sq xs.length cq, .string xs[N]] w' fun e w'' => (∃ v, e = .returned v ∧ SlS w'' wr.heap.size v (xs.drop l)) ∧ Below w'.heap.size w' w'') :=
                    Lib.hid fun w' hb => (after_any (HXW.out.below hb) hxs30 HRI.out xs[N]).mono fun e w'' ⟨⟨v, he, hs⟩, h2⟩ => ⟨⟨v, he, by rw [behind_at HRI.out hN2, ← hl] at hs; exact hs.mono hb.size⟩, h2⟩
                  have HSO : Hid (∀ w', Below wr.heap.size wr w' → Calls Tryd.prog 60 #[.slice sq xs.length cq] w' fun e w'' => (∃ v, e = .returned v ∧ SlS w'' wr.heap.size v xs) ∧ Below w'.heap.size w' w'') :=
                    Lib.hid fun w' hb => (nsort_any (HXW.out.below hb) hxs30).mono fun e w'' ⟨⟨v, he, hs⟩, h2⟩ => ⟨⟨v, he, by rw [nmSort_fix HRI.out] at hs; exact hs.mono hb.size⟩, h2⟩
                  obtain ⟨h, off, rfl, hh, c0⟩ := RdS.cell HXW.out hN2
                  have hcast : IntKind.i64.wrap ((N : Int) + 1) = (l : Int) := by rw [IntWalk.i64_in _ (by omega)]; omega
                  have hN0 : (0 : Int) ≤ (N : Int) := by omega
                  have hN1 : (N : Int) < (xs.length : Int) := by omega
                  have hl0 : (0 : Int) ≤ (l : Int) := by omega
                  have hl1 : (l : Int) ≤ (xs.length : Int) := by omega
                  have hl2 : l ≤ xs.length := by omega
                  have HL := Lib.hid hl
                  have S : ∀ w', Below wr.heap.size wr w' → w'.cell? ⟨h, off + N, none⟩ = some (.string xs[N]) := fun w' hb => (hb.cell (p := ⟨h, off + N, none⟩) hh).trans c0
                  generalize xs[N] = x at *
                  clear c0 hl
                  by_cases hcl : cq = l
                  · subst hcl
                    have RDT : Hid (RdS wr (.slice (some ⟨h, off, none⟩) 0 0) (xs.drop cq)) := Lib.hid (by rw [List.drop_of_length_le (by omega)]; exact ⟨_, _, rfl, Nat.le_refl _, fun _ => rfl, fun h => (h rfl).elim⟩)
                    go_wp2_with fail
                    apply wp_region_rel _ (by kernel_rfl) (by kernel_rfl) (fun w' => Below wr.heap.size wr w') (fun w' w'' => Below w'.heap.size w' w'') (fun w' w'' h1 h2 => bl_trans h1 h2) (Below.refl _ _).drew
                    repeat (first
                      | (apply wpRel_skip (by rfl)
                         simp only [Act.put, List.setIfInBounds_toArray, List.set_cons_zero, List.set_cons_succ])
                      | (apply wpRel_fix (by rfl)
                         · intro w' hC hf R hR
                           have hS := S w' hC
                           go_simp
                           exact hR _ (Below.refl _ _)
                         simp only [Act.put, List.setIfInBounds_toArray, List.set_cons_zero, List.set_cons_succ]))
                    apply wpRel_rel (fun v w => SlS w wr.heap.size v (xs.drop cq)) (by rfl) (fun v w w' h hb => h.below hb)
                    · intro w' hC hf R hR
                      go_simp
                      (with_reducible refine (HAF.out w' hC).mono ?_)
                      rintro e w'' ⟨⟨v, rfl, hs⟩, hb⟩
                      exact ⟨v, rfl, hR _ _ hs hb⟩
                    intro v1
                    simp only [Act.put, List.setIfInBounds_toArray, List.set_cons_zero, List.set_cons_succ]
                    repeat (first
                      | (apply wpRel_skip (by rfl)
                         simp only [Act.put, List.setIfInBounds_toArray, List.set_cons_zero, List.set_cons_succ])
                      | (apply wpRel_fix (by rfl)
                         · intro w' hC hf R hR
                           have hS := S w' hC
                           go_simp
                           exact hR _ (Below.refl _ _)
                         simp only [Act.put, List.setIfInBounds_toArray, List.set_cons_zero, List.set_cons_succ]))
                    apply wpRel_fix (by rfl)
                    · intro w' hC hf R hR
                      have f := hf _ (List.mem_cons_self ..) (by kernel_rfl)
                      go_simp
                      (with_reducible refine (sametexts_any (SlE.rd f (fun _ => rfl)) (RDT.out.below hC) (by rw [List.length_drop]; omega)).mono ?_)
                      rintro e w'' ⟨rfl, hb⟩
                      exact ⟨.bool true, by simp, hR _ hb⟩
                    simp only [Act.put, List.setIfInBounds_toArray, List.set_cons_zero, List.set_cons_succ]
                    repeat (first
                      | (apply wpRel_skip (by rfl)
                         simp only [Act.put, List.setIfInBounds_toArray, List.set_cons_zero, List.set_cons_succ])
                      | (apply wpRel_fix (by rfl)
                         · intro w' hC hf R hR
                           have hS := S w' hC
                           go_simp
                           exact hR _ (Below.refl _ _)
                         simp only [Act.put, List.setIfInBounds_toArray, List.set_cons_zero, List.set_cons_succ]))
                    apply wpRel_rel (fun v w => SlS w wr.heap.size v xs) (by rfl) (fun v w w' h hb => h.below hb)
                    · intro w' hC hf R hR
                      go_simp
                      (with_reducible refine (HSO.out w' hC).mono ?_)
                      rintro e w'' ⟨⟨v, rfl, hs⟩, hb⟩
                      exact ⟨v, rfl, hR _ _ hs hb⟩
                    intro v2
                    simp only [Act.put, List.setIfInBounds_toArray, List.set_cons_zero, List.set_cons_succ]
                    repeat (first
                      | (apply wpRel_skip (by rfl)
                         simp only [Act.put, List.setIfInBounds_toArray, List.set_cons_zero, List.set_cons_succ])
                      | (apply wpRel_fix (by rfl)
                         · intro w' hC hf R hR
                           have hS := S w' hC
                           go_simp
                           exact hR _ (Below.refl _ _)
                         simp only [Act.put, List.setIfInBounds_toArray, List.set_cons_zero, List.set_cons_succ]))
                    apply wpRel_fix (by rfl)
                    · intro w' hC hf R hR
                      have f := hf _ (List.mem_cons_self ..) (by kernel_rfl)
                      go_simp
                      (with_reducible refine (sametexts_any (SlE.rd f (fun _ => rfl)) (HXW.out.below hC) hxs30).mono ?_)
                      rintro e w'' ⟨rfl, hb⟩
                      exact ⟨.bool true, by simp, hR _ hb⟩
                    simp only [Act.put, List.setIfInBounds_toArray, List.set_cons_zero, List.set_cons_succ]
                    repeat (first
                      | (apply wpRel_skip (by rfl)
                         simp only [Act.put, List.setIfInBounds_toArray, List.set_cons_zero, List.set_cons_succ])
                      | (apply wpRel_fix (by rfl)
                         · intro w' hC hf R hR
                           have hS := S w' hC
                           go_simp
                           exact hR _ (Below.refl _ _)
                         simp only [Act.put, List.setIfInBounds_toArray, List.set_cons_zero, List.set_cons_succ]))
                    refine wpRel_nil (fun w4 hC hf => ?_)
                    have HB4 := Lib.hid (HBW.out.trans (hC.mono HBW.out.size))
                    clear hC hf S
                    go_wp2
                    go_ret
                    exact ⟨rfl, HB4.out⟩
                  · have hcl2 : (cq = l) = False := by simp [hcl]
                    have RDT : Hid (RdS wr (.slice (some ⟨h, off + l, none⟩) (xs.length - l) (cq - l)) (xs.drop l)) := Lib.hid (by have := rd_drop HXW.out hl2 hcl; rw [show (⟨h, off, none⟩ : Addr).add l = ⟨h, off + l, none⟩ by unfold Addr.add; split <;> simp_all] at this; exact this)
                    go_wp2_with fail
                    apply wp_region_rel _ (by kernel_rfl) (by kernel_rfl) (fun w' => Below wr.heap.size wr w') (fun w' w'' => Below w'.heap.size w' w'') (fun w' w'' h1 h2 => bl_trans h1 h2) (Below.refl _ _).drew
                    repeat (first
                      | (apply wpRel_skip (by rfl)
                         simp only [Act.put, List.setIfInBounds_toArray, List.set_cons_zero, List.set_cons_succ])
                      | (apply wpRel_fix (by rfl)
                         · intro w' hC hf R hR
                           have hS := S w' hC
                           go_simp
                           exact hR _ (Below.refl _ _)
                         simp only [Act.put, List.setIfInBounds_toArray, List.set_cons_zero, List.set_cons_succ]))
                    apply wpRel_rel (fun v w => SlS w wr.heap.size v (xs.drop l)) (by rfl) (fun v w w' h hb => h.below hb)
                    · intro w' hC hf R hR
                      go_simp
                      (with_reducible refine (HAF.out w' hC).mono ?_)
                      rintro e w'' ⟨⟨v, rfl, hs⟩, hb⟩
                      exact ⟨v, rfl, hR _ _ hs hb⟩
                    intro v1
                    simp only [Act.put, List.setIfInBounds_toArray, List.set_cons_zero, List.set_cons_succ]
                    repeat (first
                      | (apply wpRel_skip (by rfl)
                         simp only [Act.put, List.setIfInBounds_toArray, List.set_cons_zero, List.set_cons_succ])
                      | (apply wpRel_fix (by rfl)
                         · intro w' hC hf R hR
                           have hS := S w' hC
                           go_simp
                           exact hR _ (Below.refl _ _)
                         simp only [Act.put, List.setIfInBounds_toArray, List.set_cons_zero, List.set_cons_succ]))
                    apply wpRel_fix (by rfl)
                    · intro w' hC hf R hR
                      have f := hf _ (List.mem_cons_self ..) (by kernel_rfl)
                      go_simp
                      (with_reducible refine (sametexts_any (SlE.rd f (fun _ => rfl)) (RDT.out.below hC) (by rw [List.length_drop]; omega)).mono ?_)
                      rintro e w'' ⟨rfl, hb⟩
                      exact ⟨.bool true, by simp, hR _ hb⟩
                    simp only [Act.put, List.setIfInBounds_toArray, List.set_cons_zero, List.set_cons_succ]
                    repeat (first
                      | (apply wpRel_skip (by rfl)
                         simp only [Act.put, List.setIfInBounds_toArray, List.set_cons_zero, List.set_cons_succ])
                      | (apply wpRel_fix (by rfl)
                         · intro w' hC hf R hR
                           have hS := S w' hC
                           go_simp
                           exact hR _ (Below.refl _ _)
                         simp only [Act.put, List.setIfInBounds_toArray, List.set_cons_zero, List.set_cons_succ]))
                    apply wpRel_rel (fun v w => SlS w wr.heap.size v xs) (by rfl) (fun v w w' h hb => h.below hb)
                    · intro w' hC hf R hR
                      go_simp
                      (with_reducible refine (HSO.out w' hC).mono ?_)
                      rintro e w'' ⟨⟨v, rfl, hs⟩, hb⟩
                      exact ⟨v, rfl, hR _ _ hs hb⟩
                    intro v2
                    simp only [Act.put, List.setIfInBounds_toArray, List.set_cons_zero, List.set_cons_succ]
                    repeat (first
                      | (apply wpRel_skip (by rfl)
                         simp only [Act.put, List.setIfInBounds_toArray, List.set_cons_zero, List.set_cons_succ])
                      | (apply wpRel_fix (by rfl)
                         · intro w' hC hf R hR
                           have hS := S w' hC
                           go_simp
                           exact hR _ (Below.refl _ _)
                         simp only [Act.put, List.setIfInBounds_toArray, List.set_cons_zero, List.set_cons_succ]))
                    apply wpRel_fix (by rfl)
                    · intro w' hC hf R hR
                      have f := hf _ (List.mem_cons_self ..) (by kernel_rfl)
                      go_simp
                      (with_reducible refine (sametexts_any (SlE.rd f (fun _ => rfl)) (HXW.out.below hC) hxs30).mono ?_)
                      rintro e w'' ⟨rfl, hb⟩
                      exact ⟨.bool true, by simp, hR _ hb⟩
                    simp only [Act.put, List.setIfInBounds_toArray, List.set_cons_zero, List.set_cons_succ]
                    repeat (first
                      | (apply wpRel_skip (by rfl)
                         simp only [Act.put, List.setIfInBounds_toArray, List.set_cons_zero, List.set_cons_succ])
                      | (apply wpRel_fix (by rfl)
                         · intro w' hC hf R hR
                           have hS := S w' hC
                           go_simp
                           exact hR _ (Below.refl _ _)
                         simp only [Act.put, List.setIfInBounds_toArray, List.set_cons_zero, List.set_cons_succ]))
                    refine wpRel_nil (fun w4 hC hf => ?_)
                    have HB4 := Lib.hid (HBW.out.trans (hC.mono HBW.out.size))
                    clear hC hf S
                    go_wp2
                    go_ret
                    exact ⟨rfl, HB4.out⟩
  · go_wp2
    go_ret
    exact ⟨rfl, HB1.out⟩
end Go.Proofs.YthominkfjfnkbaaDoor
