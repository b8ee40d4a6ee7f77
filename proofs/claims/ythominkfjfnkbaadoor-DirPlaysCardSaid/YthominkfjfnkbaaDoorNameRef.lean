/- The walks of the reference's names: Texts, Sort, Name, Special. -/
import Derived.Test.YthominkfjfnkbaaDoorNameSort
import Derived.Test.YthominkfjfnkbaaDoorName
import Derived.StillTailTactics
import Derived.IntWalk
namespace Go.Proofs.YthominkfjfnkbaaDoor
open Go Go.RowKit Go.WideShapes
set_option maxRecDepth 100000
set_option linter.unusedSimpArgs false
theorem bin_geq (t : TypeId) (a b : ByteArray) : binOp .geq t (.string a) (.string b) = pure (.bool !(Op.bytesLess a.toList b.toList)) := by simp [binOp, Op.stringOp]
theorem bin_leq (t : TypeId) (a b : ByteArray) : binOp .leq t (.string a) (.string b) = pure (.bool (Op.bytesLess a.toList b.toList || a.toList == b.toList)) := by simp [binOp, Op.stringOp]
theorem bin_gtr (t : TypeId) (a b : ByteArray) : binOp .gtr t (.string a) (.string b) = pure (.bool !(Op.bytesLess a.toList b.toList || a.toList == b.toList)) := by simp [binOp, Op.stringOp]
attribute [local go_sem] giv bin_geq bin_leq bin_gtr
variable {E : Nat → Addr} {B : Nat}

theorem small_max {j : Nat} (h : j ≤ 1000000) : j ≤ maxLen := by unfold maxLen; omega

set_option maxHeartbeats 1000000 in
theorem texts_any {w : World} {v : Value} {ks : List ByteArray} (r : RdS w v ks) (hk : ks.length ≤ 1000) :
    Calls Tryd.prog 101 #[v] w fun e w' => (∃ u, e = .returned u ∧ SlS w' w.heap.size u ks) ∧ Below w.heap.size w w' := by
  obtain ⟨sp, cap, rfl, hcap⟩ := RdS.val r
  have HR := Lib.hid r
  clear r
  go_enter Tryd.func101, Tryd.ntmps101
  go_wp2_with (at_make; refine wpList_mk0 strT rfl _ _ rfl ks.length rfl rfl (by omega) (small_max (by omega)) (Nat.le_refl _) ?_; intro w2 hs2 hb2; have HS2 := Lib.hid hs2; have HB2 := Lib.hid hb2; clear hs2 hb2)
  go_loopw [3, 4] (fun v i wr => ∃ j : Nat, j ≤ ks.length ∧ i = .int .i64 j ∧ Hid (SlS wr w.heap.size v (ks.take j) ∧ Below w.heap.size w wr)) (fun _ i _ => ks.length - (intOf i).toNat)
  case atStart => exact ⟨0, Nat.zero_le _, rfl, Lib.hid ⟨HS2.out, HB2.out⟩⟩
  case round =>
    obtain ⟨j, hj, rfl, HI⟩ := hrel
    by_cases hlt : j < ks.length
    · obtain ⟨h, off, rfl, hh, c0⟩ := RdS.cell HR.out hlt
      have c1 : wr.cell? ⟨h, off + j, none⟩ = some (.string ks[j]) := (HI.out.2.cell (p := ⟨h, off + j, none⟩) hh).trans c0
      have HT : Hid (ks.take (j + 1) = ks.take j ++ [ks[j]]) := Lib.hid (List.take_succ_eq_append_getElem hlt)
      have hj0 : (0 : Int) ≤ (j : Int) := by omega
      have hj1 : (j : Int) < (ks.length : Int) := by omega
      have HJL : Hid ((ks.take j).length = j) := Lib.hid (by rw [List.length_take]; omega)
      have HJ := Lib.hid hlt
      have HOWN := Lib.hid (SlE.below HI.out.1 (bl_alloc (Below.refl _ wr) (.cells #[.string ks[j]] 9)))
      have HKK := Lib.hid hk
      have HROW : Hid (RdS (wr.alloc (.cells #[.string ks[j]] 9)) (.slice (some ⟨wr.heap.size, 0, none⟩) 1 1) [ks[j]]) := Lib.hid (RdE.one (x := ks[j]) (Row.new wr 9 (encS ks[j])))
      have HBS : Hid (w.heap.size ≤ (wr.alloc (.cells #[.string ks[j]] 9)).heap.size) := Lib.hid (Nat.le_trans HI.out.2.size (by simp))
      clear c0
      generalize ks[j] = x at *
      go_wp2_with (at_builtin; refine wpList_app strT rfl _ _ rfl rfl HOWN.out rfl HROW.out (by rw [HJL.out]; exact small_max (by have := HJ.out; have := HKK.out; simp; omega)) (by rw [HJL.out]; have := HJ.out; have := HKK.out; simp; omega) HBS.out ?_; intro v' w' hs' ht'; have HS' := Lib.hid hs'; have HT' := Lib.hid ht'; clear hs' ht')
      go_roundw
      case rel =>
        refine ⟨j + 1, by omega, by go_num, Lib.hid ⟨?_, ?_⟩⟩
        · rw [HT.out]; exact HS'.out
        · exact (bl_alloc HI.out.2 _).trans (HT'.out.below (B := w.heap.size) HBS.out (fun x hx => (SlE.lt HOWN.out x hx).1))
      case measure => simp [intOf]; omega
    · obtain rfl : j = ks.length := by omega
      go_wp2
      go_ret
      have := HI.out.1
      rw [List.take_length] at this
      exact ⟨⟨_, rfl, this⟩, HI.out.2⟩
theorem rd_take {w : World} {sp : Option Addr} {n cap m : Nat} {ks : List ByteArray} (r : RdS w (.slice sp n cap) ks) (hm : m ≤ n) : RdS w (.slice sp m cap) (ks.take m) := by
  obtain ⟨sp', cap', he, h1, h2, h3⟩ := r
  injection he with e1 e2 e3
  subst e1 e2 e3
  have hlen : (ks.take m).length = m := by rw [List.length_take]; omega
  refine ⟨sp, cap, by rw [hlen], by omega, h2, fun hne => ?_⟩
  obtain ⟨h, off, h4, h5, h6⟩ := h3 (by rintro rfl; simp at hne)
  refine ⟨h, off, h4, h5, fun i j hi hj => ?_⟩
  rw [hlen] at hi
  rw [h6 i j (by omega) hj, List.getElem?_take, if_pos hi]
theorem wp_from {P : Program} {c : Code} {Q : Exit → Act → World → Prop} {a : Act} {w : World} (W0 : World) (h : Below W0.heap.size W0 w) (k : ∀ w', Below W0.heap.size W0 w' → c.wp P Q a w') : c.wp P Q a w := k w h

/-- A text put into its place. -/
def insAt (out : List ByteArray) (m : Nat) (x : ByteArray) : List ByteArray := out.take m ++ [x] ++ out.drop m
theorem ins_mem (out : List ByteArray) (m : Nat) (x y : ByteArray) : y ∈ insAt out m x ↔ y ∈ out ∨ y = x := by
  have : y ∈ out ↔ y ∈ out.take m ∨ y ∈ out.drop m := by
    conv => lhs; rw [← List.take_append_drop m out]
    exact List.mem_append
  rw [this]
  unfold insAt
  simp only [List.mem_append, List.mem_singleton]
  constructor
  · rintro ((h | h) | h)
    · exact .inl (.inl h)
    · exact .inr h
    · exact .inl (.inr h)
  · rintro ((h | h) | h)
    · exact .inl (.inl h)
    · exact .inr h
    · exact .inl (.inr h)
theorem ins_len (out : List ByteArray) {m : Nat} (x : ByteArray) (hm : m ≤ out.length) : (insAt out m x).length = out.length + 1 := by
  unfold insAt
  simp only [List.length_append, List.length_take, List.length_drop, List.length_cons, List.length_nil]
  omega
theorem ins_rise {out : List ByteArray} {m : Nat} {x : ByteArray} (h : out.Pairwise nmLt) (h1 : ∀ j y, j < m → out[j]? = some y → nmLt y x) (h2 : ∀ y, out[m]? = some y → ¬ nmLt y x) (h3 : ¬ out[m]? = some x) : (insAt out m x).Pairwise nmLt := by
  have a1 : ∀ y ∈ out.take m, nmLt y x := by
    intro y hy
    obtain ⟨j, hj, rfl⟩ := List.getElem_of_mem hy
    have hj' : j < m ∧ j < out.length := by rw [List.length_take] at hj; omega
    rw [List.getElem_take]
    exact h1 j _ hj'.1 (List.getElem?_eq_getElem hj'.2)
  have a2 : ∀ y ∈ out.drop m, nmLt x y := by
    intro y hy
    obtain ⟨j, hj, rfl⟩ := List.getElem_of_mem hy
    have hj' : m + j < out.length := by rw [List.length_drop] at hj; omega
    rw [List.getElem_drop]
    have hm : m < out.length := by omega
    have h4 : nmLt x out[m] := by
      rcases nmLt_tri x out[m] with h | h | h
      · exact h
      · exact (h3 (by rw [List.getElem?_eq_getElem hm, h])).elim
      · exact (h2 _ (List.getElem?_eq_getElem hm) h).elim
    rcases Nat.eq_zero_or_pos j with rfl | hp
    · exact h4
    · exact nmLt_trans h4 (List.pairwise_iff_getElem.1 h m (m + j) hm hj' (by omega))
  unfold insAt
  rw [List.append_assoc, List.pairwise_append]
  refine ⟨h.sublist (List.take_sublist _ _), ?_, ?_⟩
  · rw [List.singleton_append, List.pairwise_cons]
    exact ⟨a2, h.sublist (List.drop_sublist _ _)⟩
  · intro y hy z hz
    rcases List.mem_append.1 hz with hz | hz
    · rw [List.mem_singleton.1 hz]; exact a1 y hy
    · exact nmLt_trans (a1 y hy) (a2 z hz)

/-- How far a sorted list has come. -/
structure SortedTo (ks : List ByteArray) (j : Nat) (out : List ByteArray) : Prop where
  rise : out.Pairwise nmLt
  mem : ∀ y, y ∈ out ↔ y ∈ ks.take j
  len : out.length ≤ j
theorem SortedTo.zero (ks : List ByteArray) : SortedTo ks 0 [] := ⟨List.Pairwise.nil, fun y => by simp, Nat.le_refl _⟩
theorem SortedTo.same {ks : List ByteArray} {j : Nat} {out : List ByteArray} (h : SortedTo ks j out) (hj : j < ks.length) {m : Nat} (he : out[m]? = some ks[j]) : SortedTo ks (j + 1) out := by
  refine ⟨h.rise, fun y => ?_, by have := h.len; omega⟩
  rw [List.take_succ_eq_append_getElem hj, List.mem_append, List.mem_singleton, ← h.mem]
  constructor
  · exact .inl
  · rintro (h1 | rfl)
    · exact h1
    · exact List.mem_of_getElem? he
theorem SortedTo.ins {ks : List ByteArray} {j : Nat} {out : List ByteArray} (h : SortedTo ks j out) (hj : j < ks.length) {m : Nat} (hm : m ≤ out.length) (h1 : ∀ i y, i < m → out[i]? = some y → nmLt y ks[j]) (h2 : ∀ y, out[m]? = some y → ¬ nmLt y ks[j]) (h3 : ¬ out[m]? = some ks[j]) :
    SortedTo ks (j + 1) (insAt out m ks[j]) := by
  refine ⟨ins_rise h.rise h1 h2 h3, fun y => ?_, by rw [ins_len _ _ hm]; have := h.len; omega⟩
  rw [List.take_succ_eq_append_getElem hj, List.mem_append, List.mem_singleton, ← h.mem, ins_mem]
theorem SortedTo.all {ks out : List ByteArray} (h : SortedTo ks ks.length out) : out = nmSortL ks :=
  rise_ext h.rise (nmSort_rise ks) fun x => by rw [h.mem, nmSort_mem, List.take_length]

set_option maxHeartbeats 4000000 in
theorem refsort_any {w : World} {v : Value} {ks : List ByteArray} (r : RdS w v ks) (hk : ks.length ≤ 100) :
    Calls Tryd.prog 63 #[v] w fun e w' => (∃ u, e = .returned u ∧ SlS w' w.heap.size u (nmSortL ks)) ∧ Below w.heap.size w w' := by
  obtain ⟨sp, cap, rfl, hcap⟩ := RdS.val r
  have HR := Lib.hid r
  clear r
  go_enter Tryd.func63, Tryd.ntmps63
  go_wp2_with fail
  go_loopw [3, 4, 5, 6] (fun v i _ _ wr => ∃ (j : Nat) (out : List ByteArray), j ≤ ks.length ∧ i = .int .i64 j ∧ Hid (SlS wr w.heap.size v out ∧ SortedTo ks j out ∧ Below w.heap.size w wr)) (fun _ i _ _ _ => ks.length - (intOf i).toNat)
  case atStart => exact ⟨0, [], Nat.zero_le _, rfl, Lib.hid ⟨SlE.nil _ _ _ _ _, SortedTo.zero _, Below.refl _ _⟩⟩
  case round =>
    obtain ⟨j, out, hj, rfl, HI⟩ := hrel
    obtain ⟨sq, cq, rfl, hcq⟩ := RdS.val (SlE.rd HI.out.1 (fun _ => rfl))
    by_cases hlt : j < ks.length
    · go_wp2_with fail
      have HXX := Lib.hid (RdS.cell HR.out hlt)
      have HSAME := Lib.hid (fun (m : Nat) => HI.out.2.1.same hlt (m := m))
      have HINS := Lib.hid (fun (m : Nat) => HI.out.2.1.ins hlt (m := m))
      have HLEN := Lib.hid HI.out.2.1.len
      generalize ks[j] = x at *
      go_loopw [5] (fun k wt => ∃ m : Nat, m ≤ out.length ∧ k = .int .i64 m ∧ Hid ((∀ i y, i < m → out[i]? = some y → nmLt y x) ∧ SlS wt w.heap.size (.slice sq out.length cq) out ∧ Below w.heap.size w wt)) (fun k _ => out.length - (intOf k).toNat)
      case atStart => exact ⟨0, Nat.zero_le _, rfl, Lib.hid ⟨fun i y hi => by omega, HI.out.1, HI.out.2.2⟩⟩
      clear HI
      case round =>
        obtain ⟨m, hm, rfl, HI⟩ := hrel
        have hj0 : (0 : Int) ≤ (j : Int) := by omega
        have hj1 : (j : Int) < (ks.length : Int) := by omega
        have hm0 : (0 : Int) ≤ (m : Int) := by omega
        have hol : out.length ≤ 100 := by have := HLEN.out; omega
        obtain ⟨h2, off2, hsp, hh2, c2⟩ := HXX.out
        subst hsp
        have d2 : wr.cell? ⟨h2, off2 + j, none⟩ = some (.string x) := (HI.out.2.2.cell (p := ⟨h2, off2 + j, none⟩) hh2).trans c2
        have HCX := Lib.hid c2
        clear HXX c2
        by_cases hmt : m < out.length
        case' pos =>
          obtain ⟨h1, off1, hsq, hh1, d1⟩ := RdS.cell (SlE.rd HI.out.2.1 (fun _ => rfl)) hmt
          have hm1 : (m : Int) < (out.length : Int) := by omega
          have HN : Hid (∀ i y, i < m + 1 → out[i]? = some y → nmLt out[m] x → nmLt y x) := Lib.hid (by
            intro i y hi hy hlt2
            rcases Nat.lt_or_ge i m with h | h
            · exact HI.out.1 i y h hy
            · obtain rfl : i = m := by omega
              rw [List.getElem?_eq_getElem hmt] at hy
              cases hy
              exact hlt2)
          have HAT : Hid (out[m]? = some out[m]) := Lib.hid (List.getElem?_eq_getElem hmt)
          generalize out[m] = y at *
          subst hsq
          by_cases hyx : nmLt y x
          case pos =>
            have hq : Op.bytesLess y.toList x.toList = true := by rw [bytesLess_eq, Lib.toList_data, Lib.toList_data]; exact decide_eq_true hyx
            go_wp2_with fail
            go_quiet (fail)
            go_wp2
            go_roundw
            case rel => exact ⟨m + 1, by omega, by go_num, Lib.hid ⟨fun i z hi hz => HN.out i z hi hz hyx, SlE.below HI.out.2.1 (drewN_below _ _), HI.out.2.2.trans ((drewN_below _ _).mono HI.out.2.2.size)⟩⟩
            case measure => simp [intOf]; omega
          have hq : Op.bytesLess y.toList x.toList = false := by rw [bytesLess_eq, Lib.toList_data, Lib.toList_data]; exact decide_eq_false hyx
          have H2N : Hid (∀ z, out[m]? = some z → ¬ nmLt z x) := Lib.hid (by intro z hz; rw [HAT.out] at hz; cases hz; exact hyx)
          clear HN
          go_wp2_with fail
          go_quiet (fail)
          by_cases hxy : y = x
          case pos =>
            subst hxy
            have hq2 : (y.toList == y.toList) = true := by simp
            go_wp2_with fail
            go_quiet (fail)
            go_wp2
            go_roundw
            case rel => exact ⟨j + 1, out, by omega, by go_num, Lib.hid ⟨SlE.below HI.out.2.1 (drewN_below _ _), HSAME.out m HAT.out, HI.out.2.2.trans ((drewN_below _ _).mono HI.out.2.2.size)⟩⟩
            case measure => simp [intOf]; omega
          have hq2 : (y.toList == x.toList) = false := by rw [beq_eq_false_iff_ne]; exact fun h => hxy (str_ext h)
          have H3N : Hid (¬ out[m]? = some x) := Lib.hid (by rw [HAT.out]; intro h; cases h; exact hxy rfl)
          clear HAT hyx hxy
          go_wp2_with fail
          go_quiet (fail)
        case' neg =>
          have H2N : Hid (∀ z, out[m]? = some z → ¬ nmLt z x) := Lib.hid (by intro z hz; rw [List.getElem?_eq_none (by omega)] at hz; cases hz)
          have H3N : Hid (¬ out[m]? = some x) := Lib.hid (by rw [List.getElem?_eq_none (by omega)]; intro h; cases h)
          go_wp2_with fail
          go_quiet (fail)
          go_wp2_with fail
          go_quiet (fail)
        all_goals
          go_wp2_with fail
          refine wp_from wr ?hb ?_
          case hb => exact ⟨rfl, rfl, rfl, Nat.le_refl _, fun _ _ => rfl⟩
          intro wz hz
          have d3 : wz.cell? ⟨h2, off2 + j, none⟩ = some (.string x) := ((HI.out.2.2.trans (hz.mono HI.out.2.2.size)).cell (p := ⟨h2, off2 + j, none⟩) hh2).trans HCX.out
          have HSL := Lib.hid (SlE.below HI.out.2.1 hz)
          have HBZ := Lib.hid (HI.out.2.2.trans (hz.mono HI.out.2.2.size))
          have HLO := Lib.hid HI.out.1
          have hlz : h2 < wz.heap.size := by have := HBZ.out.size; omega
          have HTX : Hid (∀ w', Below wz.heap.size wz w' → Calls Tryd.prog 101 #[.slice _ m cq] w' fun e w'' => (∃ v, e = .returned v ∧ SlS w'' wz.heap.size v (out.take m)) ∧ Below w'.heap.size w' w'') :=
            Lib.hid fun w' hb => (texts_any (rd_take (RdE.below (SlE.rd HSL.out (fun _ => rfl)) hb) hm) (by rw [List.length_take]; omega)).mono fun e w'' ⟨⟨v, he, hs⟩, h2⟩ => ⟨⟨v, he, hs.mono hb.size⟩, h2⟩
          have S : ∀ w', Below wz.heap.size wz w' → w'.cell? ⟨h2, off2 + j, none⟩ = some (.string x) := fun w' hb => (hb.cell (p := ⟨h2, off2 + j, none⟩) hlz).trans d3
          have HLT := Lib.hid hlt
          have hmcq : m ≤ cq := by omega
          clear HI d2 d3 hz
          go_wp2_with fail
          apply wp_region_tail 9 _ (by kernel_rfl) (by kernel_rfl) (by kernel_rfl) (by decide) (fun w' => Below wz.heap.size wz w') (fun w' w'' => Below w'.heap.size w' w'') (fun w' w'' h1 h2 => bl_trans h1 h2) (Below.refl _ _).drew
          simp only [List.take_succ_cons, List.take_zero, List.drop_succ_cons, List.drop_zero]
          repeat (first
            | (apply wpRel_skip (by rfl)
               simp only [Act.put, List.setIfInBounds_toArray, List.set_cons_zero, List.set_cons_succ])
            | (apply wpRel_fix (by rfl)
               · intro w' hC hf R hR
                 have hS := S w' hC
                 go_simp
                 exact hR _ (Below.refl _ _)
               simp only [Act.put, List.setIfInBounds_toArray, List.set_cons_zero, List.set_cons_succ]))
          apply wpRel_rel (fun v w => SlS w wz.heap.size v (out.take m)) (by rfl) (fun v w w' h hb => h.below hb)
          · intro w' hC hf R hR
            go_simp
            (with_reducible refine (HTX.out w' hC).mono ?_)
            rintro e w'' ⟨⟨v, rfl, hs⟩, hb⟩
            exact ⟨v, rfl, hR _ _ hs hb⟩
          intro v1
          simp only [Act.put, List.setIfInBounds_toArray, List.set_cons_zero, List.set_cons_succ]
          repeat (first
            | (apply wpRel_skip (by rfl)
               simp only [Act.put, List.setIfInBounds_toArray, List.set_cons_zero, List.set_cons_succ])
            | (apply wpRel_fix (by rfl)
               · intro w' hC hf R hR
                 have hS := S w' hC
                 go_simp
                 exact hR _ (Below.refl _ _)
               simp only [Act.put, List.setIfInBounds_toArray, List.set_cons_zero, List.set_cons_succ]))
          apply wpRel_rel (fun v w => RdS w v [x]) (by rfl) (fun v w w' h hb => h.below hb)
          · intro w' hC hf R hR
            go_simp
            exact hR _ _ (RdE.one (x := x) (Row.new w' 9 (encS x))) (bl_alloc (Below.refl _ _) _)
          intro v2
          simp only [Act.put, List.setIfInBounds_toArray, List.set_cons_zero, List.set_cons_succ]
          refine wpRel_nil (fun w4 hC hf => ?_)
          have f2 := hf _ (List.mem_cons_self ..)
          have f1 := hf _ (List.mem_cons_of_mem _ (List.mem_cons_self ..))
          clear hf S
          have hlm : (out.take m).length = m := by rw [List.length_take]; omega
          apply wpList_app strT rfl _ _ rfl rfl f1 rfl f2 (by rw [hlm]; exact small_max (by simp; omega)) (by rw [hlm]; simp; omega) hC.size
          intro v5 w5 hs5 ht5
          have HS5 := Lib.hid hs5
          have hb5 : Below wz.heap.size wz w5 := hC.trans (ht5.below hC.size (fun y hy => (SlE.lt f1 y hy).1))
          have HB5 := Lib.hid hb5
          have HRD5 := Lib.hid (SlE.rd (SlE.below HSL.out hb5) (fun _ => rfl))
          clear hs5 ht5 hb5 f1 f2 hC
          have HBS5 : Hid (wz.heap.size ≤ w5.heap.size) := Lib.hid HB5.out.size
          have HL5 : Hid ((out.take m ++ [x]).length + (out.drop m).length ≤ 1000) := Lib.hid (by rw [List.length_append, hlm, List.length_drop]; simp; omega)
          clear hlm
          by_cases hcl : cq = m
          case' pos =>
            have hq0 : out.length - m = 0 := by omega
            have HRT : Hid (∀ sp, RdS w5 (.slice sp 0 0) (out.drop m)) := Lib.hid (fun sp => by rw [List.drop_of_length_le (by omega)]; exact ⟨_, _, rfl, Nat.le_refl _, fun _ => rfl, fun h => (h rfl).elim⟩)
            have hml : m ≤ out.length := hm
            subst hcl
          case' neg =>
            have hcl2 : (cq = m) = False := by simp [hcl]
            try (obtain ⟨a, rfl⟩ : ∃ a, sq = some a := by
                  cases sq with
                  | none => have := rd_none HRD5.out; omega
                  | some a => exact ⟨a, rfl⟩)
            have HRT := Lib.hid (rd_drop HRD5.out hm hcl)
          all_goals
            go_wp2_with (at_builtin; refine wpList_app strT rfl _ _ rfl rfl HS5.out rfl (by first | exact HRT.out | exact HRT.out _ | (have h := HRT.out; rw [add_plain] at h; exact h) | (have h := HRT.out; rw [show out.length - m = 0 by omega] at h; exact h)) (by have := HL5.out; exact small_max (by omega)) (by have := HL5.out; omega) HBS5.out ?_; intro v6 w6 hs6 ht6; have HS6 := Lib.hid hs6; have HB6 := Lib.hid (ht6.below HBS5.out (fun y hy => (SlE.lt HS5.out y hy).1)); clear hs6 ht6)
            go_roundw
            case rel => exact ⟨j + 1, insAt out _ x, by omega, by go_num, Lib.hid ⟨SlE.mono HS6.out HBZ.out.size, HINS.out _ hm HLO.out H2N.out H3N.out, HBZ.out.trans ((HB5.out.trans HB6.out).mono HBZ.out.size)⟩⟩
            case measure => simp [intOf]; omega
    · obtain rfl : j = ks.length := by omega
      go_wp2
      go_ret
      exact ⟨⟨_, rfl, by rw [← SortedTo.all HI.out.2.1]; exact HI.out.1⟩, HI.out.2.2⟩

theorem byte_mem (s : ByteArray) (j : Nat) (h : j < s.size) : s[j] ∈ s.data.toList := by
  have : s[j] = s.data.toList[j]'(by simpa using h) := rfl
  rw [this]
  exact List.getElem_mem _
theorem byte_take (s : ByteArray) (j : Nat) (h : j < s.size) : s.data.toList.take (j + 1) = s.data.toList.take j ++ [s[j]] := by
  rw [List.take_succ_eq_append_getElem (by simpa using h)]; rfl

set_option maxHeartbeats 1000000 in
theorem refname_any (s : ByteArray) (w : World) :
    Calls Tryd.prog 64 #[.string s] w fun e w' => e = .returned (.int .i64 (nmCode s)) ∧ w = w' := by
  by_cases h0 : s.data.toList = []
  · have hn : nmCode s = 109 := by unfold nmCode; rw [if_pos h0]
    rw [hn]
    have h0' : s.toList = [] := by rw [ByteArray.toList_eq]; exact h0
    clear hn h0
    go_enter Tryd.func64, Tryd.ntmps64
    go_wp2
    go_ret
    exact ⟨rfl, rfl⟩
  have h0' : ¬ s.toList = [] := by rw [ByteArray.toList_eq]; exact h0
  have h0'' : s.toList.isEmpty = false := by simpa using h0'
  by_cases h1 : 24 < s.size
  · have hn : nmCode s = 115 := by unfold nmCode; rw [if_neg h0, if_pos h1]
    rw [hn]
    clear hn h0
    have h1' : (24 : Int) < s.size := by omega
    go_enter Tryd.func64, Tryd.ntmps64
    go_wp2
    go_ret
    exact ⟨rfl, rfl⟩
  have h1' : ¬ (24 : Int) < s.size := by omega
  obtain ⟨r, hr⟩ : ∃ r, r = nmCode s := ⟨_, rfl⟩
  rw [← hr]
  unfold nmCode at hr
  rw [if_neg h0, if_neg h1] at hr
  have HR := Lib.hid hr
  have hs24 : s.size ≤ 24 := by omega
  clear hr h0 h1
  go_enter Tryd.func64, Tryd.ntmps64
  go_wp2_with fail
  go_loop [3] (fun v => ∃ j : Nat, j ≤ s.size ∧ v = .int .i64 j ∧ Hid (∀ c ∈ s.data.toList.take j, c ≠ 47 ∧ c ≠ 0)) (fun v => s.size - (intOf v).toNat)
  case atStart => exact ⟨0, Nat.zero_le _, rfl, Lib.hid (by simp)⟩
  case round =>
    obtain ⟨j, hj, rfl, HI⟩ := hrel
    by_cases hlt : j < s.size
    · have HM := Lib.hid (byte_mem s j hlt)
      have HT := Lib.hid (byte_take s j hlt)
      by_cases h47 : s[j] = 47
      · have hr : r = 114 := by
          rw [HR.out, if_pos]
          have := HM.out
          rw [h47] at this
          simp only [Bool.or_eq_true, List.contains_iff_mem]
          exact .inl this
        have q1 : ((s[j].toNat : Int) == 47) = true := by rw [h47]; rfl
        subst hr
        clear HR h47
        go_wp2
        go_ret
        exact ⟨rfl, rfl⟩
      by_cases h00 : s[j] = 0
      · have hr : r = 114 := by
          rw [HR.out, if_pos]
          have := HM.out
          rw [h00] at this
          simp only [Bool.or_eq_true, List.contains_iff_mem]
          exact .inr this
        have q1 : ((s[j].toNat : Int) == 47) = false := by rw [h00]; rfl
        have q2 : ((s[j].toNat : Int) == 0) = true := by rw [h00]; rfl
        subst hr
        clear HR h47 h00
        go_wp2
        go_ret
        exact ⟨rfl, rfl⟩
      have q1 : ((s[j].toNat : Int) == 47) = false := by
        rw [beq_eq_false_iff_ne]
        intro h
        exact h47 (UInt8.toNat_inj.1 (by simpa using (by omega : s[j].toNat = 47)))
      have q2 : ((s[j].toNat : Int) == 0) = false := by
        rw [beq_eq_false_iff_ne]
        intro h
        exact h00 (UInt8.toNat_inj.1 (by simpa using (by omega : s[j].toNat = 0)))
      have HN := Lib.hid (And.intro h47 h00)
      clear h47 h00
      go_wp2
      go_round
      case rel =>
        refine ⟨j + 1, by omega, by go_num, Lib.hid ?_⟩
        intro c hc
        rw [HT.out] at hc
        rcases List.mem_append.1 hc with hc | hc
        · exact HI.out c hc
        · rw [List.mem_singleton.1 hc]; exact HN.out
      case measure => simp [intOf]; omega
    · obtain rfl : j = s.size := by omega
      have hr : r = 0 := by
        rw [HR.out, if_neg]
        have h := HI.out
        rw [List.take_of_length_le (by simp)] at h
        simp only [Bool.or_eq_true, List.contains_iff_mem]
        rintro (h2 | h2)
        · exact (h _ h2).1 rfl
        · exact (h _ h2).2 rfl
      subst hr
      clear HR
      go_wp2
      go_ret
      exact ⟨rfl, rfl⟩

theorem refspecial_any (s : ByteArray) (w : World) :
    Calls Tryd.prog 65 #[.string s] w fun e w' => e = .returned (.bool (nmSpecial s)) ∧ w = w' := by
  cases h1 : (s.toList == [46])
  all_goals
    go_enter Tryd.func65, Tryd.ntmps65
    go_wp2
    go_ret
    exact ⟨ret_bool (by unfold nmSpecial; simp [h1]), rfl⟩
end Go.Proofs.YthominkfjfnkbaaDoor
