/- Merged texts: BodyKeys BodyCells. -/
import Derived.Test.YtjekpbkmhgfhoaaGreatDoorGBase33
import Derived.Test.YtjekpbkmhgfhoaaGreatDoorGBase35
import Derived.Test.YtjekpbkmhgfhoaaGreatDoorGBase14
import Derived.RangeFuncBox
import Derived.RangeFuncLeaves
import Derived.RangeFuncFrom
import Derived.RangeFuncNested
import Derived.Shelf.Abstract
import Derived.Shelf.AbstractIn
import Derived.WalkKit
import Derived.OwnWalkIn
import Derived.TacticsInMore
import Derived.RegionIn
import Derived.LoopNIn
import Derived.LoopIn
import Derived.Maps.AppendAt
section
/- maps.Keys over a map with cells as keys, slices.Collect of it, slices.SortedFunc: the cells of a map, rising. -/
namespace Go.Proofs.YtjekpbkmhgfhoaaGreatDoor
open Go Go.RowKit Go.Shelf Go.Sort Go.Maps
set_option maxRecDepth 100000
set_option linter.unusedSimpArgs false
attribute [local go_sem] Oper.semAt_some

theorem cell_inf : (Tryz.prog.info? 77).map (fun i => (i.zero, i.size, i.bytes)) = some (some (.agg #[.int .i64 0, .int .i64 0]), 2, 16) := by kernel_rfl

theorem cell_two_new (w : World) (a b : Value) (t : TypeId) : ∀ j u, [a, b][j]? = some u → (w.alloc (.cells #[a, b] t)).cell? ((⟨w.heap.size, 0, none⟩ : Addr).add j) = some u := by
  intro j u hj
  have ha : (⟨w.heap.size, 0, none⟩ : Addr).add j = ⟨w.heap.size, j, none⟩ := by unfold Addr.add; split <;> simp_all
  rw [ha]
  rcases j with _ | _ | j
  · simpa using hj
  · simpa using hj
  · simp at hj
/-- The box of a cell that a round is at. -/
def AtCell (B : Nat) (x : Cl) (mk : Nat → Act) (a : Act) (W : World) : Prop := ∃ bx, a = mk bx ∧ B ≤ bx ∧ W.heap[bx]? = some (.cells #[.int .i64 x.1, .int .i64 x.2] 77 (0, 0))
theorem atCell_own (B : Nat) (x : Cl) (mk : Nat → Act) (a : Act) : OwnFrom B (fun (_ : Unit) W => AtCell B x mk a W) := fun _ W W' row hs hg hr => by
  obtain ⟨bx, h1, h2, h3⟩ := hs
  refine ⟨bx, h1, h2, (hg.block bx (Array.getElem?_eq_some_iff.1 h3).1 fun e => ?_).trans h3⟩
  obtain ⟨_, o, ho, hc⟩ := hr bx e.symm
  rw [h3] at ho
  cases ho
  cases hc

set_option maxHeartbeats 2000000 in
theorem appseqC_in (F : Fence) (n : Nat) (h11 : F.fn 151) (hro : F.round = none) (hn : 2 ≤ n) (g : Nat) (lb : Array Value) (hFg : F.fn g) (eg : ∀ args w, (callFunc g args).run Tryz.prog w = .ok (.enter g args) w)
    (S : List Cl → Prop) (nn : Nat) (hz : nn ≤ 1000000) (w : World) (hseq : SeqStopsK F (n - 1) Tryz.prog g lb (fun x : Cl => #[encC x]) KeepsWalks S (fun _ => True) nn w) :
    CallsIn F n Tryz.prog 151 #[.slice none 0 0, .func (.func g) #[] lb] w fun e w' => ∃ v zs, e = .returned v ∧ S zs ∧
      SlE w' w.heap.size 77 2 encK v zs ∧ Below w.heap.size w w' := by
  have h1 : 1 ≤ n := by omega
  obtain ⟨i0, hi, hz0, hz1, hz2⟩ := info_parts cell_inf
  refine callsIn_of_wp_marks Tryz.func151 rfl h11 ?_ hro
  simp only [Tryz.ntmps151, List.size_toArray, List.length_cons, List.length_nil, Nat.reduceAdd, Nat.reduceSub, Array.replicate_succ, Array.replicate_zero, List.push_toArray, List.append_toArray, List.nil_append, List.cons_append]
  gi_wp2
  have bO := Boxed.new w 94 (.slice none 0 0)
  have hB0 : Below w.heap.size w (w.alloc (.cells #[.slice none 0 0] 94)) := (Below.refl _ w).alloc (Nat.le_refl _) _
  refine wpIn_rangeFunc_ownH hro h1 (gf := g) (lb := lb) rfl hFg eg hseq walksK_t walksK_b hB0 (fun _ => rfl)
    (fun pre W => (∃ v, Boxed W w.heap.size 94 v ∧ W.ownsRow w.heap.size 77 2 v pre.length (flat encK pre) ∧ True) ∧ Below w.heap.size w W)
    (fun _ _ _ => False)
    (OwnFrom.and (Own.from (holdsRow_own w.heap.size w.heap.size 94 77 2 (fun pre : List Cl => pre.length) (fun pre => flat encK pre) (fun _ _ => True)) _) (ownFrom_below (Nat.le_refl _) (by simp)))
    (fun _ _ _ _ _ hs _ _ => hs)
    ⟨⟨_, bO, World.ownsRow_nil _ _ _ _, trivial⟩, hB0⟩
    (fun x a W => AtCell (w.alloc (.cells #[.slice none 0 0] 94)).heap.size x (fun bx => { tmps := #[.slice none 0 0, .func (.func g) #[] lb, .pointer (some ⟨w.heap.size, 0, none⟩), undef, .slice none 0 0, .pointer (some ⟨bx, 0, none⟩), .func (.func g) #[] lb, .agg #[.int .i64 x.1, .int .i64 x.2], undef, undef, undef, undef, undef], defers := [] }) a W)
    (fun x a => atCell_own _ _ _ _) ?assign ?body ?done ?stop
  case assign =>
    rintro l pre ⟨x1, x2⟩ W K ⟨⟨v, hv, hrow, -⟩, hB⟩ hK
    have hk2 : KeepsOthers W (W.alloc (.cells #[.int .i64 x1, .int .i64 x2] 77)) := KeepsOthers.alloc _ _
    unfold encC
    gi_wp2
    refine hK _ _ (hk2.from _) hk2.walks ⟨⟨v, hv.alloc _, hrow.alloc _, trivial⟩, bl_alloc hB _⟩ ⟨W.heap.size, rfl, ?_, (MapKept.heap_alloc W _).1⟩
    have := hB.size
    have := hv.lt
    simp; omega
  case body =>
    rintro l pre ⟨x1, x2⟩ a' W hl hlr ⟨⟨v, hv, hrow, -⟩, hB⟩ ⟨bx, rfl, hbx, hbk⟩ hlt
    have hc := hv.cell
    have hc0 : W.cell? ⟨bx, 0, none⟩ = some (.int .i64 x1) := by simp [World.cell?, hbk]
    have hc1 : W.cell? ⟨bx, 1, none⟩ = some (.int .i64 x2) := by simp [World.cell?, hbk]
    gi_wp2_with (gi_at_builtin; refine wpListIn_append_own _ rfl _ _ 94 rfl w.heap.size 77 i0 (.agg #[.int .i64 0, .int .i64 0]) 2 16 Tryz.underlying94 hi hz0 hz1 hz2 rfl (by decide) _ _ _ rfl (hrow.alloc _) ⟨W.heap.size, 0, none⟩ 1 1 [.int .i64 x1, .int .i64 x2] rfl rfl (cell_two_new _ _ _ _) (by simp [Value.oneCell']) (by unfold maxLen; omega) (by omega) (by have := hB.size; simp; omega) ?_; intro v' w1 hown' hgrow _; obtain ⟨g', cap', rfl⟩ := ownsRow_succ hown'; obtain ⟨hv1, hv2, hr2, hk2, hb2⟩ := hv.appended (by decide) hrow hB.size (Nat.le_refl _) hown' hgrow; have hc1 := hv1.cell; have hf1 := hv1.frozen)
    have hfl : flat encK (pre ++ [(x1, x2)]) = flat encK pre ++ [.int .i64 x1, .int .i64 x2] := by rw [flat_append]; rfl
    have hll : (pre ++ [(x1, x2)]).length = pre.length + 1 := by simp
    exact ⟨hk2.from _, hk2.walks, ⟨_, hv2, by rw [hfl, hll]; exact hr2⟩, hB.trans hb2⟩
  case done =>
    rintro D ys W hD hS ⟨⟨v, hv, hrow, -⟩, hB⟩ hK
    have hc := hv.cell
    gi_wp2
    refine ⟨by simp, .inl ⟨_, _, rfl, run_takeDeferred hK, ?_⟩⟩
    exact ⟨_, results_tmp rfl _ _ _, v, ys, rfl, hS, ownsRow_putObj hrow _ hK rfl, hB.trans (belowK_b (w := w) (Nat.le_refl _) W D _ _ (by simp at hD; omega) hK rfl rfl)⟩
  case stop =>
    rintro D c pre W _ _ h _
    exact h.elim

theorem collectC_in (F : Fence) (n : Nat) (h8 : F.fn 117) (h11 : F.fn 151) (hro : F.round = none) (hn : 3 ≤ n) (g : Nat) (lb : Array Value) (hFg : F.fn g) (eg : ∀ args w, (callFunc g args).run Tryz.prog w = .ok (.enter g args) w)
    (S : List Cl → Prop) (nn : Nat) (hz : nn ≤ 1000000) (w : World) (hseq : SeqStopsK F (n - 1 - 1) Tryz.prog g lb (fun x : Cl => #[encC x]) KeepsWalks S (fun _ => True) nn w) :
    CallsIn F n Tryz.prog 117 #[.func (.func g) #[] lb] w fun e w' => ∃ v zs, e = .returned v ∧ S zs ∧ SlE w' w.heap.size 77 2 encK v zs ∧ Below w.heap.size w w' := by
  have h1 : 1 ≤ n := by omega
  refine callsIn_of_wp Tryz.func117 rfl h8 ?_ hro
  simp only [Tryz.ntmps117, List.size_toArray, List.length_cons, List.length_nil, Nat.reduceAdd, Nat.reduceSub, Array.replicate_succ, Array.replicate_zero, List.push_toArray, List.append_toArray, List.nil_append, List.cons_append]
  gi_wp2_with (gi_at_call 151; refine (appseqC_in F (n - 1) h11 hro (by omega) g lb hFg eg S nn hz _ hseq).mono ?_; rintro e w' ⟨v, zs, rfl, hS, hrow, hb⟩)
  go_ret
  exact ⟨v, zs, rfl, hS, hrow, hb⟩

end Go.Proofs.YtjekpbkmhgfhoaaGreatDoor
end

section
/- The cells of a body that are there, rising. -/
namespace Go.Proofs.YtjekpbkmhgfhoaaGreatDoor
open Go Go.RowKit Go.Shelf Go.Sort Go.Maps
set_option maxRecDepth 100000
set_option linter.unusedSimpArgs false
attribute [local go_sem] Oper.semAt_some

set_option maxHeartbeats 2000000 in
theorem keysC1_inV (F : Fence) (n : Nat) (h10 : F.fn 119) (hro : F.round = none) (hn : 1 ≤ n) (l Bm b nn : Nat) (g : Cl → Option Value) (J Jx : List Cl → World → Prop)
    (hY : ∀ pre x W, J pre W → pre.length < nn → YieldAt F (n - 1) Tryz.prog l #[encC x] W fun e W' =>
      (e = .returned (.bool true) ∧ J (pre ++ [x]) W' ∧ KeepsWalks W W') ∨ (e = .returned (.bool false) ∧ Jx (pre ++ [x]) W'))
    (W : World) (hJ : AbidesFrom W.heap.size J) (hm : W.cell? ⟨Bm, 0, none⟩ = some (.map (some b))) (hown : VMap W b g nn) (h0 : J [] W) :
    CallsIn F n Tryz.prog 119 #[.func (.yield l) #[] #[], .pointer (some ⟨Bm, 0, none⟩)] W fun e W' => (∃ v, e = .returned v) ∧
      ((∃ ss : List Cl, KeysOf g ss nn ∧ J ss W') ∨ (∃ pre : List Cl, Jx pre W')) := by
  refine callsIn_of_wp Tryz.func119 rfl h10 ?_ hro
  simp only [Tryz.ntmps119, List.size_toArray, List.length_cons, List.length_nil, Nat.reduceAdd, Nat.reduceSub, Array.replicate_succ, Array.replicate_zero, List.push_toArray, List.append_toArray, List.nil_append, List.cons_append]
  gi_wp2_with (first
    | (gi_at_range; refine wpListIn_rng rfl _ _ _ rfl rfl hown Tryz.underlying114 encC_inj ?_; intro w0 ks hrg0 hk0 hk1 hb0 hs0)
    | gi_in)
  have hK : KeysOf g ks nn := ⟨hrg0.nodup, hk0, hk1⟩
  have HK := Lib.hid hK
  clear hK hk0 hk1
  go_frame
  gi_loopw [3] (fun _ wr => ∃ (left : List Cl) (cnt : Nat) (ss : List Cl), Rng encC id wr W.heap.size b g left cnt ∧ (ss ++ left).Perm ks ∧ J ss wr)
    (fun _ wr => wr.rangeLeft b W.heap.size)
  case atStart =>
    exact ⟨ks, ks.length, [], hrg0, List.Perm.refl _, hJ [] W w0 none h0 (below_grownBy hb0) (fun r e => by cases e)⟩
  case round =>
    obtain ⟨left, cnt, ss, hrg, hp, hJs⟩ := hrel
    gi_wp2_with (first
      | (gi_at_next; refine wpListIn_rnext rfl _ rfl rfl hrg encC_inj ?_ ?_)
      | gi_in)
    · intro hl0
      subst hl0
      gi_wp2
      go_end0
      exact ⟨⟨_, rfl⟩, .inl ⟨ss, HK.out.perm (by simpa using hp), hJs⟩⟩
    · intro x1 x2 v w2 cnt2 hxl hgx hrg2 hlt ht2 hen
      have hJ2 : J ss w2 := hJ ss wr w2 (some W.heap.size) hJs ht2.grownBy (fun r e => by cases e; exact ⟨Nat.le_refl _, hrg.iter_walk⟩)
      have hlen : ss.length < nn := by
        have h1 := hp.length_eq
        have h2 := HK.out.len
        have h3 : 0 < left.length := List.length_pos_of_mem hxl
        simp at h1
        omega
      have hp2 := Lib.hid (left_step hp HK.out.nodup hxl)
      have hJ3 : J ss (w2.alloc (.cells #[.int .i64 x1, .int .i64 x2] 77)) := hJ ss _ _ none hJ2 (World.grownBy_alloc w2 _ none) (fun r e => by cases e)
      have hkw : KeepsWalks w2 (w2.alloc (.cells #[.int .i64 x1, .int .i64 x2] 77)) := KeepsWalks.alloc _ _
      obtain ⟨fn, tmps, assign, body, hy, hR⟩ := hY ss (x1, x2) _ hJ3 hlen
      have HRG := Lib.hid hrg
      have HRG2 := Lib.hid hrg2
      have HKW := Lib.hid hkw
      clear hJ2 hJ3 hkw hrg hrg2 hp hJs hlen hgx hxl hrg0 hb0 hs0 ht2
      unfold encC at hy hen
      gi_wp2
      refine hR.mono ?_
      rintro e W3 (⟨rfl, hJ3, hk3⟩ | ⟨rfl, hJx3⟩)
      · gi_wp2
        have hrg3 := HRG2.out.of_walks (HKW.out.trans hk3)
        go_roundw
        case rel => exact ⟨_, cnt2, ss ++ [(x1, x2)], hrg3, by simpa using hp2.out, hJ3⟩
        case measure => rw [hrg3.left_eq, HRG.out.left_eq]; exact hlt
      · gi_wp2
        refine bodyPost_ret (results_none rfl _ _ _) rfl ?_
        exact ⟨⟨_, rfl⟩, .inr ⟨_, hJx3⟩⟩

theorem keysC_stopsV (F : Fence) (n : Nat) (h10 : F.fn 119) (hro : F.round = none) (hn : 1 ≤ n) (Bm b nn : Nat) (g : Cl → Option Value) (w : World) (hBm : Bm < w.heap.size)
    (hm : w.cell? ⟨Bm, 0, none⟩ = some (.map (some b))) (hown : VMap w b g nn) :
    SeqStopsK F n Tryz.prog 119 #[.pointer (some ⟨Bm, 0, none⟩)] (fun x : Cl => #[encC x]) KeepsWalks (fun ss => KeysOf g ss nn) (fun _ => True) nn w := fun l J Jx W hW hJ _ hY h0 =>
  (keysC1_inV F n h10 hro hn l Bm b nn g J Jx hY W hJ ((hW.cell (p := ⟨Bm, 0, none⟩) hBm).trans hm) (hown.below hW) h0).mono fun _ _ ⟨hv, h⟩ => ⟨hv, h.imp id fun ⟨pre, h⟩ => ⟨pre, trivial, h⟩⟩

theorem keysC_anyV (mb : Option Nat) (w : World) : Calls Tryz.prog 82 #[.map mb] w fun e w' =>
    e = .returned (.func (.func 119) #[] #[.pointer (some ⟨w.heap.size, 0, none⟩)]) ∧ w' = w.alloc (.cells #[.map mb] 114) := by
  go_enter Tryz.func82, Tryz.ntmps82
  go_wp2
  go_ret
  exact ⟨rfl, rfl⟩

/-- slices.Collect(maps.Keys(m)). -/
theorem collect_keysCV {w : World} {b nn : Nat} {g : Cl → Option Value} (h : VMap w b g nn) (hn : nn ≤ 1000000) :
    Calls Tryz.prog 117 #[.func (.func 119) #[] #[.pointer (some ⟨w.heap.size, 0, none⟩)]] (w.alloc (.cells #[.map (some b)] 114)) fun e w' =>
      ∃ v zs, e = .returned v ∧ KeysOf g zs nn ∧ SlE w' w.heap.size 77 2 encK v zs ∧ Below w.heap.size w w' := by
  have hseq := keysC_stopsV Fence.wide (5 - 1 - 1) trivial rfl (by omega) w.heap.size b nn g (w.alloc (.cells #[.map (some b)] 114)) (by simp) (by simp) (h.alloc _)
  have c := collectC_in Fence.wide 5 trivial trivial rfl (by omega) 119 #[.pointer (some ⟨w.heap.size, 0, none⟩)] trivial (enters_of Tryz.func119 (by kernel_rfl) rfl) _ nn hn _ hseq
  refine (callsIn_wide.1 c).mono fun e w' ⟨v, zs, he, hS, hrow, hb⟩ => ⟨v, zs, he, hS, hrow.mono (by simp), (bl_alloc (Below.refl _ _) _).trans (hb.mono (by simp))⟩

/-- slices.SortedFunc(maps.Keys(m), order). -/
theorem sortedfuncCV {w : World} {b nn : Nat} {g : Cl → Option Value} (h : VMap w b g nn) (hn : nn ≤ 1000000) :
    Calls Tryz.prog 81 #[.func (.func 119) #[] #[.pointer (some ⟨w.heap.size, 0, none⟩)], .func (.func 83) #[] #[]] (w.alloc (.cells #[.map (some b)] 114)) fun e w' =>
      (∃ v zs, e = .returned v ∧ KeysOf g zs nn ∧ zs.Pairwise cLt ∧ SlE w' w.heap.size 77 2 encK v zs) ∧ Below w.heap.size w w' := by
  have hc := collect_keysCV h hn
  go_enter Tryz.func81, Tryz.ntmps81
  go_wp2_with fail
  refine hc.mono ?_
  rintro e w1 ⟨v, zs, rfl, hk, hs, hb⟩
  have HK := Lib.hid hk
  have HB := Lib.hid hb
  have HS := Lib.hid hs
  clear hk hb hs hc h
  go_wp2_with fail
  refine (sortcells_any HS.out (by have := HK.out.len; omega) HB.out.size).mono ?_
  rintro e w2 ⟨rfl, hs2, hb2⟩
  have HS2 := Lib.hid hs2
  have HB2 := Lib.hid (HB.out.trans hb2)
  clear hs2 hb2
  go_wp2
  go_ret
  exact ⟨⟨_, _, rfl, HK.out.perm (sortC_perm _), sortC_rise HK.out.nodup, HS2.out⟩, HB2.out⟩

theorem bcells_any {w : World} {M : Nat → Prop} {b m d : Nat} {g : Cl → Option (Option (List Int))} {gd : Cl → Option Int} {n k : Nat} (h : BodyAt w M b m d g gd n k) (hk : n ≤ 1000000) :
    Calls Tryz.prog 40 #[.pointer (some ⟨b, 0, none⟩)] w fun e w' =>
      (∃ v zs, e = .returned v ∧ KeysOf g zs n ∧ zs.Pairwise cLt ∧ SlE w' w.heap.size 77 2 encK v zs) ∧ Below w.heap.size w w' := by
  have hc := h.cm
  have hlt := h.lt
  obtain ⟨gv, hgv, hrel⟩ := h.has
  have HREL := Lib.hid hrel
  have H := Lib.hid hgv
  clear h hgv hrel
  go_enter Tryz.func40, Tryz.ntmps40
  go_wp2_with fail
  refine (keysC_anyV _ _).mono ?_
  rintro e w1 ⟨rfl, rfl⟩
  go_wp2_with fail
  refine (sortedfuncCV H.out hk).mono ?_
  rintro e w1 ⟨⟨v, zs, rfl, h1, h2, h3⟩, hb⟩
  have H1 := Lib.hid h1
  have H2 := Lib.hid h2
  have H3 := Lib.hid h3
  have HB := Lib.hid hb
  clear h1 h2 h3 hb
  go_wp2
  go_ret
  refine ⟨⟨_, _, rfl, ⟨H1.out.nodup, fun c => (H1.out.mem c).trans ?_, H1.out.len⟩, H2.out, H3.out⟩, HB.out⟩
  rcases HREL.out c with ⟨e1, e2⟩ | ⟨v, o, e1, e2, _⟩
  · rw [e1, e2]
    exact Iff.rfl
  · rw [e1, e2]
    exact Iff.rfl
end Go.Proofs.YtjekpbkmhgfhoaaGreatDoor
end
