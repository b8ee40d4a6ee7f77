/- slices.Values over a slice of strings; what slices.Sorted makes of it. -/
import Derived.Test.YthominkfjfnkbaaDoorDirAll
import Derived.RangeFuncBox
import Derived.RangeFuncLeaves
import Derived.Shelf.Abstract
import Derived.WalkKit
import Derived.OwnWalkIn
import Derived.TacticsInMore
import Derived.LoopNIn
import Derived.LoopIn
import Derived.Maps.AppendAt
namespace Go.Proofs.YthominkfjfnkbaaDoor
open Go Go.RowKit Go.Shelf Go.Sort
open Go.Proofs (encStr)
set_option maxRecDepth 100000
set_option linter.unusedSimpArgs false
attribute [local go_sem] Oper.semAt_some

set_option maxHeartbeats 2000000 in
theorem vals1_in (F : Fence) (n : Nat) (h7 : F.fn 123) (hro : F.round = none) (hn : 1 ≤ n) (l Bs n₀ b off cap : Nat) (zs : List (List UInt8)) (hreach : zs.length ≤ 1000000) (hb : b < n₀) (J Jx : List (List UInt8) → World → Prop)
    (hY : ∀ pre x W, J pre W → pre.length < zs.length → YieldAt F (n - 1) Tryd.prog l #[.string ⟨x.toArray⟩] W fun e W' =>
      (e = .returned (.bool true) ∧ J (pre ++ [x]) W' ∧ Below n₀ W W') ∨ (e = .returned (.bool false) ∧ Jx (pre ++ [x]) W'))
    (W : World) (hBs : W.cell? ⟨Bs, 0, none⟩ = some (.slice (some ⟨b, off, none⟩) zs.length cap)) (hc : ∀ j x, zs[j]? = some x → W.cell? ⟨b, off + j, none⟩ = some (.string ⟨x.toArray⟩)) (h0 : J [] W) :
    CallsIn F n Tryd.prog 123 #[.func (.yield l) #[] #[], .pointer (some ⟨Bs, 0, none⟩)] W fun e W' => (∃ v, e = .returned v) ∧
      ((∃ ys, ys = zs ∧ J ys W') ∨ (∃ pre, pre <+: zs ∧ Jx pre W')) := by
  refine callsIn_of_wp Tryd.func123 rfl h7 ?_ hro
  simp only [Tryd.ntmps123, List.size_toArray, List.length_cons, List.length_nil, Nat.reduceAdd, Nat.reduceSub, Array.replicate_succ, Array.replicate_zero, List.push_toArray, List.append_toArray, List.nil_append, List.cons_append]
  gi_wp2
  gi_loopw [7] (fun i wr => ∃ k : Nat, k ≤ zs.length ∧ i = .int .i64 k ∧ J (zs.take k) wr ∧ Below n₀ W wr)
    (fun i _ => zs.length - (intOf i).toNat)
  case atStart => exact ⟨0, Nat.zero_le _, rfl, h0, Below.refl _ _⟩
  case round =>
    obtain ⟨k, hk, rfl, hJs, hnx⟩ := hrel
    by_cases hlt : k < zs.length
    · have hcx : wr.cell? ⟨b, off + k, none⟩ = some (.string ⟨zs[k].toArray⟩) := (hnx.cell (p := ⟨b, off + k, none⟩) hb).trans (hc k _ (List.getElem?_eq_getElem hlt))
      have hts : zs.take (k + 1) = zs.take k ++ [zs[k]] := List.take_succ_eq_append_getElem hlt
      obtain ⟨fn, tmps, assign, body, hy, hR⟩ := hY (zs.take k) zs[k] wr hJs (by rw [List.length_take]; omega)
      rw [← hts] at hR
      clear hts hc hY
      generalize zs[k] = zk at *
      gi_wp2
      refine hR.mono ?_
      rintro e W3 (⟨rfl, hJ3, hk3⟩ | ⟨rfl, hJx3⟩)
      · gi_wp2
        go_roundw
        case rel => exact ⟨k + 1, by omega, by simp, hJ3, hnx.trans hk3⟩
        case measure => simp [intOf]; omega
      · gi_wp2
        refine bodyPost_ret (results_none rfl _ _ _) rfl ?_
        exact ⟨⟨_, rfl⟩, .inr ⟨_, List.take_prefix _ _, hJx3⟩⟩
    · obtain rfl : k = zs.length := by omega
      gi_wp2
      go_end0
      exact ⟨⟨_, rfl⟩, .inl ⟨_, List.take_length, hJs⟩⟩

set_option maxHeartbeats 1000000 in
theorem vals1_nil_in (F : Fence) (n : Nat) (h7 : F.fn 123) (hro : F.round = none) (l Bs : Nat) (sp : Option Addr) (cap : Nat) (J : List (List UInt8) → World → Prop) (W : World) (hBs : W.cell? ⟨Bs, 0, none⟩ = some (.slice sp 0 cap)) (h0 : J [] W) :
    CallsIn F n Tryd.prog 123 #[.func (.yield l) #[] #[], .pointer (some ⟨Bs, 0, none⟩)] W fun e W' => (∃ v, e = .returned v) ∧ J [] W' := by
  refine callsIn_of_wp Tryd.func123 rfl h7 ?_ hro
  simp only [Tryd.ntmps123, List.size_toArray, List.length_cons, List.length_nil, Nat.reduceAdd, Nat.reduceSub, Array.replicate_succ, Array.replicate_zero, List.push_toArray, List.append_toArray, List.nil_append, List.cons_append]
  gi_wp2
  gi_loopw [7] (fun i wr => i = .int .i64 0 ∧ J [] wr) (fun _ _ => 0)
  case atStart => exact ⟨rfl, h0⟩
  case round =>
    obtain ⟨rfl, hJs⟩ := hrel
    gi_wp2
    go_end0
    exact ⟨⟨_, rfl⟩, hJs⟩

/-- What v reads: these texts, in a block below n₀ where there are some. -/
theorem vals_stops (F : Fence) (n : Nat) (h7 : F.fn 123) (hro : F.round = none) (hn : 1 ≤ n) (Bs n₀ : Nat) (sv : Value) (ks : List ByteArray) (hreach : ks.length ≤ 1000000) (w0 w : World) (hw0 : Below w0.heap.size w0 w) (hBs : Bs < w.heap.size) (hn₀ : w0.heap.size ≤ n₀) (hn₁ : n₀ ≤ w.heap.size)
    (hc : w.cell? ⟨Bs, 0, none⟩ = some sv) (r : RdE w0 1 encS sv ks) :
    SeqStopsK F n Tryd.prog 123 #[.pointer (some ⟨Bs, 0, none⟩)] (fun x : List UInt8 => #[.string ⟨x.toArray⟩]) (Below n₀) (fun ys => ys = ks.map (·.data.toList)) (fun pre => pre <+: ks.map (·.data.toList)) ks.length w := fun l J Jx W hW _ _ hY h0 => by
  have hc' := (hW.cell (p := ⟨Bs, 0, none⟩) hBs).trans hc
  obtain ⟨sp, cap, rfl, _, _, h3⟩ := r
  by_cases hk : ks = []
  · subst hk
    exact (vals1_nil_in F n h7 hro l Bs sp cap J W hc' h0).mono fun e W' ⟨he, hj⟩ => ⟨he, .inl ⟨_, rfl, hj⟩⟩
  · obtain ⟨h, off, rfl, hh, hcs⟩ := h3 hk
    have hbb : Below w0.heap.size w0 W := hw0.trans (hW.mono (Nat.le_trans hn₀ hn₁))
    have := vals1_in F n h7 hro hn l Bs n₀ h off cap (ks.map (·.data.toList)) (by simpa using hreach) (by omega) J Jx (fun pre x W1 hJ hl => hY pre x W1 hJ (by simpa using hl)) W (by simpa using hc') (fun j x hx => by
      rw [List.getElem?_map] at hx
      obtain ⟨k, hkk, rfl⟩ := Option.map_eq_some_iff.1 hx
      rw [hbb.cell (p := ⟨h, off + j, none⟩) hh]
      have hj := (List.getElem?_eq_some_iff.1 hkk).1
      have := hcs j 0 hj (by omega)
      rw [Nat.mul_one, Nat.add_zero] at this
      rw [this, hkk]
      simp [encS]) h0
    exact this

theorem str_inf : (Tryd.prog.info? 9).map (fun i => (i.zero, i.size, i.bytes)) = some (some (.string ⟨#[]⟩), 1, 16) := by kernel_rfl

set_option maxHeartbeats 2000000 in
theorem appseq_in (F : Fence) (n : Nat) (h11 : F.fn 140) (hro : F.round = none) (hn : 2 ≤ n) (g : Nat) (lb : Array Value) (hFg : F.fn g) (eg : ∀ args w, (callFunc g args).run Tryd.prog w = .ok (.enter g args) w)
    (zs : List (List UInt8)) (hz : zs.length ≤ 1000000) (n₀ : Nat) (w : World) (hn₀ : n₀ ≤ w.heap.size) (hseq : SeqStopsK F (n - 1) Tryd.prog g lb (fun x : List UInt8 => #[.string ⟨x.toArray⟩]) (Below n₀) (fun ys => ys = zs) (fun pre => pre <+: zs) zs.length w) :
    CallsIn F n Tryd.prog 140 #[.slice none 0 0, .func (.func g) #[] lb] w fun e w' => ∃ v, e = .returned v ∧
      w'.ownsRow w.heap.size 9 1 v zs.length (zs.map encStr) ∧ Below w.heap.size w w' := by
  have h1 : 1 ≤ n := by omega
  obtain ⟨i0, hi, hz0, hz1, hz2⟩ := info_parts str_inf
  refine callsIn_of_wp_marks Tryd.func140 rfl h11 ?_ hro
  simp only [Tryd.ntmps140, List.size_toArray, List.length_cons, List.length_nil, Nat.reduceAdd, Nat.reduceSub, Array.replicate_succ, Array.replicate_zero, List.push_toArray, List.append_toArray, List.nil_append, List.cons_append]
  gi_wp2
  have bO := Boxed.new w 92 (.slice none 0 0)
  have hB0 : Below w.heap.size w (w.alloc (.cells #[.slice none 0 0] 92)) := (Below.refl _ w).alloc (Nat.le_refl _) _
  refine wpIn_rangeFunc_ownG hro h1 (gf := g) (lb := lb) rfl hFg eg hseq belowK_t (belowK_b (by simp; omega)) hB0 (fun _ => rfl)
    (fun pre W => (∃ v, Boxed W w.heap.size 92 v ∧ W.ownsRow w.heap.size 9 1 v pre.length (pre.map encStr) ∧ True) ∧ Below w.heap.size w W)
    (fun _ _ _ => False)
    (OwnFrom.and (Own.from (holdsRow_own w.heap.size w.heap.size 92 9 1 (fun pre : List (List UInt8) => pre.length) (fun pre => pre.map encStr) (fun _ _ => True)) _) (ownFrom_below (Nat.le_refl _) (by simp)))
    (fun _ _ _ _ _ hs _ _ => hs)
    ⟨⟨_, bO, World.ownsRow_nil _ _ _ _, trivial⟩, hB0⟩
    (fun x => { tmps := #[.slice none 0 0, .func (.func g) #[] lb, .pointer (some ⟨w.heap.size, 0, none⟩), undef, .slice none 0 0, .string ⟨x.toArray⟩, .func (.func g) #[] lb, .string ⟨x.toArray⟩, undef, undef, undef, undef, undef], defers := [] }) ?assign ?body ?done ?stop
  case assign =>
    intro l x W K hK
    gi_wp2
    exact hK
  case body =>
    rintro l pre x W ⟨⟨v, hv, hrow, -⟩, hB⟩ hlt
    have hc := hv.cell
    gi_wp2_with (gi_at_builtin; refine wpListIn_append_own _ rfl _ _ 92 rfl w.heap.size 9 i0 (.string ⟨#[]⟩) 1 16 Tryd.underlying92 hi hz0 hz1 hz2 rfl (by decide) _ _ _ rfl (hrow.alloc _) ⟨W.heap.size, 0, none⟩ 1 1 [.string ⟨x.toArray⟩] rfl rfl (cell_one_new _ _ _) (by simp [Value.oneCell']) (by unfold maxLen; omega) (by omega) (by have := hB.size; simp; omega) ?_; intro v' w1 hown' hgrow _; obtain ⟨g', cap', rfl⟩ := ownsRow_succ hown'; obtain ⟨hv1, hv2, hr2, hk2, hb2⟩ := hv.appended (by decide) hrow hB.size (Nat.le_refl _) hown' hgrow; have hc1 := hv1.cell; have hf1 := hv1.frozen)
    exact ⟨hk2.from _, hb2.mono hn₀, ⟨_, hv2, by simpa [encStr] using hr2, trivial⟩, hB.trans hb2⟩
  case done =>
    rintro D ys W hD rfl ⟨⟨v, hv, hrow, -⟩, hB⟩ hK
    have hc := hv.cell
    gi_wp2
    refine ⟨by simp, .inl ⟨_, _, rfl, run_takeDeferred hK, ?_⟩⟩
    exact ⟨_, results_tmp rfl _ _ _, v, rfl, ownsRow_putObj hrow _ hK rfl, hB.trans (belowK_b (w := w) (Nat.le_refl _) W D _ _ (by simp at hD; omega) hK rfl rfl)⟩
  case stop =>
    rintro D c pre W _ _ h _
    exact h.elim

theorem collect_in (F : Fence) (n : Nat) (h8 : F.fn 120) (h11 : F.fn 140) (hro : F.round = none) (hn : 3 ≤ n) (g : Nat) (lb : Array Value) (hFg : F.fn g) (eg : ∀ args w, (callFunc g args).run Tryd.prog w = .ok (.enter g args) w)
    (zs : List (List UInt8)) (hz : zs.length ≤ 1000000) (n₀ : Nat) (w : World) (hn₀ : n₀ ≤ w.heap.size) (hseq : SeqStopsK F (n - 1 - 1) Tryd.prog g lb (fun x : List UInt8 => #[.string ⟨x.toArray⟩]) (Below n₀) (fun ys => ys = zs) (fun pre => pre <+: zs) zs.length w) :
    CallsIn F n Tryd.prog 120 #[.func (.func g) #[] lb] w fun e w' => ∃ v, e = .returned v ∧ w'.ownsRow w.heap.size 9 1 v zs.length (zs.map encStr) ∧ Below w.heap.size w w' := by
  have h1 : 1 ≤ n := by omega
  refine callsIn_of_wp Tryd.func120 rfl h8 ?_ hro
  simp only [Tryd.ntmps120, List.size_toArray, List.length_cons, List.length_nil, Nat.reduceAdd, Nat.reduceSub, Array.replicate_succ, Array.replicate_zero, List.push_toArray, List.append_toArray, List.nil_append, List.cons_append]
  gi_wp2_with (gi_at_call 140; refine (appseq_in F (n - 1) h11 hro (by omega) g lb hFg eg zs hz n₀ _ hn₀ hseq).mono ?_; rintro e w' ⟨v, rfl, hrow, hb⟩)
  go_ret
  exact ⟨v, rfl, hrow, hb⟩

/-- A list of texts sorted. -/
def sortL (ks : List ByteArray) : List ByteArray := ((ks.map (·.data.toList)).mergeSort fun x y => decide (x ≤ y)).map nmOf
theorem sortL_len (ks : List ByteArray) : (sortL ks).length = ks.length := by simp [sortL, List.length_mergeSort]

theorem values_any (sp : Option Addr) (n cap : Nat) (w : World) : Calls Tryd.prog 98 #[.slice sp n cap] w fun e w' =>
    e = .returned (.func (.func 123) #[] #[.pointer (some ⟨w.heap.size, 0, none⟩)]) ∧ w' = w.alloc (.cells #[.slice sp n cap] 92) := by
  go_enter Tryd.func98, Tryd.ntmps98
  go_wp2
  go_ret
  exact ⟨rfl, rfl⟩

set_option maxHeartbeats 1000000 in
theorem sorted_vals_in (F : Fence) (n : Nat) (h6 : F.fn 95) (h8 : F.fn 120) (h9 : F.fn 121) (h11 : F.fn 140) (hro : F.round = none) (hn : 4 ≤ n)
    (hsort : AnyZ.SortsIn Tryd.prog Tryd.sortedS_ren F (n - 1)) (g : Nat) (lb : Array Value) (hFg : F.fn g) (eg : ∀ args w, (callFunc g args).run Tryd.prog w = .ok (.enter g args) w)
    (zs : List (List UInt8)) (hz : zs.length ≤ 1000000) (n₀ : Nat) (w : World) (hn₀ : n₀ ≤ w.heap.size) (hseq : SeqStopsK F (n - 1 - 1 - 1) Tryd.prog g lb (fun x : List UInt8 => #[.string ⟨x.toArray⟩]) (Below n₀) (fun ys => ys = zs) (fun pre => pre <+: zs) zs.length w) :
    CallsIn F n Tryd.prog 95 #[.func (.func g) #[] lb] w fun e w' => ∃ v, e = .returned v ∧ w'.ownsRow w.heap.size 9 1 v zs.length ((zs.mergeSort (fun x y => decide (x ≤ y))).map encStr) ∧ Below w.heap.size w w' := by
  have h1 : 1 ≤ n := by omega
  have e9 : ∀ args w, (callFunc 121 args).run Tryd.prog w = .ok (.enter 121 args) w := enters_of Tryd.func121 (by kernel_rfl) rfl
  refine callsIn_of_wp Tryd.func95 rfl h6 ?_ hro
  simp only [Tryd.ntmps95, List.size_toArray, List.length_cons, List.length_nil, Nat.reduceAdd, Nat.reduceSub, Array.replicate_succ, Array.replicate_zero, List.push_toArray, List.append_toArray, List.nil_append, List.cons_append]
  gi_wp2_with (gi_at_call 120; refine (collect_in F (n - 1) h8 h11 hro (by omega) g lb hFg eg zs hz n₀ _ hn₀ hseq).mono ?_; rintro e W ⟨v, rfl, hrow, hb⟩)
  rcases hrow.2 with ⟨rfl, hz⟩ | ⟨gb, cap, cur, rfl, hbase, hgb, r1, r2, r3, r4⟩
  · have hss : zs = [] := List.eq_nil_of_length_eq_zero hz
    subst hss
    have c2 := hsort.2 none 0 W
    gi_wp2_with (gi_at_call 121; refine c2.mono ?_; rintro e w' ⟨rfl, rfl⟩)
    go_ret
    exact ⟨.slice none 0 0, rfl, by simpa using hrow, hb⟩
  · have hH : Holds encStr W gb 0 zs.toArray := holds_of_block hgb (by simpa using r4)
    have hgl : gb < W.heap.size := (Array.getElem?_eq_some_iff.1 hgb).1
    have hsz : zs.length < 4611686018427387904 := by omega
    have cS := hsort.1 gb 0 cap zs W hH hgl hsz
    gi_wp2_with (gi_at_call 121; refine cS.mono ?_; rintro e w' ⟨rfl, nn, os, rfl⟩)
    go_ret
    exact ⟨_, rfl, ownsRow_sorted (by simp) hbase hgb r1 r2 r3, hb.grown (grownBy_sorted _) hb.size (fun j hj => by cases hj; exact hbase)⟩

/-- slices.Sorted(slices.Values(l)). -/
theorem sorted_vals {w : World} {sp : Option Addr} {n cap : Nat} {ks : List ByteArray} (r : RdE w 1 encS (.slice sp n cap) ks) (hk : ks.length ≤ 1000000) :
    Calls Tryd.prog 95 #[.func (.func 123) #[] #[.pointer (some ⟨w.heap.size, 0, none⟩)]] (w.alloc (.cells #[.slice sp n cap] 92)) fun e w' =>
      (∃ v, e = .returned v ∧ SlE w' w.heap.size 9 1 encS v (sortL ks)) ∧ Below w.heap.size w w' := by
  have hseq := vals_stops Fence.wide (5 - 1 - 1 - 1) trivial rfl (by omega) w.heap.size (w.alloc (.cells #[.slice sp n cap] 92)).heap.size (.slice sp n cap) ks hk w (w.alloc (.cells #[.slice sp n cap] 92)) (bl_alloc (Below.refl _ _) _) (by simp) (by simp) (Nat.le_refl _) (by simp) r
  have hl : ks.length = (ks.map (·.data.toList)).length := by simp
  rw [hl] at hseq
  have c := sorted_vals_in Fence.wide 5 trivial trivial trivial trivial rfl (by omega) (sorts_S _) 123 #[.pointer (some ⟨w.heap.size, 0, none⟩)] trivial (enters_of Tryd.func123 (by kernel_rfl) rfl) (ks.map (·.data.toList)) (by simpa using hk) _ _ (Nat.le_refl _) hseq
  refine (callsIn_wide.1 c).mono fun e w' ⟨v, he, hrow, hb⟩ => ⟨⟨v, he, ?_⟩, (bl_alloc (Below.refl _ _) _).trans (hb.mono (by simp))⟩
  have hrow' : SlE w' (w.alloc (.cells #[.slice sp n cap] 92)).heap.size 9 1 encS v (sortL ks) := by
    unfold SlE sortL
    rw [flat_encS, ← map_nmOf, List.length_map, List.length_mergeSort]
    exact hrow
  exact hrow'.mono (by simp)
end Go.Proofs.YthominkfjfnkbaaDoor
