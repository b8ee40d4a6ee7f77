/- Merged texts: BodyList. -/
import Derived.Test.YtjekpbkmhgfhoaaGreatDoorPBase36
import Derived.Test.YtjekpbkmhgfhoaaGreatDoorIterI
import Derived.Sort.OwnSortedInts
section
/- The walks of package body: Lost, Of. -/
namespace Go.Proofs.YtjekpbkmhgfhoaaGreatDoor
open Go Go.RowKit Go.Maps
set_option maxRecDepth 100000
set_option linter.unusedSimpArgs false

def encI1 (x : Int) : List Value := [.int .i64 x]
theorem int_inf : (Tryz.prog.info? 3).map (fun i => (i.zero, i.size, i.bytes)) = some (some (.int .i64 0), 1, 8) := by kernel_rfl
theorem intT : ElemT Tryz.prog 98 3 1 8 encI1 :=
  ⟨Tryz.underlying98, ⟨.int .i64 0, rfl, int_inf⟩, fun _ => rfl, fun x u hu => by simp [encI1] at hu; rw [hu]; rfl, by omega⟩

/-- Which cells are lost. -/
def isLost (g : Cl → Option (Option (List Int))) (c : Cl) : Bool := match g c with
  | some none => true
  | _ => false

theorem flat_encI1 (xs : List Int) : flat encI1 xs = xs.map (Value.int .i64) := by
  induction xs with
  | nil => rfl
  | cons x xs ih => rw [flat_cons, ih]; rfl
/-- A list of numbers sorted. -/
def sortI (ks : List Int) : List Int := ks.mergeSort fun x y => decide (x ≤ y)
theorem sortI_perm (ks : List Int) : (sortI ks).Perm ks := List.mergeSort_perm _ _
theorem sortI_rise {ks : List Int} (h : ks.Nodup) : (sortI ks).Pairwise (· < ·) := by
  have h1 : (sortI ks).Pairwise fun x y => decide (x ≤ y) = true := List.pairwise_mergeSort (fun a b c h1 h2 => by simp at *; omega) (fun a b => by simp; omega) ks
  have h2 : (sortI ks).Nodup := (sortI_perm ks).nodup_iff.2 h
  refine (h1.and h2).imp fun {a b} ⟨h3, h4⟩ => ?_
  simp at h3
  omega
theorem sortints_any {w : World} {base : Nat} {v : Value} {xs : List Int} (h : SlE w base 3 1 encI1 v xs) (hl : xs.length ≤ 1000000) (hB : base ≤ w.heap.size) :
    Calls Tryz.prog 112 #[v] w fun e w' => e = .returned (.tuple #[]) ∧ SlE w' base 3 1 encI1 v (sortI xs) ∧ Below base w w' := by
  obtain ⟨hn, ⟨rfl, hz⟩ | ⟨g, cap, cur, rfl, hb, hg, h1, h2, h3, h4⟩⟩ := h
  · have : xs = [] := List.eq_nil_of_length_eq_zero hz
    subst this
    refine (show Calls Tryz.prog 112 _ _ _ from AnyM.slices_Sort_int_none Tryz.sortI none 0 w).mono ?_
    rintro e w' ⟨rfl, rfl⟩
    exact ⟨rfl, by rw [show sortI [] = [] by simp [sortI]]; exact SlE.nil _ _ _ _ _, Below.refl _ _⟩
  · have hgl : g < w.heap.size := (Array.getElem?_eq_some_iff.1 hg).1
    rw [Nat.mul_one, flat_encI1] at h4
    have hH := holds_of_blockI hg h4
    refine (show Calls Tryz.prog 112 _ _ _ from AnyM.slices_Sort_int Tryz.sortI g 0 cap xs w hH hgl (by omega)).mono ?_
    rintro e w' ⟨rfl, n, os, rfl⟩
    refine ⟨rfl, ?_, (Below.refl base w).grown (grownBy_sortedI _) hB (fun j hj => by cases hj; exact hb)⟩
    unfold SlE
    rw [flat_encI1, show (sortI xs).length = xs.length from (sortI_perm xs).length_eq]
    exact ownsRow_sortedI (sortI_perm xs).length_eq hb hg h1 h2 h3

theorem RdE.int1 {w : World} {h : Nat} {a : Int} (r : Row w h 3 [.int .i64 a]) : RdE w 1 encI1 (.slice (some ⟨h, 0, none⟩) 1 1) [a] := by
  refine ⟨_, _, rfl, by simp, (fun h => by cases h), fun _ => ⟨_, _, rfl, r.lt, fun i j hi hj => ?_⟩⟩
  obtain rfl : i = 0 := by simpa using hi
  rw [Nat.zero_mul, Nat.add_zero, Nat.zero_add, r.cell]
  rfl
/-- The indexes of a node's cells. -/
def ofN (nd : Int) (ss : List Cl) : List Int := (ss.filter fun c => c.1 == nd).map (·.2)
theorem ofN_nodup (nd : Int) {ss : List Cl} (h : ss.Nodup) : (ofN nd ss).Nodup := by
  unfold ofN
  refine (List.pairwise_map.2 ((h.filter _).imp_of_mem fun {a b} ha hb hab e => hab ?_))
  have h1 := (List.mem_filter.1 ha).2
  have h2 := (List.mem_filter.1 hb).2
  simp only [beq_iff_eq] at h1 h2
  exact Prod.ext (h1.trans h2.symm) e
theorem ofN_mem (nd : Int) {ss : List Cl} (i : Int) : i ∈ ofN nd ss ↔ (nd, i) ∈ ss := by
  unfold ofN
  rw [List.mem_map]
  constructor
  · rintro ⟨⟨c1, c2⟩, h1, rfl⟩
    obtain ⟨h2, h3⟩ := List.mem_filter.1 h1
    simp only [beq_iff_eq] at h3
    subst h3
    exact h2
  · intro h
    exact ⟨(nd, i), List.mem_filter.2 ⟨h, by simp⟩, rfl⟩

set_option maxHeartbeats 1000000 in
theorem bof_any {w : World} {M : Nat → Prop} {b m d : Nat} {g : Cl → Option (Option (List Int))} {gd : Cl → Option Int} {n k : Nat} (h : BodyAt w M b m d g gd n k) (hn : n ≤ 1000000) (nd : Int) :
    Calls Tryz.prog 71 #[.pointer (some ⟨b, 0, none⟩), .int .i64 nd] w fun e w' =>
      (∃ v zs, e = .returned v ∧ (∀ i, i ∈ zs ↔ (g (nd, i)).isSome = true) ∧ zs.Pairwise (· < ·) ∧ SlE w' w.heap.size 3 1 encI1 v zs ∧ zs.length ≤ n) ∧ Below w.heap.size w w' := by
  have hc := h.cm
  have hlt := h.lt
  have hltm := h.ltm
  obtain ⟨gv, hgv, hrel⟩ := h.has
  have HM := Lib.hid hgv
  have HSOME : Hid (∀ c, (gv c).isSome = (g c).isSome) := Lib.hid fun c => by
    rcases hrel c with ⟨h1, h2⟩ | ⟨v, o, h1, h2, _⟩
    · rw [h1, h2]; rfl
    · rw [h1, h2]; rfl
  clear h hgv hrel
  generalize hP : (fun (e : Ending) (w' : World) => (∃ v zs, e = .returned v ∧ (∀ i, i ∈ zs ↔ (g (nd, i)).isSome = true) ∧ zs.Pairwise (· < ·) ∧ SlE w' w.heap.size 3 1 encI1 v zs ∧ zs.length ≤ n) ∧ Below w.heap.size w w') = Post
  have HP := Lib.hid hP
  clear hP
  go_enter Tryz.func71, Tryz.ntmps71
  go_wp2_with (at_range; refine wpList_rng rfl _ _ _ rfl rfl HM.out Tryz.underlying114 encC_inj ?_; intro w1 ks hr hk hkn hb hz)
  have HK : Hid (KeysOf gv ks n) := Lib.hid ⟨hr.nodup, hk, hkn⟩
  have HR := Lib.hid hr
  have HB := Lib.hid hb
  have hz0 : w.heap.size ≤ w1.heap.size := Nat.le_of_lt hz
  clear hr hk hkn hb hz
  obtain ⟨rr, hrr⟩ : ∃ rr, rr = w.heap.size := ⟨_, rfl⟩
  rw [← hrr]
  rw [← hrr] at HR
  have HRR := Lib.hid hrr
  clear hrr
  go_frame
  go_loopw [5, 6] (fun v _ wr => ∃ left cnt ss, Rng encC id wr rr m gv left cnt ∧ (ss ++ left).Perm ks ∧ SlE wr (rr + 1) 3 1 encI1 v (ofN nd ss) ∧ Below w.heap.size w wr ∧ rr + 1 ≤ wr.heap.size) (fun _ _ wr => wr.rangeLeft m rr)
  case atStart => exact ⟨ks, _, [], HR.out, List.Perm.refl _, SlE.nil _ _ _ _ _, HB.out, HR.out.lt.1⟩
  case round =>
    obtain ⟨left, cnt, ss, hr, hp, hs, hb, hsz⟩ := hrel
    have HRG := Lib.hid hr
    have HPM := Lib.hid hp
    have HS := Lib.hid hs
    have HBr := Lib.hid hb
    have HSZ := Lib.hid hsz
    clear hr hp hs hb hsz HR HB
    go_wp2_with (at_next; refine wpList_rnext rfl _ rfl rfl HRG.out encC_inj ?_ ?_)
    · intro hl0
      have HL0 := Lib.hid hl0
      clear hl0
      go_wp2_with fail
      have hk := HPM.out
      rw [HL0.out, List.append_nil] at hk
      have KS := Lib.hid (HK.out.perm hk)
      clear hk
      have HLN : Hid ((ofN nd ss).length ≤ n) := Lib.hid (by
        unfold ofN
        rw [List.length_map]
        exact Nat.le_trans (List.length_filter_le _ _) (by rw [KS.out.len]; exact Nat.le_refl _))
      refine (sortints_any HS.out (Nat.le_trans HLN.out hn) HSZ.out).mono ?_
      rintro e w3 ⟨rfl, hs3, hb3⟩
      have HS3 := Lib.hid hs3
      have HB3 := Lib.hid hb3
      clear hs3 hb3
      go_wp2
      rw [← HP.out]
      have hnd := ofN_nodup nd KS.out.nodup
      have hpm := sortI_perm (ofN nd ss)
      refine ⟨⟨_, _, rfl, fun i => ?_, sortI_rise hnd, HS3.out.mono (by rw [HRR.out]; omega), ?_⟩, HBr.out.trans (HB3.out.mono (by rw [HRR.out]; omega))⟩
      · rw [hpm.mem_iff, ofN_mem, KS.out.mem, HSOME.out]
      · rw [hpm.length_eq]; exact HLN.out
    · rintro x1 x2 v w2 cnt' hk hg hr2 hlt2 ht hen
      have HR2 := Lib.hid hr2
      have HPM2 := Lib.hid (left_step HPM.out HK.out.nodup hk)
      have HLEN : Hid (ss.length < n) := Lib.hid (by
        have h1 := HPM.out.length_eq
        have h2 := HK.out.len
        have h3 : 0 < left.length := List.length_pos_of_mem hk
        simp at h1
        omega)
      have HLT := Lib.hid hlt2
      have HS2 := Lib.hid (HS.out.touch ht fun x hx e => by have := (HS.out.lt x hx).1; omega)
      have HB2 := Lib.hid (HBr.out.trans (ht.below HBr.out.size (fun y hy => by subst hy; have := HRR.out; omega)))
      have HSZ2 : Hid (rr + 1 ≤ w2.heap.size) := Lib.hid (Nat.le_trans HSZ.out ht.size)
      clear hr2 hg hk hlt2 ht
      unfold encC at hen
      by_cases hx : x1 = nd
      · have HFL : Hid (ofN nd (ss ++ [(x1, x2)]) = ofN nd ss ++ [x2]) := Lib.hid (by unfold ofN; rw [List.filter_append, List.map_append]; simp [hx])
        have hx' : (x1 == nd) = true := by rw [beq_iff_eq]; exact hx
        have HOWN : Hid (SlE ((w2.alloc (.cells #[.int .i64 x1, .int .i64 x2] 77)).alloc (.cells #[.int .i64 x2] 3)) (rr + 1) 3 1 encI1 u5 (ofN nd ss)) := Lib.hid ((HS2.out.below (bl_alloc (Below.refl _ _) _)).below (bl_alloc (Below.refl _ _) _))
        have RNEW : Hid (RdE ((w2.alloc (.cells #[.int .i64 x1, .int .i64 x2] 77)).alloc (.cells #[.int .i64 x2] 3)) 1 encI1 (.slice (some ⟨w2.heap.size + 1, 0, none⟩) 1 1) [x2]) := Lib.hid (by
          have r := Row.new (w2.alloc (.cells #[.int .i64 x1, .int .i64 x2] 77)) 3 [.int .i64 x2]
          rw [show (w2.alloc (.cells #[.int .i64 x1, .int .i64 x2] 77)).heap.size = w2.heap.size + 1 by simp] at r
          exact RdE.int1 r)
        have HFN : Hid ((ofN nd ss).length ≤ 1000000) := Lib.hid (by unfold ofN; rw [List.length_map]; have := List.length_filter_le (fun c : Cl => c.1 == nd) ss; have := HLEN.out; omega)
        have HBS : Hid (rr + 1 ≤ ((w2.alloc (.cells #[.int .i64 x1, .int .i64 x2] 77)).alloc (.cells #[.int .i64 x2] 3)).heap.size) := Lib.hid (by have := HSZ2.out; simp; omega)
        clear hx
        go_wp2_with (at_builtin; refine wpList_app intT rfl _ _ rfl rfl HOWN.out rfl RNEW.out (by have := HFN.out; unfold maxLen; simp; omega) (by have := HFN.out; simp; omega) HBS.out ?_; intro v' w' hs' ht'; have HS' := Lib.hid hs'; have HT' := Lib.hid ht'; clear hs' ht')
        have hbt := HT'.out.below HBS.out (fun x hx => (HOWN.out.lt x hx).1)
        have hrng : Rng encC id w' rr m gv (left.filter (fun x => !decide (x = (x1, x2)))) cnt' := by
          have h1 := (HR2.out.below (bl_alloc (Below.refl _ _) (.cells #[.int .i64 x1, .int .i64 x2] 77))).below (bl_alloc (Below.refl _ _) (.cells #[.int .i64 x2] 3))
          exact h1.keep (hbt.block _ (by omega)) (hbt.block _ (by have := HRR.out; omega))
        have HRN := Lib.hid hrng
        have HBT := Lib.hid hbt
        clear hrng hbt
        go_roundw
        case rel =>
          refine ⟨_, cnt', ss ++ [(x1, x2)], HRN.out, by simpa using HPM2.out, by rw [HFL.out]; exact HS'.out, ?_, Nat.le_trans HBS.out HBT.out.size⟩
          exact HB2.out.trans ((((Below.refl w.heap.size w2).alloc HB2.out.size _).alloc (by have := HB2.out.size; simp; omega) _).trans (HBT.out.mono (by rw [HRR.out]; omega)))
        case measure => rw [HRN.out.left_eq, HRG.out.left_eq]; exact HLT.out
      · have HFL : Hid (ofN nd (ss ++ [(x1, x2)]) = ofN nd ss) := Lib.hid (by unfold ofN; rw [List.filter_append, List.map_append]; simp [hx])
        have hx' : (x1 == nd) = false := by rw [beq_eq_false_iff_ne]; exact hx
        clear hx
        go_wp2
        go_roundw
        case rel =>
          refine ⟨_, cnt', ss ++ [(x1, x2)], HR2.out.below (bl_alloc (Below.refl _ _) _), by simpa using HPM2.out, by rw [HFL.out]; exact HS2.out.below (bl_alloc (Below.refl _ _) _), HB2.out.trans ((Below.refl w.heap.size w2).alloc HB2.out.size _), by have := HSZ2.out; simp; omega⟩
        case measure => rw [(HR2.out.below (bl_alloc (Below.refl _ _) _)).left_eq, HRG.out.left_eq]; exact HLT.out
end Go.Proofs.YtjekpbkmhgfhoaaGreatDoor
end
