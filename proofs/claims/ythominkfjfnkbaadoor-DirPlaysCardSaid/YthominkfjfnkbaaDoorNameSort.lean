/- The walks of package name's Sort and After; the reference's SameTexts. -/
import Derived.Test.YthominkfjfnkbaaDoorValues
import Derived.Test.YthominkfjfnkbaaDoorSortS
import Derived.Test.YthominkfjfnkbaaDoorNameLaw
import Derived.Test.YthominkfjfnkbaaDoorEnts
namespace Go.Proofs.YthominkfjfnkbaaDoor
open Go Go.RowKit Go.Shelf Go.Sort
open Go.Proofs (encStr)
set_option maxRecDepth 100000
set_option linter.unusedSimpArgs false
attribute [local go_sem] giv
variable {E : Nat → Addr} {B : Nat}

abbrev RdS (w : World) (v : Value) (ks : List ByteArray) : Prop := RdE w 1 encS v ks
abbrev SlS (w : World) (base : Nat) (v : Value) (ks : List ByteArray) : Prop := SlE w base 9 1 encS v ks
theorem strT : ElemT Tryd.prog 92 9 1 16 encS where
  ht := Tryd.underlying92
  info := ⟨.string { data := #[] }, rfl, by kernel_rfl⟩
  len := fun _ => rfl
  one := by intro e u hu; simp only [encS, List.mem_cons, List.not_mem_nil, or_false] at hu; subst hu; rfl
  pos := by omega

/-- A slice cut short. -/
theorem SlE.cut {α : Type} {w : World} {base : Nat} {e : TypeId} {k : Nat} {enc : α → List Value} {sp : Option Addr} {n cap : Nat} {xs : List α} (h : SlE w base e k enc (.slice sp n cap) xs) (hl : ∀ x, (enc x).length = k) {j : Nat} (hj : j ≤ xs.length) :
    SlE w base e k enc (.slice sp j cap) (xs.take j) := by
  have hlen : (xs.take j).length = j := by rw [List.length_take]; omega
  refine ⟨by rw [flat_len hl], ?_⟩
  rcases h.2 with ⟨h3, h4⟩ | ⟨g, cap', cur, h3, h4, h5, h6, h7, h8, h9⟩
  · injection h3 with e1 e2 e3
    subst e1 e3
    have : j = 0 := by omega
    subst this
    exact .inl ⟨by simp, by simp⟩
  · injection h3 with e1 e2 e3
    subst e1 e3
    refine .inr ⟨g, cap, cur, by rw [hlen], h4, h5, by omega, h7, h8, ?_⟩
    have hf : flat enc xs = flat enc (xs.take j) ++ flat enc (xs.drop j) := by rw [← flat_append, List.take_append_drop]
    have h10 := congrArg (List.take (flat enc (xs.take j)).length) h9
    rw [hf] at h10
    rw [List.take_left, List.take_take, flat_len hl, Nat.min_eq_left (Nat.mul_le_mul_right _ (by omega))] at h10
    exact h10

theorem sl_grow0 (W : World) : grow W #[] = W := by simp [grow]

set_option maxHeartbeats 1000000 in
theorem nsort_any {w : World} {sp : Option Addr} {n cap : Nat} {ks : List ByteArray} (r : RdS w (.slice sp n cap) ks) (hk : ks.length ≤ 1000000) :
    Calls Tryd.prog 60 #[.slice sp n cap] w fun e w' => (∃ v, e = .returned v ∧ SlS w' w.heap.size v (nmSortL ks)) ∧ Below w.heap.size w w' := by
  have HS := Lib.hid (sorted_vals r hk)
  have HK := Lib.hid hk
  clear r hk
  obtain ⟨zs, hzs⟩ : ∃ zs, (ks.map (·.data.toList)).mergeSort (fun x y => decide (x ≤ y)) = zs := ⟨_, rfl⟩
  have h1 : sortL ks = zs.map nmOf := by unfold sortL; rw [hzs]
  have h2 : nmSortL ks = (Lib.compact zs).map nmOf := by unfold nmSortL; rw [hzs]
  have hzl : zs.length = ks.length := by rw [← hzs, List.length_mergeSort, List.length_map]
  have H1 := Lib.hid h1
  have H2 := Lib.hid h2
  have HZ := Lib.hid hzl
  clear hzs h1 h2 hzl
  go_enter Tryd.func60, Tryd.ntmps60
  go_wp2_with fail
  refine (values_any _ _ _ _).mono ?_
  rintro e w1 ⟨rfl, rfl⟩
  go_wp2_with fail
  refine HS.out.mono ?_
  rintro e w2 ⟨⟨v, rfl, hs⟩, hb⟩
  rw [H1.out] at hs
  have hsl : (zs.map nmOf).length = zs.length := List.length_map ..
  have hfl : flat encS (zs.map nmOf) = zs.map encStr := by rw [flat_encS, map_nmOf]
  have HB := Lib.hid hb
  unfold SlE at hs
  rw [hsl, hfl] at hs
  clear hb hsl hfl
  rcases hs.2 with ⟨rfl, hz⟩ | ⟨gb, cap2, cur, rfl, hbase, hgb, r1, r2, r3, r4⟩
  · have hnil : zs = [] := List.eq_nil_of_length_eq_zero hz
    have HN := Lib.hid hnil
    clear hs hz hnil
    go_wp2_with fail
    refine (Any.slices_Compact_string_empty Tryd.lays194 _ _ _).mono ?_
    rintro e w3 ⟨rfl, rfl⟩
    go_wp2
    go_ret
    exact ⟨⟨_, rfl, by rw [H2.out, HN.out]; exact SlE.nil _ _ _ _ _⟩, HB.out⟩
  · have hH : Holds encStr w2 gb 0 zs.toArray := holds_of_block hgb (by simpa using r4)
    have hgl : gb < w2.heap.size := (Array.getElem?_eq_some_iff.1 hgb).1
    have hsz : zs.length ≤ 9223372036854775807 := by have := HZ.out; have := HK.out; omega
    have HC := Lib.hid (Any.slices_Compact_string Tryd.lays194 gb 0 cap2 zs w2 hH hsz r1)
    have HO := Lib.hid (fun (q : Nat) => ownsRow_sorted (w := w2) (base := w.heap.size) (g := gb) (cap := cap2) (n := q) (e := 9) (os := #[]) (cur := cur) (ss := zs) (ts := Lib.compact zs ++ List.replicate (zs.length - (Lib.compact zs).length) [])
      (by rw [List.length_append, List.length_replicate]; have := comp_len (zs := zs); omega) hbase hgb r1 r2 r3)
    have HB2 := Lib.hid (fun (q : Nat) => HB.out.grown (grownBy_sorted (w := w2) (g := gb) (n := q) (os := #[]) (Lib.compact zs ++ List.replicate (zs.length - (Lib.compact zs).length) []).toArray) HB.out.size (fun j hj => by cases hj; exact hbase))
    clear hs hH hgb r1 r2 r3 r4 hbase hsz
    go_wp2_with fail
    refine HC.out.mono ?_
    rintro e w3 ⟨rfl, q, rfl⟩
    have ho := HO.out q
    have hb2 := HB2.out q
    rw [sl_grow0] at ho hb2
    generalize putRow encStr (Sort.ahead w2 q) gb 0 (Lib.compact zs ++ List.replicate (zs.length - (Lib.compact zs).length) []).toArray = w4 at *
    have hcl := comp_len (zs := zs)
    have hfull : SlS w4 w.heap.size (.slice (some ⟨gb, 0, none⟩) zs.length cap2) ((Lib.compact zs ++ List.replicate (zs.length - (Lib.compact zs).length) []).map nmOf) := by
      unfold SlS SlE
      have e1 : ((Lib.compact zs ++ List.replicate (zs.length - (Lib.compact zs).length) []).map nmOf).length = zs.length := by
        rw [List.length_map, List.length_append, List.length_replicate]; omega
      rw [e1, flat_encS, ← map_nmOf]
      exact ho
    have hcut := hfull.cut (fun _ => rfl) (j := (Lib.compact zs).length) (by rw [List.length_map, List.length_append]; omega)
    rw [List.map_append, List.take_left' (List.length_map ..), ← H2.out] at hcut
    have HCUT := Lib.hid hcut
    have HB3 := Lib.hid hb2
    clear ho hb2 hfull hcut hcl
    generalize (Lib.compact zs).length = m at *
    go_wp2
    go_ret
    exact ⟨⟨_, rfl, HCUT.out⟩, HB3.out⟩

theorem sclone_any {w : World} {sp : Option Addr} {n cap : Nat} {ks : List ByteArray} (r : RdS w (.slice sp n cap) ks) (hk : ks.length ≤ 1000000) :
    Calls Tryd.prog 100 #[.slice sp n cap] w fun e w' => (∃ v, e = .returned v ∧ SlS w' w.heap.size v ks) ∧ Below w.heap.size w w' := by
  obtain ⟨sp', cap', he, h1, h2, h3⟩ := r
  injection he with e1 e2 e3
  subst e1 e2 e3
  cases sp with
  | none =>
    have : ks = [] := List.eq_nil_of_length_eq_zero (by have := h2 rfl; omega)
    subst this
    refine (Any.slices_Clone_string_nil Tryd.lays216 _ _ w).mono ?_
    rintro e w' ⟨rfl, rfl⟩
    exact ⟨⟨_, rfl, SlE.nil _ _ _ _ _⟩, Below.refl _ _⟩
  | some a =>
    by_cases hn : ks = []
    · subst hn
      refine (Any.slices_Clone_string_zero Tryd.lays216 a _ w).mono ?_
      rintro e w' ⟨v, rfl, hs, _, hb⟩
      exact ⟨⟨_, rfl, hs⟩, hb⟩
    · obtain ⟨h, off, he, hh, hc⟩ := h3 hn
      cases he
      refine (Any.slices_Clone_string Tryd.lays216 h off ks.length cap ks w (Nat.le_refl _) (by omega) (fun j hj => ?_)).mono ?_
      · have := hc j 0 hj (by omega)
        rw [Nat.mul_one, Nat.add_zero] at this
        rw [this, List.getD_eq_getElem?_getD, List.getElem?_eq_getElem hj]
        rfl
      · rintro e w' ⟨v, rfl, hs, _, hb⟩
        rw [List.take_length] at hs
        exact ⟨⟨_, rfl, by unfold SlS SlE; rw [flat_encS]; exact hs⟩, hb⟩

theorem bsearch_any {w : World} {sp : Option Addr} {n cap : Nat} {ks : List ByteArray} (r : RdS w (.slice sp n cap) ks) (hk : ks.length ≤ 1000000) (hr : ks.Pairwise nmLt) (s : ByteArray) :
    Calls Tryd.prog 99 #[.slice sp n cap, .string s] w fun e w' =>
      e = .returned (.tuple #[.int .i64 (aheadN ks s : Nat), .bool (decide (aheadN ks s < ks.length ∧ ks.getD (aheadN ks s) s = s))]) ∧ Below w.heap.size w w' := by
  obtain ⟨sp', cap', he, h1, h2, h3⟩ := r
  injection he with e1 e2 e3
  subst e1 e2 e3
  by_cases hn : ks = []
  · subst hn
    refine (Any2.slices_BinarySearch_string_empty Tryd.lays226 sp cap s w).mono ?_
    rintro e w' ⟨rfl, rfl⟩
    exact ⟨rfl, Below.refl _ _⟩
  · obtain ⟨h, off, rfl, hh, hc⟩ := h3 hn
    refine (Any2.slices_BinarySearch_string Tryd.lays226 h off ks.length cap (fun t => ks.getD t s) s w (by omega) (fun j hj => ?_)).mono ?_
    · have := hc j 0 hj (by omega)
      rw [Nat.mul_one, Nat.add_zero] at this
      rw [this, List.getD_eq_getElem?_getD, List.getElem?_eq_getElem hj]
      rfl
    · rintro e w' ⟨rfl, q, rfl⟩
      rw [bs_ahead hr]
      exact ⟨rfl, drewN_below w q⟩

theorem rd_none {w : World} {n cap : Nat} {ks : List ByteArray} (r : RdS w (.slice none n cap) ks) : cap = 0 ∧ n = 0 := by
  obtain ⟨sp', cap', he, h1, h2, h3⟩ := r
  injection he with e1 e2 e3
  subst e1 e2 e3
  have := h2 rfl
  omega
theorem rd_drop {w : World} {a : Addr} {n cap l : Nat} {ks : List ByteArray} (r : RdS w (.slice (some a) n cap) ks) (hl : l ≤ n) (hc : ¬ cap = l) : RdS w (.slice (some (a.add l)) (n - l) (cap - l)) (ks.drop l) := by
  have hn := r.len
  have h := RdE.sliced r (l := l) (h := n) hl (by omega)
  rw [List.take_of_length_le (by rw [List.length_drop]; omega)] at h
  unfold Go.sliced at h
  rw [if_neg (by omega), Nat.mul_one] at h
  exact h

set_option maxHeartbeats 1000000 in
theorem after_any {w : World} {sp : Option Addr} {n cap : Nat} {ks : List ByteArray} (r : RdS w (.slice sp n cap) ks) (hk : ks.length ≤ 1000000) (hr : ks.Pairwise nmLt) (s : ByteArray) :
    Calls Tryd.prog 62 #[.slice sp n cap, .string s] w fun e w' => (∃ v, e = .returned v ∧ SlS w' w.heap.size v (behindL ks s)) ∧ Below w.heap.size w w' := by
  have HS := Lib.hid (bsearch_any r hk hr s)
  have HD := Lib.hid (behind_drop hr s)
  have HR := Lib.hid r
  have HK := Lib.hid hk
  have hln := r.len
  have HLN := Lib.hid hln
  have hal := ahead_le ks s
  generalize hal' : aheadN ks s = al at *
  have hal1 : al ≤ n := by omega
  have hal2 : n ≤ cap := hln.2
  have hcb : n ≤ 1000000 := by omega
  clear r hk hr hal' hal hln
  generalize hc : (decide (al < ks.length ∧ ks.getD al s = s)) = c at *
  have HC := Lib.hid hc
  clear hc
  go_enter Tryd.func62, Tryd.ntmps62
  go_wp2_with fail
  refine HS.out.mono ?_
  rintro e w1 ⟨rfl, hb⟩
  have HB := Lib.hid hb
  have HB1 := HB
  clear hb
  cases c
  · obtain ⟨l, rfl⟩ : ∃ l, l = al := ⟨_, rfl⟩
    have HL : Hid (ks.drop l = behindL ks s) := Lib.hid (by rw [← HD.out, if_neg (of_decide_eq_false HC.out)])
    have hl : l ≤ n := hal1
    have hl0 : (0 : Int) ≤ l := by omega
    have hl1 : (l : Int) ≤ n := by omega
    clear HD HC hal1 HS
    by_cases hcl : cap = l
    · have hcl2 : (cap = l) = True := by simp [hcl]
      obtain rfl : n = l := by omega
      subst hcl
      go_wp2_with fail
      refine (sclone_any (ks := []) ⟨_, _, rfl, Nat.le_refl _, fun _ => rfl, fun h => (h rfl).elim⟩ (by simp)).mono ?_
      rintro e w2 ⟨⟨v, rfl, hs⟩, hb2⟩
      have HS2 := Lib.hid hs
      have HB2 := Lib.hid (HB.out.trans (hb2.mono HB.out.size))
      clear hs hb2
      go_wp2
      go_ret
      refine ⟨⟨_, rfl, ?_⟩, HB2.out⟩
      rw [← HL.out, List.drop_of_length_le (by have := HLN.out; omega)]
      exact HS2.out.mono HB.out.size
    · have hcl2 : (cap = l) = False := by simp [hcl]
      obtain ⟨a, rfl⟩ : ∃ a, sp = some a := by
        cases sp with
        | none => have := rd_none HR.out; omega
        | some a => exact ⟨a, rfl⟩
      go_wp2_with fail
      refine (sclone_any (rd_drop (HR.out.below HB1.out) hl hcl) (by rw [List.length_drop]; have := HK.out; omega)).mono ?_
      rintro e w2 ⟨⟨v, rfl, hs⟩, hb2⟩
      have HS2 := Lib.hid hs
      have HB2 := Lib.hid (HB.out.trans (hb2.mono HB.out.size))
      clear hs hb2
      go_wp2
      go_ret
      refine ⟨⟨_, rfl, ?_⟩, HB2.out⟩
      rw [← HL.out]
      exact HS2.out.mono HB.out.size
  · obtain ⟨l, hl⟩ : ∃ l, l = al + 1 := ⟨_, rfl⟩
    have HL : Hid (ks.drop l = behindL ks s) := Lib.hid (by rw [← HD.out, if_pos (of_decide_eq_true HC.out), hl])
    have hln2 := (of_decide_eq_true HC.out).1
    have hl' : l ≤ n := by have := HLN.out; omega
    have hcast : ((al : Int) + 1) = (l : Int) := by omega
    have hl0 : (0 : Int) ≤ l := by omega
    have hl1 : (l : Int) ≤ n := by omega
    clear HD HC hal1 HS hl hln2
    by_cases hcl : cap = l
    · have hcl2 : (cap = l) = True := by simp [hcl]
      obtain rfl : n = l := by omega
      subst hcl
      go_wp2_with fail
      refine (sclone_any (ks := []) ⟨_, _, rfl, Nat.le_refl _, fun _ => rfl, fun h => (h rfl).elim⟩ (by simp)).mono ?_
      rintro e w2 ⟨⟨v, rfl, hs⟩, hb2⟩
      have HS2 := Lib.hid hs
      have HB2 := Lib.hid (HB.out.trans (hb2.mono HB.out.size))
      clear hs hb2
      go_wp2
      go_ret
      refine ⟨⟨_, rfl, ?_⟩, HB2.out⟩
      rw [← HL.out, List.drop_of_length_le (by have := HLN.out; omega)]
      exact HS2.out.mono HB.out.size
    · have hcl2 : (cap = l) = False := by simp [hcl]
      obtain ⟨a, rfl⟩ : ∃ a, sp = some a := by
        cases sp with
        | none => have := rd_none HR.out; omega
        | some a => exact ⟨a, rfl⟩
      go_wp2_with fail
      refine (sclone_any (rd_drop (HR.out.below HB1.out) hl' hcl) (by rw [List.length_drop]; have := HK.out; omega)).mono ?_
      rintro e w2 ⟨⟨v, rfl, hs⟩, hb2⟩
      have HS2 := Lib.hid hs
      have HB2 := Lib.hid (HB.out.trans (hb2.mono HB.out.size))
      clear hs hb2
      go_wp2
      go_ret
      refine ⟨⟨_, rfl, ?_⟩, HB2.out⟩
      rw [← HL.out]
      exact HS2.out.mono HB.out.size
theorem wrap_up {j : Nat} (h : j < 1000000) : wrap64 ((j : Int) + 1) = ((j + 1 : Nat) : Int) := by unfold wrap64; omega
/-- An element's cell. -/
theorem RdS.cell {w : World} {sp : Option Addr} {n cap : Nat} {ks : List ByteArray} (r : RdS w (.slice sp n cap) ks) {j : Nat} (hj : j < ks.length) :
    ∃ h off, sp = some ⟨h, off, none⟩ ∧ h < w.heap.size ∧ w.cell? ⟨h, off + j, none⟩ = some (.string ks[j]) := by
  obtain ⟨sp', cap', he, _, _, h3⟩ := r
  injection he with e1 e2 e3
  subst e1 e2 e3
  obtain ⟨h, off, h4, h5, h6⟩ := h3 (by rintro rfl; simp at hj)
  refine ⟨h, off, h4, h5, ?_⟩
  have := h6 j 0 hj (by omega)
  rw [Nat.mul_one, Nat.add_zero] at this
  rw [this, List.getElem?_eq_getElem hj]
  rfl
theorem RdS.val {w : World} {v : Value} {ks : List ByteArray} (r : RdS w v ks) : ∃ sp cap, v = .slice sp ks.length cap ∧ ks.length ≤ cap := by
  obtain ⟨sp, cap, h, h2, _⟩ := r; exact ⟨sp, cap, h, h2⟩

set_option maxHeartbeats 1000000 in
theorem sametexts_any {w : World} {v u : Value} {l m : List ByteArray} (rl : RdS w v l) (rm : RdS w u m) (hlen : l.length ≤ 1000000) :
    Calls Tryd.prog 61 #[v, u] w fun e w' => e = .returned (.bool (decide (l = m))) ∧ Below w.heap.size w w' := by
  obtain ⟨sp, cap, rfl, hl0⟩ := rl.val
  obtain ⟨sq, cbp, rfl, hm0⟩ := rm.val
  have RL := Lib.hid rl
  have RM := Lib.hid rm
  clear rl rm
  generalize hres : decide (l = m) = res
  have HRES := Lib.hid hres
  clear hres
  by_cases hne : l.length = m.length
  · have hb : ((l.length : Int) != m.length) = false := by rw [hne]; simp
    have HNE := Lib.hid hne
    clear hne
    go_enter Tryd.func61, Tryd.ntmps61
    go_wp2
    go_loopw [5, 6] (fun i _ wr => ∃ j : Nat, j ≤ l.length ∧ i = .int .i64 j ∧ Hid (l.take j = m.take j ∧ Below w.heap.size w wr)) (fun i _ _ => l.length - (intOf i).toNat)
    case atStart => exact ⟨0, Nat.zero_le _, rfl, Lib.hid ⟨rfl, Below.refl _ _⟩⟩
    case round =>
      obtain ⟨j, hj, rfl, HI⟩ := hrel
      by_cases hlt : j < l.length
      · have hltm : j < m.length := by have := HNE.out; omega
        obtain ⟨h, off, rfl, hh, hc⟩ := RL.out.cell hlt
        obtain ⟨h2, off2, rfl, hh2, hc2⟩ := RM.out.cell hltm
        have c0 : wr.cell? ⟨h, off + j, none⟩ = some (.string l[j]) := (HI.out.2.cell (p := ⟨h, off + j, none⟩) hh).trans hc
        have c1 : wr.cell? ⟨h2, off2 + j, none⟩ = some (.string m[j]) := (HI.out.2.cell (p := ⟨h2, off2 + j, none⟩) hh2).trans hc2
        have HST := Lib.hid (same_stepL hlt hltm HI.out.1)
        have hj0 : (0 : Int) ≤ (j : Int) := by omega
        have hj1 : (j : Int) < (l.length : Int) := by omega
        have hj2 : (j : Int) < (m.length : Int) := by omega
        have HW : Hid (wrap64 ((j : Int) + 1) = ((j + 1 : Nat) : Int)) := Lib.hid (wrap_up (by omega))
        clear hc hc2
        generalize l[j] = x at *
        generalize m[j] = y at *
        by_cases hxy : x = y
        · subst hxy
          have hq : (x.toList == x.toList) = true := by simp
          go_wp2_with fail
          go_quiet (fail)
          go_wp2
          go_roundw
          case rel => exact ⟨j + 1, by omega, by first | go_num | exact congrArg (Value.int .i64) HW.out, Lib.hid ⟨HST.out.2 (by first | trivial | rfl), HI.out.2.trans ((drewN_below _ _).mono HI.out.2.size)⟩⟩
          case measure => (simp [intOf]; try unfold wrap64); omega
        · have hq : (x.toList == y.toList) = false := by rw [beq_eq_false_iff_ne]; exact fun h => hxy (str_ext h)
          have hf : res = false := by
            rw [← HRES.out, decide_eq_false_iff_not]
            rintro rfl
            exact hxy (HST.out.1 rfl)
          go_wp2_with fail
          go_quiet (fail)
          go_wp2
          go_ret
          exact ⟨by rw [hf]; rfl, HI.out.2.trans ((drewN_below _ _).mono HI.out.2.size)⟩
      · obtain rfl : j = l.length := by omega
        have hf : res = true := by
          rw [← HRES.out, decide_eq_true_iff]
          have := HI.out.1
          rw [List.take_length, HNE.out, List.take_length] at this
          exact this
        go_wp2
        go_ret
        exact ⟨by rw [hf]; rfl, HI.out.2⟩
  · have hb : ((l.length : Int) != m.length) = true := by rw [bne_iff_ne]; omega
    have hf : res = false := by
      rw [← HRES.out, decide_eq_false_iff_not]
      rintro rfl
      exact hne rfl
    clear hne
    go_enter Tryd.func61, Tryd.ntmps61
    go_wp2
    go_ret
    exact ⟨by rw [hf]; rfl, Below.refl _ _⟩
end Go.Proofs.YthominkfjfnkbaaDoor
