/- Merged texts: NameSort NameRef. -/
import Derived.Test.YtnkcbogikaebfaaGreatDoorBase25
import Derived.Test.YtnkcbogikaebfaaGreatDoorSortS
import Derived.Test.YtnkcbogikaebfaaGreatDoorBase17
import Derived.Test.YtnkcbogikaebfaaGreatDoorBase19
import Derived.Test.YtnkcbogikaebfaaGreatDoorBase11
import Derived.StillTailTactics
import Derived.IntWalk
section
/- The walks of package name's Sort and After; the reference's SameTexts. -/
namespace Go.Proofs.YtnkcbogikaebfaaGreatDoor
open Go Go.RowKit Go.Shelf Go.Sort
open Go.Proofs (encStr)
set_option maxRecDepth 100000
set_option linter.unusedSimpArgs false
attribute [local go_sem] giv
variable {E : Nat → Addr} {B : Nat}

abbrev RdS (w : World) (v : Value) (ks : List ByteArray) : Prop := RdE w 1 encS v ks
abbrev SlS (w : World) (base : Nat) (v : Value) (ks : List ByteArray) : Prop := SlE w base 9 1 encS v ks
theorem strT : ElemT Tryz.prog 88 9 1 16 encS where
  ht := Tryz.underlying88
  info := ⟨.string { data := #[] }, rfl, by kernel_rfl⟩
  len := fun _ => rfl
  one := by intro e u hu; simp only [encS, List.mem_cons, List.not_mem_nil, or_false] at hu; subst hu; rfl
  pos := by omega

theorem sclone_any {w : World} {sp : Option Addr} {n cap : Nat} {ks : List ByteArray} (r : RdS w (.slice sp n cap) ks) (hk : ks.length ≤ 1000000) :
    Calls Tryz.prog 118 #[.slice sp n cap] w fun e w' => (∃ v, e = .returned v ∧ SlS w' w.heap.size v ks) ∧ Below w.heap.size w w' := by
  obtain ⟨sp', cap', he, h1, h2, h3⟩ := r
  injection he with e1 e2 e3
  subst e1 e2 e3
  cases sp with
  | none =>
    have : ks = [] := List.eq_nil_of_length_eq_zero (by have := h2 rfl; omega)
    subst this
    refine (Any.slices_Clone_string_nil Tryz.lays216 _ _ w).mono ?_
    rintro e w' ⟨rfl, rfl⟩
    exact ⟨⟨_, rfl, SlE.nil _ _ _ _ _⟩, Below.refl _ _⟩
  | some a =>
    by_cases hn : ks = []
    · subst hn
      refine (Any.slices_Clone_string_zero Tryz.lays216 a _ w).mono ?_
      rintro e w' ⟨v, rfl, hs, _, hb⟩
      exact ⟨⟨_, rfl, hs⟩, hb⟩
    · obtain ⟨h, off, he, hh, hc⟩ := h3 hn
      cases he
      refine (Any.slices_Clone_string Tryz.lays216 h off ks.length cap ks w (Nat.le_refl _) (by omega) (fun j hj => ?_)).mono ?_
      · have := hc j 0 hj (by omega)
        rw [Nat.mul_one, Nat.add_zero] at this
        rw [this, List.getD_eq_getElem?_getD, List.getElem?_eq_getElem hj]
        rfl
      · rintro e w' ⟨v, rfl, hs, _, hb⟩
        rw [List.take_length] at hs
        exact ⟨⟨_, rfl, by unfold SlS SlE; rw [flat_encS]; exact hs⟩, hb⟩

/-- An element's cell. -/
theorem RdS.cell {w : World} {sp : Option Addr} {n cap : Nat} {ks : List ByteArray} (r : RdS w (.slice sp n cap) ks) {j : Nat} (hj : j < ks.length) :
    ∃ h off, sp = some ⟨h, off, none⟩ ∧ h < w.heap.size ∧ w.cell? ⟨h, off + j, none⟩ = some (.string ks[j]) := by
  obtain ⟨sp', cap', he, _, _, h3⟩ := r
  injection he with e1 e2 e3
  subst e1 e2 e3
  obtain ⟨h, off, h4, h5, h6⟩ := h3 (by rintro rfl; simp at hj)
  refine ⟨h, off, h4, h5, ?_⟩
  have := h6 j 0 hj (by omega)
  rw [Nat.mul_one, Nat.add_zero] at this
  rw [this, List.getElem?_eq_getElem hj]
  rfl
theorem RdS.val {w : World} {v : Value} {ks : List ByteArray} (r : RdS w v ks) : ∃ sp cap, v = .slice sp ks.length cap ∧ ks.length ≤ cap := by
  obtain ⟨sp, cap, h, h2, _⟩ := r; exact ⟨sp, cap, h, h2⟩

end Go.Proofs.YtnkcbogikaebfaaGreatDoor
end

section
/- The walks of the reference's names: Texts, Sort, Name, Special. -/
namespace Go.Proofs.YtnkcbogikaebfaaGreatDoor
open Go Go.RowKit Go.WideShapes
set_option maxRecDepth 100000
set_option linter.unusedSimpArgs false
theorem bin_geq (t : TypeId) (a b : ByteArray) : binOp .geq t (.string a) (.string b) = pure (.bool !(Op.bytesLess a.toList b.toList)) := by simp [binOp, Op.stringOp]
theorem bin_leq (t : TypeId) (a b : ByteArray) : binOp .leq t (.string a) (.string b) = pure (.bool (Op.bytesLess a.toList b.toList || a.toList == b.toList)) := by simp [binOp, Op.stringOp]
theorem bin_gtr (t : TypeId) (a b : ByteArray) : binOp .gtr t (.string a) (.string b) = pure (.bool !(Op.bytesLess a.toList b.toList || a.toList == b.toList)) := by simp [binOp, Op.stringOp]
attribute [local go_sem] giv bin_geq bin_leq bin_gtr
variable {E : Nat → Addr} {B : Nat}

theorem small_max {j : Nat} (h : j ≤ 1000000) : j ≤ maxLen := by unfold maxLen; omega

set_option maxHeartbeats 1000000 in
theorem texts_any {w : World} {v : Value} {ks : List ByteArray} (r : RdS w v ks) (hk : ks.length ≤ 1000) :
    Calls Tryz.prog 108 #[v] w fun e w' => (∃ u, e = .returned u ∧ SlS w' w.heap.size u ks) ∧ Below w.heap.size w w' := by
  obtain ⟨sp, cap, rfl, hcap⟩ := RdS.val r
  have HR := Lib.hid r
  clear r
  go_enter Tryz.func108, Tryz.ntmps108
  go_wp2_with (at_make; refine wpList_mk0 strT rfl _ _ rfl ks.length rfl rfl (by omega) (small_max (by omega)) (Nat.le_refl _) ?_; intro w2 hs2 hb2; have HS2 := Lib.hid hs2; have HB2 := Lib.hid hb2; clear hs2 hb2)
  go_loopw [3, 4] (fun v i wr => ∃ j : Nat, j ≤ ks.length ∧ i = .int .i64 j ∧ Hid (SlS wr w.heap.size v (ks.take j) ∧ Below w.heap.size w wr)) (fun _ i _ => ks.length - (intOf i).toNat)
  case atStart => exact ⟨0, Nat.zero_le _, rfl, Lib.hid ⟨HS2.out, HB2.out⟩⟩
  case round =>
    obtain ⟨j, hj, rfl, HI⟩ := hrel
    by_cases hlt : j < ks.length
    · obtain ⟨h, off, rfl, hh, c0⟩ := RdS.cell HR.out hlt
      have c1 : wr.cell? ⟨h, off + j, none⟩ = some (.string ks[j]) := (HI.out.2.cell (p := ⟨h, off + j, none⟩) hh).trans c0
      have HT : Hid (ks.take (j + 1) = ks.take j ++ [ks[j]]) := Lib.hid (List.take_succ_eq_append_getElem hlt)
      have hj0 : (0 : Int) ≤ (j : Int) := by omega
      have hj1 : (j : Int) < (ks.length : Int) := by omega
      have HJL : Hid ((ks.take j).length = j) := Lib.hid (by rw [List.length_take]; omega)
      have HJ := Lib.hid hlt
      have HOWN := Lib.hid (SlE.below HI.out.1 (bl_alloc (Below.refl _ wr) (.cells #[.string ks[j]] 9)))
      have HKK := Lib.hid hk
      have HROW : Hid (RdS (wr.alloc (.cells #[.string ks[j]] 9)) (.slice (some ⟨wr.heap.size, 0, none⟩) 1 1) [ks[j]]) := Lib.hid (RdE.one (x := ks[j]) (Row.new wr 9 (encS ks[j])))
      have HBS : Hid (w.heap.size ≤ (wr.alloc (.cells #[.string ks[j]] 9)).heap.size) := Lib.hid (Nat.le_trans HI.out.2.size (by simp))
      clear c0
      generalize ks[j] = x at *
      go_wp2_with (at_builtin; refine wpList_app strT rfl _ _ rfl rfl HOWN.out rfl HROW.out (by rw [HJL.out]; exact small_max (by have := HJ.out; have := HKK.out; simp; omega)) (by rw [HJL.out]; have := HJ.out; have := HKK.out; simp; omega) HBS.out ?_; intro v' w' hs' ht'; have HS' := Lib.hid hs'; have HT' := Lib.hid ht'; clear hs' ht')
      go_roundw
      case rel =>
        refine ⟨j + 1, by omega, by go_num, Lib.hid ⟨?_, ?_⟩⟩
        · rw [HT.out]; exact HS'.out
        · exact (bl_alloc HI.out.2 _).trans (HT'.out.below (B := w.heap.size) HBS.out (fun x hx => (SlE.lt HOWN.out x hx).1))
      case measure => simp [intOf]; omega
    · obtain rfl : j = ks.length := by omega
      go_wp2
      go_ret
      have := HI.out.1
      rw [List.take_length] at this
      exact ⟨⟨_, rfl, this⟩, HI.out.2⟩
theorem rd_take {w : World} {sp : Option Addr} {n cap m : Nat} {ks : List ByteArray} (r : RdS w (.slice sp n cap) ks) (hm : m ≤ n) : RdS w (.slice sp m cap) (ks.take m) := by
  obtain ⟨sp', cap', he, h1, h2, h3⟩ := r
  injection he with e1 e2 e3
  subst e1 e2 e3
  have hlen : (ks.take m).length = m := by rw [List.length_take]; omega
  refine ⟨sp, cap, by rw [hlen], by omega, h2, fun hne => ?_⟩
  obtain ⟨h, off, h4, h5, h6⟩ := h3 (by rintro rfl; simp at hne)
  refine ⟨h, off, h4, h5, fun i j hi hj => ?_⟩
  rw [hlen] at hi
  rw [h6 i j (by omega) hj, List.getElem?_take, if_pos hi]
/-- A text put into its place. -/
def insAt (out : List ByteArray) (m : Nat) (x : ByteArray) : List ByteArray := out.take m ++ [x] ++ out.drop m
/-- How far a sorted list has come. -/
structure SortedTo (ks : List ByteArray) (j : Nat) (out : List ByteArray) : Prop where
  rise : out.Pairwise nmLt
  mem : ∀ y, y ∈ out ↔ y ∈ ks.take j
  len : out.length ≤ j
theorem byte_mem (s : ByteArray) (j : Nat) (h : j < s.size) : s[j] ∈ s.data.toList := by
  have : s[j] = s.data.toList[j]'(by simpa using h) := rfl
  rw [this]
  exact List.getElem_mem _
theorem byte_take (s : ByteArray) (j : Nat) (h : j < s.size) : s.data.toList.take (j + 1) = s.data.toList.take j ++ [s[j]] := by
  rw [List.take_succ_eq_append_getElem (by simpa using h)]; rfl

set_option maxHeartbeats 1000000 in
theorem refname_any (s : ByteArray) (w : World) :
    Calls Tryz.prog 88 #[.string s] w fun e w' => e = .returned (.int .i64 (nmCode s)) ∧ w = w' := by
  by_cases h0 : s.data.toList = []
  · have hn : nmCode s = 109 := by unfold nmCode; rw [if_pos h0]
    rw [hn]
    have h0' : s.toList = [] := by rw [ByteArray.toList_eq]; exact h0
    clear hn h0
    go_enter Tryz.func88, Tryz.ntmps88
    go_wp2
    go_ret
    exact ⟨rfl, rfl⟩
  have h0' : ¬ s.toList = [] := by rw [ByteArray.toList_eq]; exact h0
  have h0'' : s.toList.isEmpty = false := by simpa using h0'
  by_cases h1 : 24 < s.size
  · have hn : nmCode s = 115 := by unfold nmCode; rw [if_neg h0, if_pos h1]
    rw [hn]
    clear hn h0
    have h1' : (24 : Int) < s.size := by omega
    go_enter Tryz.func88, Tryz.ntmps88
    go_wp2
    go_ret
    exact ⟨rfl, rfl⟩
  have h1' : ¬ (24 : Int) < s.size := by omega
  obtain ⟨r, hr⟩ : ∃ r, r = nmCode s := ⟨_, rfl⟩
  rw [← hr]
  unfold nmCode at hr
  rw [if_neg h0, if_neg h1] at hr
  have HR := Lib.hid hr
  have hs24 : s.size ≤ 24 := by omega
  clear hr h0 h1
  go_enter Tryz.func88, Tryz.ntmps88
  go_wp2_with fail
  go_loop [3] (fun v => ∃ j : Nat, j ≤ s.size ∧ v = .int .i64 j ∧ Hid (∀ c ∈ s.data.toList.take j, c ≠ 47 ∧ c ≠ 0)) (fun v => s.size - (intOf v).toNat)
  case atStart => exact ⟨0, Nat.zero_le _, rfl, Lib.hid (by simp)⟩
  case round =>
    obtain ⟨j, hj, rfl, HI⟩ := hrel
    by_cases hlt : j < s.size
    · have HM := Lib.hid (byte_mem s j hlt)
      have HT := Lib.hid (byte_take s j hlt)
      by_cases h47 : s[j] = 47
      · have hr : r = 114 := by
          rw [HR.out, if_pos]
          have := HM.out
          rw [h47] at this
          simp only [Bool.or_eq_true, List.contains_iff_mem]
          exact .inl this
        have q1 : ((s[j].toNat : Int) == 47) = true := by rw [h47]; rfl
        subst hr
        clear HR h47
        go_wp2
        go_ret
        exact ⟨rfl, rfl⟩
      by_cases h00 : s[j] = 0
      · have hr : r = 114 := by
          rw [HR.out, if_pos]
          have := HM.out
          rw [h00] at this
          simp only [Bool.or_eq_true, List.contains_iff_mem]
          exact .inr this
        have q1 : ((s[j].toNat : Int) == 47) = false := by rw [h00]; rfl
        have q2 : ((s[j].toNat : Int) == 0) = true := by rw [h00]; rfl
        subst hr
        clear HR h47 h00
        go_wp2
        go_ret
        exact ⟨rfl, rfl⟩
      have q1 : ((s[j].toNat : Int) == 47) = false := by
        rw [beq_eq_false_iff_ne]
        intro h
        exact h47 (UInt8.toNat_inj.1 (by simpa using (by omega : s[j].toNat = 47)))
      have q2 : ((s[j].toNat : Int) == 0) = false := by
        rw [beq_eq_false_iff_ne]
        intro h
        exact h00 (UInt8.toNat_inj.1 (by simpa using (by omega : s[j].toNat = 0)))
      have HN := Lib.hid (And.intro h47 h00)
      clear h47 h00
      go_wp2
      go_round
      case rel =>
        refine ⟨j + 1, by omega, by go_num, Lib.hid ?_⟩
        intro c hc
        rw [HT.out] at hc
        rcases List.mem_append.1 hc with hc | hc
        · exact HI.out c hc
        · rw [List.mem_singleton.1 hc]; exact HN.out
      case measure => simp [intOf]; omega
    · obtain rfl : j = s.size := by omega
      have hr : r = 0 := by
        rw [HR.out, if_neg]
        have h := HI.out
        rw [List.take_of_length_le (by simp)] at h
        simp only [Bool.or_eq_true, List.contains_iff_mem]
        rintro (h2 | h2)
        · exact (h _ h2).1 rfl
        · exact (h _ h2).2 rfl
      subst hr
      clear HR
      go_wp2
      go_ret
      exact ⟨rfl, rfl⟩

end Go.Proofs.YtnkcbogikaebfaaGreatDoor
end
