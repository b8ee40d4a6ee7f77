/- Merged texts: Ents. -/
import Derived.Test.YtnkcbogikaebfaaGreatDoorBase14
import Derived.Test.YtnkcbogikaebfaaGreatDoorBase18
import Derived.Test.YtnkcbogikaebfaaGreatDoorBase10
import Derived.Deep.RegionHeld3
section
/- Slices of entries: the reference's SameEntry, SameEntrys, Entrys. -/
namespace Go.Proofs.YtnkcbogikaebfaaGreatDoor
open Go Go.RowKit
set_option maxRecDepth 100000
set_option linter.unusedSimpArgs false
attribute [local go_sem] giv
variable {E : Nat → Addr} {B : Nat}

instance : DecidableEq En := fun a b => decidable_of_iff (a.name = b.name ∧ a.node = b.node ∧ a.kind = b.kind) ⟨fun ⟨h1, h2, h3⟩ => by cases a; cases b; simp_all, fun h => by subst h; exact ⟨rfl, rfl, rfl⟩⟩
def encEl (e : En) : List Value := [.string e.name, .int .i64 e.node, .int .i64 e.kind]
theorem encEl_len (e : En) : (encEl e).length = 3 := rfl
theorem entT : ElemT Tryz.prog 45 48 3 32 encEl where
  ht := Tryz.underlying45
  info := ⟨.agg #[.string { data := #[] }, .int .i64 0, .int .i64 0], rfl, by kernel_rfl⟩
  len := encEl_len
  one := by intro e u hu; simp only [encEl, List.mem_cons, List.not_mem_nil, or_false] at hu; rcases hu with rfl | rfl | rfl <;> rfl
  pos := by omega
abbrev RdEn (w : World) (v : Value) (xs : List En) : Prop := RdE w 3 encEl v xs
abbrev SlEn (w : World) (base : Nat) (v : Value) (xs : List En) : Prop := SlE w base 48 3 encEl v xs

theorem str_ext {a b : ByteArray} (h : a.toList = b.toList) : a = b := by
  rw [ByteArray.toList_eq, ByteArray.toList_eq] at h
  cases a; cases b; congr 1; exact Array.toList_inj.1 h

theorem sameentry_any (x y : En) (w : World) : Calls Tryz.prog 77 #[encE x, encE y] w fun e w' => e = .returned (.bool (decide (x = y))) ∧ Below w.heap.size w w' := by
  obtain ⟨a1, a2, a3⟩ := x
  obtain ⟨b1, b2, b3⟩ := y
  generalize hr : decide ((⟨a1, a2, a3⟩ : En) = ⟨b1, b2, b3⟩) = r
  have HR := Lib.hid hr
  clear hr
  unfold encE
  by_cases h1 : a1 = b1
  · subst h1
    by_cases h2 : a2 = b2
    · subst h2
      have hr : r = (a3 == b3) := by rw [← HR.out]; simp; rfl
      subst hr
      clear HR
      go_enter Tryz.func77, Tryz.ntmps77
      go_wp2
      go_ret
      exact ⟨rfl, bl_alloc (bl_alloc (Below.refl _ _) _) _⟩
    · have h2' : (a2 == b2) = false := by rw [beq_eq_false_iff_ne]; exact h2
      have hr : r = false := by rw [← HR.out]; simp [h2]
      subst hr
      clear HR
      go_enter Tryz.func77, Tryz.ntmps77
      go_wp2
      go_ret
      exact ⟨rfl, bl_alloc (bl_alloc (Below.refl _ _) _) _⟩
  · have h1' : ¬ a1.toList = b1.toList := fun h => h1 (str_ext h)
    have hr : r = false := by rw [← HR.out]; simp [h1]
    subst hr
    clear HR
    go_enter Tryz.func77, Tryz.ntmps77
    go_wp2
    go_ret
    exact ⟨rfl, bl_alloc (bl_alloc (Below.refl _ _) _) _⟩

/-- Are two lists the same from their beginnings? -/
theorem same_stepL {α : Type} {l m : List α} {j : Nat} (h : j < l.length) (h2 : j < m.length) (he : l.take j = m.take j) : (l.take (j + 1) = m.take (j + 1)) ↔ l[j] = m[j] := by
  rw [List.take_succ_eq_append_getElem h, List.take_succ_eq_append_getElem h2, he, List.append_cancel_left_eq]
  simp

set_option maxHeartbeats 1000000 in
theorem sameentrys_any {w : World} {v u : Value} {l m : List En} (rl : RdEn w v l) (rm : RdEn w u m) (hlen : l.length ≤ 1000000) :
    Calls Tryz.prog 30 #[v, u] w fun e w' => e = .returned (.bool (decide (l = m))) ∧ Below w.heap.size w w' := by
  have RL := Lib.hid rl
  have RM := Lib.hid rm
  obtain ⟨sp, cap, rfl, hl0, _, hl⟩ := rl
  obtain ⟨sq, cbp, rfl, hm0, _, hm⟩ := rm
  generalize hres : decide (l = m) = res
  have HRES := Lib.hid hres
  clear hres
  by_cases hne : l.length = m.length
  · have hb : ((l.length : Int) != m.length) = false := by rw [hne]; simp
    have HNE := Lib.hid hne
    clear hne
    go_enter Tryz.func30, Tryz.ntmps30
    go_wp2
    go_loopw [5, 6] (fun i _ wr => ∃ j : Nat, j ≤ l.length ∧ i = .int .i64 j ∧ Hid (l.take j = m.take j ∧ Below w.heap.size w wr)) (fun i _ _ => l.length - (intOf i).toNat)
    case atStart => exact ⟨0, Nat.zero_le _, rfl, Lib.hid ⟨rfl, Below.refl _ _⟩⟩
    case round =>
      obtain ⟨j, hj, rfl, HI⟩ := hrel
      by_cases hlt : j < l.length
      · have hltm : j < m.length := by have := HNE.out; omega
        obtain ⟨h, off, rfl, hh, hc⟩ := hl (by rintro rfl; simp at hlt)
        obtain ⟨h2, off2, rfl, hh2, hc2⟩ := hm (by rintro rfl; simp at hltm)
        have c0 : ∀ k, k < 3 → wr.cell? ⟨h, off + j * 3 + k, none⟩ = (encEl l[j])[k]? := fun k hk => by
          rw [HI.out.2.cell (p := ⟨h, off + j * 3 + k, none⟩) hh, hc j k hlt hk, List.getElem?_eq_getElem hlt]; rfl
        have c1 : ∀ k, k < 3 → wr.cell? ⟨h2, off2 + j * 3 + k, none⟩ = (encEl m[j])[k]? := fun k hk => by
          rw [HI.out.2.cell (p := ⟨h2, off2 + j * 3 + k, none⟩) hh2, hc2 j k hltm hk, List.getElem?_eq_getElem hltm]; rfl
        have hst := same_stepL hlt hltm HI.out.1
        have HSAME := fun w => sameentry_any l[j] m[j] w
        have hj0 : (0 : Int) ≤ (j : Int) := by omega
        have hj1 : (j : Int) < (l.length : Int) := by omega
        have hj2 : (j : Int) < (m.length : Int) := by omega
        clear hl hm hc hc2 RL RM
        generalize l[j] = x at *
        generalize m[j] = y at *
        generalize hxy : decide (x = y) = sm at HSAME
        have HXY := Lib.hid hxy
        clear hxy
        obtain ⟨a1, a2, a3⟩ := x
        obtain ⟨b1, b2, b3⟩ := y
        have d0 := c0 0 (by omega)
        have d1 := c0 1 (by omega)
        have d2 := c0 2 (by omega)
        have e0 := c1 0 (by omega)
        have e1 := c1 1 (by omega)
        have e2 := c1 2 (by omega)
        simp only [encEl, List.getElem?_cons_zero, List.getElem?_cons_succ, Nat.add_zero] at d0 d1 d2 e0 e1 e2
        clear c0 c1
        have HST := Lib.hid hst
        clear hst
        unfold encE at HSAME
        go_wp2_with fail
        have S : ∀ w', Below wr.heap.size wr w' → w'.cell? ⟨h, off + j * 3, none⟩ = some (.string a1) ∧ w'.cell? ⟨h, off + j * 3 + 1, none⟩ = some (.int .i64 a2) ∧ w'.cell? ⟨h, off + j * 3 + 2, none⟩ = some (.int .i64 a3) ∧
            w'.cell? ⟨h2, off2 + j * 3, none⟩ = some (.string b1) ∧ w'.cell? ⟨h2, off2 + j * 3 + 1, none⟩ = some (.int .i64 b2) ∧ w'.cell? ⟨h2, off2 + j * 3 + 2, none⟩ = some (.int .i64 b3) ∧ Below wr.heap.size wr w' := by
          intro w' hb
          have hs := HI.out.2.size
          obtain ⟨hc, _⟩ := bcell hb
          exact ⟨(hc _ _ (by omega)).trans d0, (hc _ _ (by omega)).trans d1, (hc _ _ (by omega)).trans d2, (hc _ _ (by omega)).trans e0, (hc _ _ (by omega)).trans e1, (hc _ _ (by omega)).trans e2, hb⟩
        go_region_held3 (fun w' => w'.cell? ⟨h, off + j * 3, none⟩ = some (.string a1) ∧ w'.cell? ⟨h, off + j * 3 + 1, none⟩ = some (.int .i64 a2) ∧ w'.cell? ⟨h, off + j * 3 + 2, none⟩ = some (.int .i64 a3) ∧
            w'.cell? ⟨h2, off2 + j * 3, none⟩ = some (.string b1) ∧ w'.cell? ⟨h2, off2 + j * 3 + 1, none⟩ = some (.int .i64 b2) ∧ w'.cell? ⟨h2, off2 + j * 3 + 2, none⟩ = some (.int .i64 b3) ∧ Below wr.heap.size wr w')
          (first | exact S _ (Below.refl _ _).drew | exact S _ HW1.out)
          ((go_at_call 77; refine (HSAME _).mono ?_; rintro e w1 ⟨rfl, hb1⟩; have HW1 : Hid (Below wr.heap.size wr w1) := Lib.hid (by first | exact (Below.refl wr.heap.size wr).drew.trans hb1 | exact hb1); clear hb1))
        have HBW := Lib.hid (HI.out.2.trans (HW1.out.mono HI.out.2.size))
        clear S HW1
        cases sm
        · have hf : res = false := by
            rw [← HRES.out, decide_eq_false_iff_not]
            rintro rfl
            exact (of_decide_eq_false HXY.out) (HST.out.1 rfl)
          go_wp2
          go_ret
          exact ⟨by rw [hf]; rfl, HBW.out⟩
        · go_wp2
          go_roundw
          case rel => exact ⟨j + 1, by omega, by first | go_num | exact congrArg (Value.int .i64) (by unfold wrap64; omega), Lib.hid ⟨HST.out.2 (of_decide_eq_true HXY.out), HBW.out⟩⟩
          case measure => (simp [intOf]; try unfold wrap64); omega
      · obtain rfl : j = l.length := by omega
        have hf : res = true := by
          rw [← HRES.out, decide_eq_true_iff]
          have := HI.out.1
          rw [List.take_length, HNE.out, List.take_length] at this
          exact this
        go_wp2
        go_ret
        exact ⟨by rw [hf]; rfl, HI.out.2⟩
  · have hb : ((l.length : Int) != m.length) = true := by rw [bne_iff_ne]; omega
    have hf : res = false := by
      rw [← HRES.out, decide_eq_false_iff_not]
      rintro rfl
      exact hne rfl
    clear hne
    go_enter Tryz.func30, Tryz.ntmps30
    go_wp2
    go_ret
    exact ⟨by rw [hf]; rfl, Below.refl _ _⟩
end Go.Proofs.YtnkcbogikaebfaaGreatDoor
end
