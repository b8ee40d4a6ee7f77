/- Slices of bytes as lists; the reference's Full, SameBytes, Bytes. -/
import Derived.Test.YtjmbilbkmcebeaaDoorBodySet
namespace Go.Proofs.YtjmbilbkmcebeaaDoor
open Go Go.RowKit
set_option maxRecDepth 100000
set_option linter.unusedSimpArgs false
attribute [local go_sem] giv

/-- v reads as the bytes l. -/
def RdB (w : World) (v : Value) (l : List Int) : Prop :=
  ∃ sp cap, v = .slice sp l.length cap ∧ (l = [] ∨ ∃ h off, sp = some ⟨h, off, none⟩ ∧ h < w.heap.size ∧ ∀ i, i < l.length → w.cell? ⟨h, off + i, none⟩ = some (.int .u8 (l.getD i 0)))
theorem RdB.below {w w' : World} {v : Value} {l : List Int} (r : RdB w v l) (hb : Below w.heap.size w w') : RdB w' v l := by
  obtain ⟨sp, cap, rfl, h⟩ := r
  refine ⟨sp, cap, rfl, ?_⟩
  rcases h with h | ⟨h, off, h1, h2, h3⟩
  · exact .inl h
  · exact .inr ⟨h, off, h1, Nat.lt_of_lt_of_le h2 hb.size, fun i hi => (hb.cell (p := ⟨h, off + i, none⟩) h2).trans (h3 i hi)⟩
/-- Blocks below B stay. -/
theorem RdB.old {B : Nat} {w w' : World} {sp : Option Addr} {cap : Nat} {l : List Int} (r : RdB w (.slice sp l.length cap) l) (hb : Below B w w') (hB : l ≠ [] → ∀ h off s, sp = some ⟨h, off, s⟩ → h < B) : RdB w' (.slice sp l.length cap) l := by
  obtain ⟨sp', cap', he, h⟩ := r
  injection he with e1 e2 e3
  subst e1
  refine ⟨sp, cap, rfl, ?_⟩
  by_cases hl : l = []
  · exact .inl hl
  rcases h with h | ⟨h, off, h1, h2, h3⟩
  · exact .inl h
  · exact .inr ⟨h, off, h1, Nat.lt_of_lt_of_le h2 hb.size, fun i hi => (hb.cell (p := ⟨h, off + i, none⟩) (hB hl _ _ _ h1)).trans (h3 i hi)⟩
theorem RdB.of_buf {w : World} {h cap : Nat} {l : List Int} (b : Buf w h 5 cap (l.map (Value.int .u8))) : RdB w (.slice (some ⟨h, 0, none⟩) l.length cap) l := by
  refine ⟨_, _, rfl, .inr ⟨h, 0, rfl, b.lt, fun i hi => ?_⟩⟩
  rw [Nat.zero_add, b.cell (by simpa using hi)]
  simp [List.getElem?_eq_getElem hi]
theorem RdB.slIn {w : World} {sp : Option Addr} {cap : Nat} {l : List Int} (r : RdB w (.slice sp l.length cap) l) : SlIn w sp l := by
  intro h0
  obtain ⟨sp', cap', he, h⟩ := r
  injection he with e1 e2 e3
  subst e1
  rcases h with h | ⟨h, off, h1, h2, h3⟩
  · rw [h] at h0; simp at h0
  · refine ⟨_, h1, fun j v hj => ?_⟩
    have hjl : j < l.length := by
      rcases Nat.lt_or_ge j l.length with h | h
      · exact h
      · rw [List.getElem?_eq_none (by simpa using h)] at hj; cases hj
    have ha : (⟨h, off, none⟩ : Addr).add j = ⟨h, off + j, none⟩ := by unfold Addr.add; split <;> simp_all
    rw [ha]
    refine ⟨(h3 j hjl).trans ?_, h2⟩
    rw [← hj]
    simp [List.getElem?_eq_getElem hjl]

/-- The first j bytes, made up to 256. -/
def part (l : List Int) (j : Nat) : List Value := (l.take j).map (Value.int .u8) ++ List.replicate (256 - j) (.int .u8 0)
theorem part_zero (l : List Int) : part l 0 = List.replicate 256 (.int .u8 0) := by simp only [part, List.take_zero, List.map_nil, List.nil_append, Nat.sub_zero]
theorem part_all (l : List Int) : part l l.length = (pad l).map (Value.int .u8) := by simp only [part, pad, List.take_length, List.map_append, List.map_replicate]
theorem part_len {l : List Int} {j : Nat} (h : j ≤ l.length) (h2 : l.length ≤ 256) : (part l j).length = 256 := by simp [part]; omega
theorem part_set {l : List Int} {j : Nat} (h : j < l.length) (h2 : l.length ≤ 256) : (part l j).set j (.int .u8 (l.getD j 0)) = part l (j + 1) := by
  have e1 : 256 - j = (256 - (j + 1)) + 1 := by omega
  have e2 : ((l.take j).map (Value.int .u8)).length = j := by simp; omega
  unfold part
  rw [e1, List.replicate_succ, List.set_append_right _ _ (by omega), e2, Nat.sub_self, List.set_cons_zero, List.take_succ_eq_append_getElem h, List.map_append, List.append_assoc]
  simp [List.getElem?_eq_getElem h]

set_option maxHeartbeats 1000000 in
theorem full_any {w : World} {v : Value} {l : List Int} (r : RdB w v l) (hl : l.length ≤ 256) :
    Calls Tryd.prog 26 #[v] w fun e w' => (∃ h, e = .returned (.slice (some ⟨h, 0, none⟩) 256 256) ∧ w.heap.size ≤ h ∧ Row w' h 5 ((pad l).map (Value.int .u8))) ∧ Below w.heap.size w w' := by
  obtain ⟨sp, cap, rfl, hr⟩ := r
  go_enter Tryd.func26, Tryd.ntmps26
  go_wp2_with (at_make; refine wpList_mk _ rfl _ _ _ rfl 5 (.int .u8 0) 1 Tryd.underlying40 u8_info rfl 256 rfl rfl (by omega) (by unfold maxLen; omega) ?_; intro w2 hr2 hb2; have HR2 := Lib.hid hr2; have HB2 := Lib.hid hb2; clear hr2 hb2)
  go_loopw [4] (fun i wr => ∃ j : Nat, j ≤ l.length ∧ i = .int .i64 j ∧ Hid (Row wr w.heap.size 5 (part l j) ∧ Below w.heap.size w wr)) (fun i _ => l.length - (intOf i).toNat)
  case atStart => exact ⟨0, Nat.zero_le _, rfl, Lib.hid ⟨by rw [part_zero]; exact HR2.out, HB2.out⟩⟩
  case round =>
    obtain ⟨j, hj, rfl, HI⟩ := hrel
    clear HR2 HB2
    by_cases hlt : j < l.length
    · rcases hr with rfl | ⟨h, off, rfl, hh, hc⟩
      · simp at hlt
      · have c0 : wr.cell? ⟨h, off + j, none⟩ = some (.int .u8 (l.getD j 0)) := (HI.out.2.cell (p := ⟨h, off + j, none⟩) hh).trans (hc j hlt)
        have hj256 : (j : Int) < 256 := by omega
        obtain ⟨u, hu⟩ : ∃ u, wr.cell? ⟨w.heap.size, j, none⟩ = some u := by
          rw [HI.out.1.cell, List.getElem?_eq_getElem (by rw [part_len hj hl]; omega)]
          exact ⟨_, rfl⟩
        have hf := HI.out.1.froz j
        have HC := Lib.hid hc
        generalize hx : l.getD j 0 = x at *
        have HX := Lib.hid hx
        clear hc hx
        go_wp2
        go_roundw
        case rel => exact ⟨j + 1, by omega, by go_num, Lib.hid ⟨by rw [← part_set hlt hl, HX.out]; exact HI.out.1.set _ _, HI.out.2.trans ((Below.refl w.heap.size wr).setCell (p := ⟨w.heap.size, j, none⟩) (Nat.le_refl _) _)⟩⟩
        case measure => simp [intOf]; omega
    · obtain rfl : j = l.length := by omega
      have hr3 := HI.out.1
      rw [part_all] at hr3
      have HR3 := Lib.hid (And.intro hr3 HI.out.2)
      clear hr3
      go_wp2
      go_ret
      exact ⟨⟨_, rfl, Nat.le_refl _, HR3.out.1⟩, HR3.out.2⟩

/-- Are two lists the same from their beginnings, as far as k? -/
theorem same_step {l m : List Int} {j : Nat} (hl : l.length = m.length) (h : j < l.length) (he : l.take j = m.take j) : (l.take (j + 1) = m.take (j + 1)) ↔ l.getD j 0 = m.getD j 0 := by
  have h2 : j < m.length := by omega
  rw [List.take_succ_eq_append_getElem h, List.take_succ_eq_append_getElem h2, he, List.append_cancel_left_eq]
  simp [List.getElem?_eq_getElem h, List.getElem?_eq_getElem h2]

set_option maxHeartbeats 1000000 in
theorem samebytes_any {w : World} {v u : Value} {l m : List Int} (rl : RdB w v l) (rm : RdB w u m) (hlen : l.length ≤ 1000000) :
    Calls Tryd.prog 27 #[v, u] w fun e w' => e = .returned (.bool (decide (l = m))) ∧ Below w.heap.size w w' := by
  obtain ⟨sp, cap, rfl, hl⟩ := rl
  obtain ⟨sq, cbp, rfl, hm⟩ := rm
  generalize hres : decide (l = m) = res
  have HRES := Lib.hid hres
  clear hres
  by_cases hne : l.length = m.length
  · have hb : ((l.length : Int) != m.length) = false := by rw [hne]; simp
    have HNE := Lib.hid hne
    clear hne
    go_enter Tryd.func27, Tryd.ntmps27
    go_wp2
    go_loopw [5, 6] (fun i _ wr => ∃ j : Nat, j ≤ l.length ∧ i = .int .i64 j ∧ Hid (l.take j = m.take j ∧ Below w.heap.size w wr)) (fun i _ _ => l.length - (intOf i).toNat)
    case atStart => exact ⟨0, Nat.zero_le _, rfl, Lib.hid ⟨rfl, Below.refl _ _⟩⟩
    case round =>
      obtain ⟨j, hj, rfl, HI⟩ := hrel
      by_cases hlt : j < l.length
      · have hltm : j < m.length := by have := HNE.out; omega
        rcases hl with rfl | ⟨h, off, rfl, hh, hc⟩
        · simp at hlt
        rcases hm with rfl | ⟨h2, off2, rfl, hh2, hc2⟩
        · simp at hltm
        have c0 : wr.cell? ⟨h, off + j, none⟩ = some (.int .u8 (l.getD j 0)) := (HI.out.2.cell (p := ⟨h, off + j, none⟩) hh).trans (hc j hlt)
        have c1 : wr.cell? ⟨h2, off2 + j, none⟩ = some (.int .u8 (m.getD j 0)) := (HI.out.2.cell (p := ⟨h2, off2 + j, none⟩) hh2).trans (hc2 j hltm)
        have hj0 : (0 : Int) ≤ (j : Int) := by omega
        have hj1 : (j : Int) < (l.length : Int) := by omega
        have hj2 : (j : Int) < (m.length : Int) := by omega
        have hst := same_step HNE.out hlt HI.out.1
        have HC := Lib.hid (And.intro hc hc2)
        clear hc hc2
        generalize hx : l.getD j 0 = x at *
        generalize hy : m.getD j 0 = y at *
        have HST := Lib.hid hst
        clear hst hx hy
        by_cases hxy : x = y
        · subst hxy
          go_wp2_with fail
          go_quiet (fail)
          go_wp2
          go_roundw
          case rel => exact ⟨j + 1, by omega, by go_num, Lib.hid ⟨HST.out.2 (by simp), HI.out.2.trans ((drewN_below wr _).mono HI.out.2.size)⟩⟩
          case measure => simp [intOf]; omega
        · have hxy' : (x == y) = false := by rw [beq_eq_false_iff_ne]; exact hxy
          have hf : res = false := by
            rw [← HRES.out, decide_eq_false_iff_not]
            rintro rfl
            exact hxy (HST.out.1 (by simp))
          go_wp2_with fail
          go_quiet (fail)
          go_wp2
          go_ret
          exact ⟨by rw [hf]; rfl, HI.out.2.trans ((drewN_below wr _).mono HI.out.2.size)⟩
      · obtain rfl : j = l.length := by omega
        have hf : res = true := by
          rw [← HRES.out, decide_eq_true_iff]
          have := HI.out.1
          rw [List.take_length, HNE.out, List.take_length] at this
          exact this
        go_wp2
        go_ret
        exact ⟨by rw [hf]; rfl, HI.out.2⟩
  · have hb : ((l.length : Int) != m.length) = true := by rw [bne_iff_ne]; omega
    have hf : res = false := by
      rw [← HRES.out, decide_eq_false_iff_not]
      rintro rfl
      exact hne rfl
    clear hne
    go_enter Tryd.func27, Tryd.ntmps27
    go_wp2
    go_ret
    exact ⟨by rw [hf]; rfl, Below.refl _ _⟩

theorem SlBuf.own {w : World} {base : Nat} {t : TypeId} {v : Value} {xs : List Value} (h : SlBuf w base t v xs) : ∀ k, v.ownBlock = some k → base ≤ k := by
  rcases h with ⟨rfl, _⟩ | ⟨g, cap, rfl, hb, _⟩
  · intro k hk; cases hk
  · intro k hk; cases hk; exact hb
theorem SlBuf.below {w w' : World} {base : Nat} {t : TypeId} {v : Value} {xs : List Value} (h : SlBuf w base t v xs) (hb : Below w.heap.size w w') : SlBuf w' base t v xs := by
  rcases h with h | ⟨g, cap, h1, h2, h3, h4⟩
  · exact .inl h
  · exact .inr ⟨g, cap, h1, h2, h3.below hb, h4⟩
theorem SlBuf.rdB {w : World} {base : Nat} {v : Value} {l : List Int} (h : SlBuf w base 5 v (l.map (Value.int .u8))) : RdB w v l := by
  rcases h with ⟨rfl, h⟩ | ⟨g, cap, rfl, _, h3, _⟩
  · have : l = [] := by simpa using h
    subst this
    exact ⟨_, _, rfl, .inl rfl⟩
  · have := RdB.of_buf h3
    simpa using this

/-- One element appended. -/
theorem slbuf_push {w1 : World} {base : Nat} {v' : Value} {xs : List Value} {x : Value} {n : Nat} (hn : xs.length = n) (ho : w1.ownsRow base 5 1 v' (n + 1) (xs ++ [x])) : SlBuf w1 base 5 v' (xs ++ [x]) := by
  subst hn
  exact SlBuf.of_owns ho

end Go.Proofs.YtjmbilbkmcebeaaDoor
