/- Law 15's own helpers over slices of nodes: at, put. -/
import Derived.Test.YthominkfjfnkbaaDoorNodeList
import Derived.Test.YthominkfjfnkbaaDoorNodeHave
import Derived.Test.YthominkfjfnkbaaDoorApp
import Derived.StillTailTactics
import Derived.IntWalk
namespace Go.Proofs.YthominkfjfnkbaaDoor
open Go Go.RowKit
set_option maxRecDepth 100000
set_option linter.unusedSimpArgs false
attribute [local go_sem] giv
variable {E : Nat → Addr} {B : Nat}

theorem wrap_step {j n : Nat} (h : j < n) (hn : n ≤ 1000000) : wrap64 ((j : Int) + 1) = ((j + 1 : Nat) : Int) := by unfold wrap64; omega

/-- An element's cells. -/
theorem RdE.cells {α : Type} {w : World} {k : Nat} {enc : α → List Value} {xs : List α} {sp : Option Addr} {n cap : Nat} (r : RdE w k enc (.slice sp n cap) xs) {j : Nat} (hj : j < xs.length) :
    ∃ h off, sp = some ⟨h, off, none⟩ ∧ h < w.heap.size ∧ ∀ i, i < k → w.cell? ⟨h, off + j * k + i, none⟩ = (enc xs[j])[i]? := by
  obtain ⟨sp', cap', he, _, _, h3⟩ := r
  injection he with e1 e2 e3
  subst e1
  obtain ⟨h, off, h4, h5, h6⟩ := h3 (by rintro rfl; simp at hj)
  refine ⟨h, off, h4, h5, fun i hi => ?_⟩
  rw [h6 j i hj hi, List.getElem?_eq_getElem hj]
  rfl

set_option maxHeartbeats 1000000 in
theorem at_any {w : World} {v : Value} {l : List Nd} (r : RdN w v l) (hlen : l.length ≤ 1000000) (i : Int) :
    Calls Tryd.prog 50 #[v, .int .i64 i] w fun e w' => e = .returned (.int .i64 (atL l i)) ∧ Below w.heap.size w w' := by
  obtain ⟨sp, cap, rfl, hcap⟩ := show ∃ sp cap, v = .slice sp l.length cap ∧ l.length ≤ cap from by
    obtain ⟨sp, cap, h1, h2, _⟩ := r
    exact ⟨sp, cap, h1, h2⟩
  generalize hres : atL l i = res
  have HRES := Lib.hid hres
  have HR := Lib.hid r
  clear hres r
  go_enter Tryd.func50, Tryd.ntmps50
  go_wp2_with fail
  go_loopw [5] (fun v wr => ∃ j : Nat, j ≤ l.length ∧ v = .int .i64 j ∧ Hid ((∀ m x, m < j → l[m]? = some x → x.id ≠ i) ∧ Below w.heap.size w wr)) (fun v _ => l.length - (Go.RowKit.intOf v).toNat)
  case atStart => exact ⟨0, Nat.zero_le _, rfl, Lib.hid ⟨fun m x hm => by omega, Below.refl _ _⟩⟩
  case round =>
    obtain ⟨j, hj, rfl, HI⟩ := hrel
    by_cases hlt : j < l.length
    · obtain ⟨h, off, rfl, hh, hc⟩ := HR.out.cells hlt
      have c0 : wr.cell? ⟨h, off + j * 6, none⟩ = some (.int .i64 (l[j]).id) := by
        have := hc 0 (by omega)
        rw [HI.out.2.cell (p := ⟨h, off + j * 6, none⟩) hh]
        simpa [encNs] using this
      have hstep : ∀ m x, m < j + 1 → l[m]? = some x → l[j].id ≠ i → x.id ≠ i := by
        intro m x hm hx hne
        rcases Nat.lt_or_ge m j with h | h
        · exact HI.out.1 m x h hx
        · obtain rfl : m = j := by omega
          rw [List.getElem?_eq_getElem hlt] at hx
          injection hx with hx
          rw [← hx]; exact hne
      have HST := Lib.hid hstep
      have HF := Lib.hid (fun he : l[j].id = i => (atL_found hlt he HI.out.1))
      generalize l[j].id = y at *
      have HC := Lib.hid hc
      clear hc hstep
      by_cases hy : y = i
      · subst hy
        go_wp2
        go_ret
        exact ⟨by rw [← HRES.out, show atL l y = (j : Int) from by first | exact HF.out rfl | exact HF.out trivial]; rfl, HI.out.2⟩
      · have hy' : (y == i) = false := by rw [beq_eq_false_iff_ne]; exact hy
        go_wp2
        go_roundw
        case rel => exact ⟨j + 1, by omega, by first | go_num | exact congrArg (Value.int .i64) (wrap_step hlt hlen), Lib.hid ⟨fun m x hm hx => HST.out m x hm hx hy, HI.out.2⟩⟩
        case measure => simp [Go.RowKit.intOf]; omega
    · obtain rfl : j = l.length := by omega
      go_wp2
      go_ret
      exact ⟨by rw [← HRES.out, atL_none HI.out.1]; rfl, HI.out.2⟩

theorem rd_small {w : World} {v : Value} {l : List Nd} (r : RdN w v l) : ∃ sp cap, v = .slice sp l.length cap ∧ l.length ≤ cap := RdE.shape r
theorem sm_max {j : Nat} (h : j ≤ 1000000) : j ≤ maxLen := by unfold maxLen; omega
theorem emptyRow {w : World} {c : Nat} {t : TypeId} (h : Row w c t []) : Row w c t (flat encNs []) := h

set_option maxHeartbeats 4000000 in
theorem put_any {w : World} {v : Value} {l : List Nd} (r : RdN w v l) (hlen : l.length ≤ 1000) (n : Nd) :
    Calls Tryd.prog 48 #[v, encN n] w fun e w' => (∃ u, e = .returned u ∧ SlN w' w.heap.size u (putL l n)) ∧ Below w.heap.size w w' := by
  obtain ⟨sp, cap, rfl, hcap⟩ := rd_small r
  obtain ⟨n1, n2, n3, n4, n5, n6⟩ := n
  generalize hP : (fun (e : Ending) (w' : World) => (∃ u, e = .returned u ∧ SlN w' w.heap.size u (putL l ⟨n1, n2, n3, n4, n5, n6⟩)) ∧ Below w.heap.size w w') = Post
  have HP := Lib.hid hP
  clear hP
  have HR := Lib.hid (r.below (bl_alloc (Below.refl _ _) (.cells #[.int .i64 n1, .int .i64 n2, .int .i64 n3, .int .i64 n4, .string n5, .int .i64 n6] 44)))
  have HB1 := Lib.hid (bl_alloc (Below.refl w.heap.size w) (.cells #[.int .i64 n1, .int .i64 n2, .int .i64 n3, .int .i64 n4, .string n5, .int .i64 n6] 44))
  have HX : Hid (Row (w.alloc (.cells #[.int .i64 n1, .int .i64 n2, .int .i64 n3, .int .i64 n4, .string n5, .int .i64 n6] 44)) w.heap.size 44 (encNs ⟨n1, n2, n3, n4, n5, n6⟩)) := Lib.hid (Row.new w 44 (encNs ⟨n1, n2, n3, n4, n5, n6⟩))
  have hwz : w.heap.size < (w.alloc (.cells #[.int .i64 n1, .int .i64 n2, .int .i64 n3, .int .i64 n4, .string n5, .int .i64 n6] 44)).heap.size := by simp
  have HLE := Lib.hid hlen
  clear r
  unfold encN
  go_enter Tryd.func48, Tryd.ntmps48
  go_wp2_with fail
  generalize w.alloc (.cells #[.int .i64 n1, .int .i64 n2, .int .i64 n3, .int .i64 n4, .string n5, .int .i64 n6] 44) = w1 at *
  generalize hbx : w.heap.size = bx at *
  have HBX := Lib.hid hbx
  clear hbx
  go_loopw [5] (fun v wr => ∃ j : Nat, j ≤ l.length ∧ v = .int .i64 j ∧ Hid ((∀ m x, m < j → l[m]? = some x → x.id < n1) ∧ Below w1.heap.size w1 wr)) (fun v _ => l.length - (Go.RowKit.intOf v).toNat)
  case atStart => exact ⟨0, Nat.zero_le _, rfl, Lib.hid ⟨fun m x hm => by omega, Below.refl _ _⟩⟩
  case round =>
    obtain ⟨j, hj, rfl, HI⟩ := hrel
    have x0 : wr.cell? ⟨bx, 0, none⟩ = some (.int .i64 n1) := (HI.out.2.cell (p := ⟨bx, 0, none⟩) hwz).trans (HX.out.cell 0)
    have hj0 : (0 : Int) ≤ (j : Int) := by omega
    by_cases hlt : j < l.length
    case' neg =>
      have hd1 : decide ((j : Int) < l.length) = false := by simp; omega
      have HLO : Hid (lowN l n1 = j) := Lib.hid (lowN_eq hj HI.out.1 (fun x hx => by rw [List.getElem?_eq_none (by omega)] at hx; cases hx))
      obtain ⟨kk, hkk⟩ : ∃ kk, kk = j := ⟨_, rfl⟩
      have HPU : Hid (putL l ⟨n1, n2, n3, n4, n5, n6⟩ = l.take j ++ [⟨n1, n2, n3, n4, n5, n6⟩] ++ l.drop kk) := Lib.hid (by
        unfold putL
        simp only
        rw [HLO.out, if_neg (by rw [List.getElem?_eq_none (by omega)]; intro h; cases h), hkk])
      have hkl : kk ≤ l.length := by omega
      have hcast : (j : Int) = (kk : Int) := by omega
      go_wp2_with fail
      try go_quiet (fail)
    case' pos =>
      obtain ⟨h, off, hsp, hh, hc⟩ := HR.out.cells hlt
      subst hsp
      have HC0 : Hid (w1.cell? ⟨h, off + j * 6, none⟩ = some (.int .i64 (l[j]).id)) := Lib.hid (by
        have := hc 0 (by omega)
        simpa [encNs] using this)
      have c0 : wr.cell? ⟨h, off + j * 6, none⟩ = some (.int .i64 (l[j]).id) := (HI.out.2.cell (p := ⟨h, off + j * 6, none⟩) hh).trans HC0.out
      have HF : Hid (∀ m x, m < j + 1 → l[m]? = some x → l[j].id < n1 → x.id < n1) := Lib.hid (by
        intro m x hm hx hne
        rcases Nat.lt_or_ge m j with h | h
        · exact HI.out.1 m x h hx
        · obtain rfl : m = j := by omega
          rw [List.getElem?_eq_getElem hlt] at hx
          injection hx with hx
          rw [← hx]; exact hne)
      have hj1 : (j : Int) < (l.length : Int) := by omega
      have HAT : Hid (l[j]?.map (·.id) = some l[j].id) := Lib.hid (by rw [List.getElem?_eq_getElem hlt]; rfl)
      have hd1 : decide ((j : Int) < l.length) = true := by simp; omega
      generalize l[j].id = y at *
      clear hc
      by_cases hy : y < n1
      case pos =>
        have hd2 : decide (y < n1) = true := by simpa using hy
        go_wp2_with fail
        go_quiet (fail)
        go_wp2
        go_roundw
        case rel => exact ⟨j + 1, by omega, by first | go_num | exact congrArg (Value.int .i64) (wrap_step hlt (by have := HLE.out; omega)), Lib.hid ⟨fun m x hm hx => HF.out m x hm hx hy, HI.out.2.trans ((drewN_below wr _).mono HI.out.2.size)⟩⟩
        case measure => simp [Go.RowKit.intOf]; omega
      have hd2 : decide (y < n1) = false := decide_eq_false hy
      have HLO : Hid (lowN l n1 = j) := Lib.hid (lowN_eq hj HI.out.1 (fun x hx => by have := HAT.out; rw [hx] at this; simp at this; rw [this]; exact hy))
      clear HF
      go_wp2_with fail
      go_quiet (fail)
      by_cases hyn : y = n1
      case' pos =>
        have hq : (y == n1) = true := by simpa using hyn
        have hq' : (n1 == n1) = true := by simp
        obtain ⟨kk, hkk⟩ : ∃ kk, kk = j + 1 := ⟨_, rfl⟩
        have HPU : Hid (putL l ⟨n1, n2, n3, n4, n5, n6⟩ = l.take j ++ [⟨n1, n2, n3, n4, n5, n6⟩] ++ l.drop kk) := Lib.hid (by
          unfold putL
          simp only
          rw [HLO.out, if_pos (by rw [HAT.out, hyn]), hkk])
        have hcast : ((j : Int) + 1) = (kk : Int) := by omega
        have hkl : kk ≤ l.length := by omega
      case' neg =>
        have hq : (y == n1) = false := by simpa using hyn
        obtain ⟨kk, hkk⟩ : ∃ kk, kk = j := ⟨_, rfl⟩
        have HPU : Hid (putL l ⟨n1, n2, n3, n4, n5, n6⟩ = l.take j ++ [⟨n1, n2, n3, n4, n5, n6⟩] ++ l.drop kk) := Lib.hid (by
          unfold putL
          simp only
          rw [HLO.out, if_neg (by rw [HAT.out]; intro h; injection h with h; exact hyn h), hkk])
        have hkl : kk ≤ l.length := by omega
        have hcast : (j : Int) = (kk : Int) := by omega
    all_goals
      have HCAST := Lib.hid hcast
      have HKK := Lib.hid hkk
      clear hcast hkk
      go_wp2_with fail
      refine wp_fromB wr ?hb ?_
      case hb => exact ⟨rfl, rfl, rfl, Nat.le_refl _, fun _ _ => rfl⟩
      intro wz hz
      have HBZ := Lib.hid (HI.out.2.trans (hz.mono HI.out.2.size))
      have HRZ := Lib.hid (HR.out.below HBZ.out)
      have HXZ := Lib.hid (HX.out.below HBZ.out)
      have hwx : bx < wz.heap.size := HXZ.out.lt
      have hjc : j ≤ cap := by omega
      have HJT : Hid ((l.take j).length = j) := Lib.hid (by rw [List.length_take]; omega)
      have S : ∀ w', Below wz.heap.size wz w' → w'.cell? ⟨bx, 0, none⟩ = some (.int .i64 n1) ∧ w'.cell? ⟨bx, 1, none⟩ = some (.int .i64 n2) ∧ w'.cell? ⟨bx, 2, none⟩ = some (.int .i64 n3) ∧ w'.cell? ⟨bx, 3, none⟩ = some (.int .i64 n4) ∧ w'.cell? ⟨bx, 4, none⟩ = some (.string n5) ∧ w'.cell? ⟨bx, 5, none⟩ = some (.int .i64 n6) := by
        intro w' hb
        have hr := HXZ.out.below hb
        exact ⟨hr.cell 0, hr.cell 1, hr.cell 2, hr.cell 3, hr.cell 4, hr.cell 5⟩
      clear hz x0 HI
      go_wp2_with fail
      apply wp_region_tail 7 _ (by kernel_rfl) (by kernel_rfl) (by kernel_rfl) (by decide) (fun w' => Below wz.heap.size wz w') (fun w' w'' => Below w'.heap.size w' w'') (fun w' w'' h1 h2 => bl_trans h1 h2) (Below.refl _ _).drew
      simp only [List.take_succ_cons, List.take_zero, List.drop_succ_cons, List.drop_zero]
      apply wpRel_rel (fun v w => ∃ c, v = .slice (some ⟨c, 0, none⟩) 0 0 ∧ wz.heap.size ≤ c ∧ Row w c 44 []) (by rfl) (fun v w w' h hb => by obtain ⟨c, h1, h2, h3⟩ := h; exact ⟨c, h1, h2, h3.below hb⟩)
      · intro w' hC hf R hR
        go_simp
        exact hR _ _ ⟨_, rfl, hC.size, Row.new w' 44 []⟩ (bl_alloc (Below.refl _ _) _)
      intro v0
      simp only [Act.put, List.setIfInBounds_toArray, List.set_cons_zero, List.set_cons_succ]
      repeat (first
        | (apply wpRel_skip (by rfl)
           simp only [Act.put, List.setIfInBounds_toArray, List.set_cons_zero, List.set_cons_succ])
        | (apply wpRel_fix (by rfl)
           · intro w' hC hf R hR
             have hS := S w' hC
             go_simp
             exact hR _ (Below.refl _ _)
           simp only [Act.put, List.setIfInBounds_toArray, List.set_cons_zero, List.set_cons_succ]))
      apply wpRel_rel (fun v w => SlN w wz.heap.size v (l.take j)) (by rfl) (fun v w w' h hb => h.below hb)
      · intro w' hC hf R hR
        obtain ⟨c, hv, hc, hrow⟩ := hf _ (List.mem_cons_self ..) (by kernel_rfl)
        exact giv_app_full nodT _ _ rfl (xs := []) rfl hv (emptyRow hrow) hc rfl ((RdE.taken HRZ.out hj).below hC) (by rw [HJT.out]; exact sm_max (by simp; omega)) (by rw [HJT.out]; simp; omega) fun v' w'' h1 h2 => hR _ _ h1 h2
      intro v1
      simp only [Act.put, List.setIfInBounds_toArray, List.set_cons_zero, List.set_cons_succ]
      repeat (first
        | (apply wpRel_skip (by rfl)
           simp only [Act.put, List.setIfInBounds_toArray, List.set_cons_zero, List.set_cons_succ])
        | (apply wpRel_fix (by rfl)
           · intro w' hC hf R hR
             have hS := S w' hC
             go_simp
             exact hR _ (Below.refl _ _)
           simp only [Act.put, List.setIfInBounds_toArray, List.set_cons_zero, List.set_cons_succ]))
      apply wpRel_rel (fun v w => RdN w v [⟨n1, n2, n3, n4, n5, n6⟩]) (by rfl) (fun v w w' h hb => h.below hb)
      · intro w' hC hf R hR
        go_simp
        exact hR _ _ (RdE.one (x := (⟨n1, n2, n3, n4, n5, n6⟩ : Nd)) (Row.new w' 44 (encNs ⟨n1, n2, n3, n4, n5, n6⟩))) (bl_alloc (Below.refl _ _) _)
      intro v2
      simp only [Act.put, List.setIfInBounds_toArray, List.set_cons_zero, List.set_cons_succ]
      refine wpRel_nil (fun w4 hC hf => ?_)
      have f2 := hf _ (List.mem_cons_self ..)
      have f1 := hf _ (List.mem_cons_of_mem _ (List.mem_cons_self ..))
      clear hf
      have hlm := HJT.out
      apply wpList_app nodT rfl _ _ rfl rfl f1 rfl f2 (by rw [hlm]; exact sm_max (by simp; omega)) (by rw [hlm]; simp; omega) hC.size
      intro v5 w5 hs5 ht5
      have HS5 := Lib.hid hs5
      have hb5 : Below wz.heap.size wz w5 := hC.trans (ht5.below hC.size (fun y hy => (SlE.lt f1 y hy).1))
      have HB5 := Lib.hid hb5
      have HRD5 := Lib.hid (HRZ.out.below hb5)
      have HBS5 : Hid (wz.heap.size ≤ w5.heap.size) := Lib.hid hb5.size
      have HL5 : Hid ((l.take j ++ [(⟨n1, n2, n3, n4, n5, n6⟩ : Nd)]).length + (l.drop kk).length ≤ 3000) := Lib.hid (by rw [List.length_append, hlm, List.length_drop]; simp; omega)
      have x5 : w5.cell? ⟨bx, 0, none⟩ = some (.int .i64 n1) := (S w5 hb5).1
      try have d5 : w5.cell? ⟨h, off + j * 6, none⟩ = some (.int .i64 y) := ((HBZ.out.trans (hb5.mono HBZ.out.size)).cell (p := ⟨h, off + j * 6, none⟩) hh).trans HC0.out
      clear hs5 ht5 hb5 f1 f2 hC S hlm
      go_wp2_with fail
      try go_quiet (fail)
      have hcast := HCAST.out
      by_cases hcl : cap = kk
      case' neg =>
        have hcl2 : (cap = kk) = False := by simp [hcl]
        try (obtain ⟨a, rfl⟩ : ∃ a, sp = some a := by
              cases sp with
              | none => have := RdE.nosp HRD5.out; omega
              | some a => exact ⟨a, rfl⟩)
        have HRT : Hid (RdN w5 _ (l.drop kk)) := Lib.hid (by first | exact RdE.droppedF HRD5.out hkl hcl | exact RdE.dropped HRD5.out hkl hcl)
      case' pos =>
        have hq0 : l.length - kk = 0 := by omega
        have HRT : Hid (∀ sp, RdN w5 (.slice sp 0 0) (l.drop kk)) := Lib.hid (fun sp => by rw [List.drop_of_length_le (by omega)]; exact RdE.empty _ _ _ _)
        subst hcl
      all_goals
        go_wp2_with (at_builtin; refine wpList_app nodT rfl _ _ rfl rfl HS5.out rfl (by first | exact HRT.out | exact HRT.out _) (by have := HL5.out; exact sm_max (by omega)) (by have := HL5.out; omega) HBS5.out ?_; intro v6 w6 hs6 ht6; have HS6 := Lib.hid hs6; have HB6 := Lib.hid (ht6.below HBS5.out (fun y hy => (SlE.lt HS5.out y hy).1)); clear hs6 ht6)
        rw [← HP.out]
        have HB56 : Hid (Below wz.heap.size wz w6) := Lib.hid (by first | exact HB5.out.trans HB6.out | exact (HB5.out.trans ((drewN_below _ _).mono HBS5.out)).trans HB6.out)
        refine ⟨⟨_, rfl, ?_⟩, (HB1.out.trans (HBZ.out.mono (Nat.le_of_lt hwz))).trans (HB56.out.mono (Nat.le_of_lt hwx))⟩
        rw [HPU.out]
        exact SlE.mono HS6.out (Nat.le_of_lt hwx)
end Go.Proofs.YthominkfjfnkbaaDoor
