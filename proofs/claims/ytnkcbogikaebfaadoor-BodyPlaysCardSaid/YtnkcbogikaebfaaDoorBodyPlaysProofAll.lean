/- PROVED: Rows.BodyPlaysCardSaid: for every input the law BodyPlays returns true, and each argument reads as before. Conditions: none beyond the listed package variables, which the card ties to the program's text. -/
import Derived.Test.YtnkcbogikaebfaaDoorBase22
import Derived.Great.BuildSlice
import Derived.BigQuiet
import Derived.Deep.DeepCutAuto
import Derived.Deep.CutBlock
import Derived.Test.YtnkcbogikaebfaaDoorRows
import Derived.Test.YtnkcbogikaebfaaDoorCards
import Derived.Test.YtnkcbogikaebfaaDoorTie
import Derived.Test.YtnkcbogikaebfaaDoorBase05
import Derived.Test.YtnkcbogikaebfaaDoorBase06
import Derived.ProofKit
import Derived.OpenShut
import Derived.ChangeOld
import Derived.LaidMore
import Derived.ChangeSame
import Derived.ChangeVars
import Derived.JoinedOf
import Derived.Lay
import Derived.MakeChecks
import Derived.SevenTiedAt
import Derived.Stop.Joined
import Derived.ChangeMaps5
import Derived.Test.YtnkcbogikaebfaaDoorBase24
section
/- The walk of the law BodyPlays. -/
namespace Go.Proofs.YtnkcbogikaebfaaDoor
open Go Go.RowKit
set_option maxRecDepth 100000
set_option linter.unusedSimpArgs false
set_option linter.unusedVariables false
attribute [local go_sem] giv
variable {E : Nat → Addr} {B : Nat}
instance (c : Cl) : Decidable (inGrid c) := by unfold inGrid; infer_instance
theorem zeroB54 : Tryd.zeroCells29 = (gridV (vB fun _ => false)).toArray := by
  have h : Tryd.zeroCells29 = (List.replicate 384 (Value.bool false)).toArray := by kernel_rfl
  rw [h]
  congr 1
theorem zeroB56 : Tryd.zeroCells32 = (gridV fun _ => .slice none 0 0).toArray := by
  have h : Tryd.zeroCells32 = (List.replicate 384 (Value.slice none 0 0)).toArray := by kernel_rfl
  rw [h, gridV_const]
/-- The law's world, as it begins. -/
theorem pw_new {w0 w2 : World} {ask : Cl} {b m d Q : Nat} (h : BX B [Q] w2 b m d (fun _ => none) (fun _ => none)) (rq : Row w2 Q 24 [.int .i64 ask.1, .int .i64 ask.2]) (hQ : B ≤ Q) (hE : Env E B w2) (hb : Below B w0 w2) :
    PW E B w0 ask [w2.heap.size, w2.heap.size + 1, w2.heap.size + 1 + 1, w2.heap.size + 1 + 1 + 1, Q] b m d w2.heap.size (w2.heap.size + 1) (w2.heap.size + 1 + 1) (w2.heap.size + 1 + 1 + 1) Q (fun _ => none) (fun _ => none) (fun _ => false) (fun _ => false) (fun _ => false) (fun _ => false) (fun _ => []) (fun _ => .slice none 0 0)
      ((((w2.alloc (.cells Tryd.zeroCells29 29)).alloc (.cells Tryd.zeroCells29 29)).alloc (.cells Tryd.zeroCells29 29)).alloc (.cells Tryd.zeroCells32 32)) := by
  rw [zeroB54, zeroB56]
  have hql := rq.lt
  have hbel : Below w2.heap.size w2 ((((w2.alloc (.cells (gridV (vB fun _ => false)).toArray 29)).alloc (.cells (gridV (vB fun _ => false)).toArray 29)).alloc (.cells (gridV (vB fun _ => false)).toArray 29)).alloc (.cells (gridV fun _ => .slice none 0 0).toArray 32)) :=
    bl_alloc (bl_alloc (bl_alloc (bl_alloc (Below.refl _ _) _) _) _) _
  have r1 := (((Row.new w2 29 (gridV (vB fun _ => false))).alloc (.cells (gridV (vB fun _ => false)).toArray 29)).alloc (.cells (gridV (vB fun _ => false)).toArray 29)).alloc (.cells (gridV fun _ => .slice none 0 0).toArray 32)
  have r2 := ((Row.new (w2.alloc (.cells (gridV (vB fun _ => false)).toArray 29)) 29 (gridV (vB fun _ => false))).alloc (.cells (gridV (vB fun _ => false)).toArray 29)).alloc (.cells (gridV fun _ => .slice none 0 0).toArray 32)
  have r3 := (Row.new ((w2.alloc (.cells (gridV (vB fun _ => false)).toArray 29)).alloc (.cells (gridV (vB fun _ => false)).toArray 29)) 29 (gridV (vB fun _ => false))).alloc (.cells (gridV fun _ => .slice none 0 0).toArray 32)
  have r4 := Row.new (((w2.alloc (.cells (gridV (vB fun _ => false)).toArray 29)).alloc (.cells (gridV (vB fun _ => false)).toArray 29)).alloc (.cells (gridV (vB fun _ => false)).toArray 29)) 32 (gridV fun _ => .slice none 0 0)
  simp only [World.alloc, Array.size_push] at r1 r2 r3 r4 hbel ⊢
  refine ⟨h.add hbel [w2.heap.size, w2.heap.size + 1, w2.heap.size + 1 + 1, w2.heap.size + 1 + 1 + 1] (fun x hx => ?_), r1, r2, r3, r4, rq.below hbel, fun x hx => ?_, ⟨by omega, by omega, by omega, by omega, by omega, by omega, by omega, by omega, by omega, by omega⟩, fun c hc => (by cases hc), fun x hx => ?_, hE.below hbel, hb.trans (hbel.mono h.hB)⟩
  · simp at hx ⊢
    omega
  · rcases hx with rfl | rfl | rfl | rfl | rfl <;> simp
  · have := h.hB
    simp at hx
    omega
theorem touchRow {w : World} {X : Nat} (cells : Array Value) : Touch (fun x => x = X) w (w.setRow X cells) :=
  ⟨rfl, rfl, rfl, by simp, fun j _ hn => setRow_other _ _ _ _ hn⟩
/-- All of them clean. -/
theorem PW.allDi {w0 w : World} {ask : Cl} {L : List Nat} {b m d H Lo Di Da Q : Nat} {g : Cl → Option (Option (List Int))} {gd : Cl → Option Int} {has lost dirty hv : Cl → Bool} {data : Cl → List Int} {dv : Cl → Value}
    (h : PW E B w0 ask L b m d H Lo Di Da Q g gd has lost dirty hv data dv w) : PW E B w0 ask L b m d H Lo Di Da Q g gd has lost (fun _ => false) hv data dv (w.setRow Di (gridV (vB fun _ => false)).toArray) := by
  have ht : Touch (fun x => x = Di) w (w.setRow Di (gridV (vB fun _ => false)).toArray) := touchRow _
  obtain ⟨h1, h2, h3, h4⟩ := h.five (X := Di) (.inr (.inr (.inl rfl))) ht
  obtain ⟨n1, n2, n3, n4, n5, n6, n7, n8, n9, n10⟩ := h.ne
  exact ⟨h1, h.rh.touch ht n2, h.rl.touch ht n5, setRow_heap _ Di _ _ _ _ h.rd, h.ra.touch ht (Ne.symm n8), h.rq.touch ht (Ne.symm n9), h.inL, h.ne, h4, h.LB, h2, h3⟩
theorem gridV_one (p : Cl → Bool) : ∀ u ∈ gridV (vB p), u.oneCell' = true := by
  intro u hu
  unfold gridV at hu
  obtain ⟨i, _, rfl⟩ := List.mem_map.1 hu
  rfl
set_option maxHeartbeats 40000000 in
theorem bodyplays_any {w : World} {sl : Value} {ds : List Do16} (hrd : RdE w 4 encDo16 sl ds) (hok : ∀ d ∈ ds, okDo16 w d) {ask : Cl} (ha1 : In64 ask.1) (ha2 : In64 ask.2) (hE : Env E w.heap.size w) :
    Calls Tryd.prog 3 #[sl, .agg #[.int .i64 ask.1, .int .i64 ask.2]] w fun e w' => e = .returned (.bool true) ∧ Below w.heap.size w w' := by
  obtain ⟨B, hB⟩ : ∃ B, w.heap.size = B := ⟨_, rfl⟩
  obtain ⟨sp, cap, rfl, hcap, hnil, hcells⟩ := hrd
  rw [hB] at hE ⊢
  have HE := Lib.hid hE
  have HOK := Lib.hid hok
  have HC := Lib.hid hcells
  have HA := Lib.hid (And.intro ha1 ha2)
  generalize hP : (fun (e : Ending) (w' : World) => e = .returned (.bool true) ∧ Below B w w') = Post
  have HP := Lib.hid hP
  have HBW := Lib.hid hB
  clear hP hE hok hcells ha1 ha2 hB
  go_enter Tryd.func3, Tryd.ntmps3
  go_wp2_with fail
  have rq0 := Row.new w 24 [.int .i64 ask.1, .int .i64 ask.2]
  have bq0 : Below w.heap.size w (w.alloc (.cells #[.int .i64 ask.1, .int .i64 ask.2] 24)) := bl_alloc (Below.refl _ _) _
  have sq0 : (w.alloc (.cells #[.int .i64 ask.1, .int .i64 ask.2] 24)).heap.size = w.heap.size + 1 := by simp
  obtain ⟨wq, hwq⟩ : ∃ wq, wq = w.alloc (.cells #[.int .i64 ask.1, .int .i64 ask.2] 24) := ⟨_, rfl⟩
  rw [← hwq] at bq0 sq0 ⊢
  have rq0 : Row wq w.heap.size 24 [.int .i64 ask.1, .int .i64 ask.2] := by rw [hwq]; exact rq0
  refine (first16 _).mono ?_
  rintro e w1 ⟨rfl, hb1⟩
  have rq1 := rq0.below hb1
  have hb1 := bq0.trans (hb1.mono (by omega))
  have hql : w.heap.size < w1.heap.size := rq1.lt
  obtain ⟨Q, hQ⟩ : ∃ Q, w.heap.size = Q := ⟨_, rfl⟩
  have HQB : Hid (B ≤ Q) := Lib.hid (by rw [← hQ]; exact Nat.le_of_eq HBW.out.symm)
  rw [hQ] at rq1 hql ⊢
  have HRQ := Lib.hid rq1
  clear rq0 bq0 sq0 hwq rq1
  by_cases hlen : (60 : Int) < ds.length
  · have hlen' : (ds.length : Int) > 60 := hlen
    go_wp2
    rw [← HP.out]
    exact ⟨by first | done | rfl, hb1.mono HE.out.size⟩
  · have hlen' : ¬ (ds.length : Int) > 60 := hlen
    have HE1 := Lib.hid (HE.out.below hb1)
    have HB1 := Lib.hid (hb1.mono HE.out.size)
    go_wp2_with fail
    refine (bx_new w1 [Q] (fun x h => by rw [List.mem_singleton] at h; rw [h]; exact hql) HE1.out.size).mono ?_
    rintro e w2 ⟨⟨b, m, d, rfl, hbx, -, -, -⟩, hb2⟩
    have HPW0 := Lib.hid (pw_new hbx (HRQ.out.below hb2) HQB.out (HE1.out.below hb2) (HB1.out.trans (hb2.mono HE1.out.size)))
    clear hbx hb2 HE1 hb1 HB1 HRQ hql hQ
    go_wp2_with fail
    have hpw := HPW0.out
    obtain ⟨w3, hw3⟩ : ∃ w3, w3 = ((((w2.alloc (.cells Tryd.zeroCells29 29)).alloc (.cells Tryd.zeroCells29 29)).alloc (.cells Tryd.zeroCells29 29)).alloc (.cells Tryd.zeroCells32 32)) := ⟨_, rfl⟩
    rw [← hw3] at hpw ⊢
    clear hw3 HPW0
    generalize [w2.heap.size, w2.heap.size + 1, w2.heap.size + 1 + 1, w2.heap.size + 1 + 1 + 1, Q] = L0 at hpw
    generalize w2.heap.size + 1 + 1 + 1 = Da at hpw ⊢
    generalize w2.heap.size + 1 + 1 = Di at hpw ⊢
    generalize w2.heap.size + 1 = Lo at hpw ⊢
    generalize w2.heap.size = H at hpw ⊢
    have HPW := Lib.hid hpw
    clear hpw
    go_loopw [11] (fun i wr => ∃ (j : Nat) (L : List Nat) (dd : Nat) (has lost dirty : Cl → Bool) (data : Cl → List Int) (dv : Cl → Value), j ≤ ds.length ∧ i = .int .i64 (j : Int) ∧
      Hid (PW E B w ask L b m dd H Lo Di Da Q (gOf has lost data) (gdOf dirty) has lost dirty has data dv wr) ∧ Hid ((∀ c, has c = true → inGrid c) ∧ (∀ c, lost c = true → has c = true) ∧ (∀ c, dirty c = true → inGrid c))) (fun i _ => ds.length + 1 - (intOf i).toNat)
    case atStart => exact ⟨0, L0, d, fun _ => false, fun _ => false, fun _ => false, fun _ => [], fun _ => .slice none 0 0, Nat.zero_le _, rfl, HPW, Lib.hid ⟨fun c h => (by cases h), fun c h => (by cases h), fun c h => (by cases h)⟩⟩
    case round =>
      as_aux_lemma =>
        obtain ⟨j, L, dd, has, lost, dirty, data, dv, hj, rfl, HW, HF⟩ := hrel
        clear HPW
        by_cases hlt : j < ds.length
        · obtain ⟨h, off, rfl, hh, hc⟩ := HC.out (by rintro rfl; simp at hlt)
          have hdo := HOK.out ds[j] (List.getElem_mem hlt)
          have hcl : ∀ k, k < 4 → wr.cell? ⟨h, off + j * 4 + k, none⟩ = (encDo16 ds[j])[k]? := fun k hk => by
            rw [HW.out.bel.cell (p := ⟨h, off + j * 4 + k, none⟩) (by rw [← HBW.out]; exact hh), hc j k hlt hk, List.getElem?_eq_getElem hlt]; rfl
          generalize ds[j] = dj at hdo hcl
          obtain ⟨kd, ⟨cn, ck⟩, vv, bl⟩ := dj
          obtain ⟨k1, k2, k3, k4, k5⟩ := hdo
          have d0 := hcl 0 (by omega)
          have d1 := hcl 1 (by omega)
          have d2 := hcl 2 (by omega)
          have d3 := hcl 3 (by omega)
          simp only [encDo16, List.getElem?_cons_zero, List.getElem?_cons_succ, Nat.add_zero] at d0 d1 d2 d3 k1 k2 k3 k4 k5
          have hj0 : (0 : Int) ≤ (j : Int) := by omega
          have hj1 : (j : Int) < (ds.length : Int) := by omega
          have hkb : ∀ w9, Below B w w9 → RdB w9 vv bl := fun w9 hb => by
            obtain ⟨s1, c1, rfl, h1⟩ := k4
            refine ⟨s1, c1, rfl, ?_⟩
            rcases h1 with h1 | ⟨x, o, rfl, hx, hcx⟩
            · exact .inl h1
            · exact .inr ⟨x, o, rfl, Nat.lt_of_lt_of_le hx hb.size, fun i hi => (hb.cell (p := ⟨x, o + i, none⟩) (by rw [← HBW.out]; exact hx)).trans (hcx i hi)⟩
          have hrb : RdB wr vv bl := by
            obtain ⟨s1, c1, rfl, h1⟩ := k4
            refine ⟨s1, c1, rfl, ?_⟩
            rcases h1 with h1 | ⟨x, o, rfl, hx, hcx⟩
            · exact .inl h1
            · exact .inr ⟨x, o, rfl, Nat.lt_of_lt_of_le hx (by rw [HBW.out]; exact HW.out.bx.hB), fun i hi => (HW.out.bel.cell (p := ⟨x, o + i, none⟩) (by rw [← HBW.out]; exact hx)).trans (hcx i hi)⟩
          obtain ⟨s1, c1, rfl, h1⟩ := hrb
          have HKB := Lib.hid hkb
          have HRB : Hid (RdB wr (.slice s1 bl.length c1) bl) := Lib.hid ⟨s1, c1, rfl, h1⟩
          have HK := Lib.hid (And.intro k1 (And.intro k2 (And.intro k3 k5)))
          clear hcl k1 k2 k3 k4 k5 hc h1 hkb
          go_upto_region 13 with fail
          have rD := Row.new wr 34 [.int .i64 kd, .int .i64 cn, .int .i64 ck, .slice s1 bl.length c1]
          have bD : Below wr.heap.size wr (wr.alloc (.cells #[.int .i64 kd, .int .i64 cn, .int .i64 ck, .slice s1 bl.length c1] 34)) := bl_alloc (Below.refl _ _) _
          have hw4 := HW.out.add bD [wr.heap.size] (fun x hx => by rw [List.mem_singleton] at hx; subst hx; simp)
          have hfv : ¬ Five H Lo Di Da Q wr.heap.size := fun hx => by have := HW.out.bx.hL _ (HW.out.inL _ hx); omega
          obtain ⟨w4, hw⟩ : ∃ w4, w4 = wr.alloc (.cells #[.int .i64 kd, .int .i64 cn, .int .i64 ck, .slice s1 bl.length c1] 34) := ⟨_, rfl⟩
          have rD4 : Row w4 wr.heap.size 34 [.int .i64 kd, .int .i64 cn, .int .i64 ck, .slice s1 bl.length c1] := by rw [hw]; exact rD
          rw [← hw] at hw4 bD ⊢
          have HRB4 := Lib.hid (HRB.out.below bD)
          obtain ⟨D, hD⟩ : ∃ D, wr.heap.size = D := ⟨_, rfl⟩
          rw [hD] at rD4 hfv hw4 ⊢
          have HD4 : Hid (Row w4 D 34 [.int .i64 kd, .int .i64 cn, .int .i64 ck, .slice s1 bl.length c1] ∧ D ∈ [D] ++ L ∧ ¬ Five H Lo Di Da Q D) := Lib.hid ⟨rD4, by simp, hfv⟩
          have HW4 := Lib.hid hw4
          clear rD bD hw4 hfv hw rD4 HW hD d0 d1 d2 d3 HRB
          generalize [D] ++ L = L4 at HW4 HD4
          have e0 : w4.cell? ⟨D, 0, none⟩ = some (.int .i64 kd) := (HD4.out.1.cell 0).trans rfl
          have e1 : w4.cell? ⟨D, 1, none⟩ = some (.int .i64 cn) := (HD4.out.1.cell 1).trans rfl
          have e2 : w4.cell? ⟨D, 2, none⟩ = some (.int .i64 ck) := (HD4.out.1.cell 2).trans rfl
          have e3 : w4.cell? ⟨D, 3, none⟩ = some (.slice s1 bl.length c1) := (HD4.out.1.cell 3).trans rfl
          go_cut [67] (fun c wx => c = .bool (decide ((bl.length : Int) > 400 ∨ (cn > 5 ∧ cn < 16777216))) ∧ w4 = wx)
          case first =>
            as_aux_lemma =>
              by_cases f1 : (bl.length : Int) > 400
              · go_wp2_with fail
                go_meet
                case rel => exact ⟨congrArg Value.bool (decide_eq_true (.inl f1)).symm, rfl⟩
              · by_cases f2 : cn > 5
                · by_cases f3 : cn < 16777216
                  · go_wp2_with fail
                    go_meet
                    case rel => exact ⟨congrArg Value.bool (decide_eq_true (.inr ⟨f2, f3⟩)).symm, rfl⟩
                  · go_wp2_with fail
                    go_meet
                    case rel => exact ⟨congrArg Value.bool (decide_eq_false (by omega)).symm, rfl⟩
                · go_wp2_with fail
                  go_meet
                  case rel => exact ⟨congrArg Value.bool (decide_eq_false (by omega)).symm, rfl⟩
          case rest =>
            obtain ⟨rfl, rfl⟩ := hcut
            by_cases hbad : (bl.length : Int) > 400 ∨ (cn > 5 ∧ cn < 16777216)
            · as_aux_lemma =>
              rw [decide_eq_true hbad]
              clear hbad
              go_wp2
              rw [← HP.out]
              exact ⟨by first | done | rfl, HW4.out.bel⟩
            · rw [decide_eq_false hbad]
              have HBAD := Lib.hid hbad
              clear hbad
              go_upto_region 17 with fail
              go_cut [15] (fun c wx => c = .bool (decide (inGrid (cn, ck))) ∧ w4 = wx)
              case first =>
                as_aux_lemma =>
                  by_cases g1 : cn ≥ 1
                  · by_cases g2 : cn ≤ 5
                    · by_cases g3 : ck ≥ 0
                      · by_cases g4 : ck < 64
                        · go_wp2_with fail
                          go_meet
                          case rel => exact ⟨congrArg Value.bool (decide_eq_true (p := inGrid (cn, ck)) ⟨by simp only; omega, by simp only; omega, by simp only; omega, by simp only; omega⟩).symm, rfl⟩
                        · go_wp2_with fail
                          go_meet
                          case rel => exact ⟨congrArg Value.bool (decide_eq_false (p := inGrid (cn, ck)) (by rintro ⟨h1, h2, h3, h4⟩; simp only at h1 h2 h3 h4; omega)).symm, rfl⟩
                      · go_wp2_with fail
                        go_meet
                        case rel => exact ⟨congrArg Value.bool (decide_eq_false (p := inGrid (cn, ck)) (by rintro ⟨h1, h2, h3, h4⟩; simp only at h1 h2 h3 h4; omega)).symm, rfl⟩
                    · go_wp2_with fail
                      go_meet
                      case rel => exact ⟨congrArg Value.bool (decide_eq_false (p := inGrid (cn, ck)) (by rintro ⟨h1, h2, h3, h4⟩; simp only at h1 h2 h3 h4; omega)).symm, rfl⟩
                  · go_wp2_with fail
                    go_meet
                    case rel => exact ⟨congrArg Value.bool (decide_eq_false (p := inGrid (cn, ck)) (by rintro ⟨h1, h2, h3, h4⟩; simp only at h1 h2 h3 h4; omega)).symm, rfl⟩
              case rest =>
                obtain ⟨rfl, rfl⟩ := hcut
                generalize hin : decide (inGrid (cn, ck)) = inb
                have HIN := Lib.hid hin
                clear hin e0 e1 e2 e3
                go_wp2_with fail
                refine (bx_clone HW4.out.bx).mono ?_
                rintro e w5 ⟨⟨b', m', e', rfl, hcl5, -, -, -⟩, hb5⟩
                have HCL5 := Lib.hid hcl5
                have HW5 := Lib.hid (HW4.out.below hb5)
                have HD5 : Hid (Row w5 D 34 [.int .i64 kd, .int .i64 cn, .int .i64 ck, .slice s1 bl.length c1] ∧ D ∈ L4 ∧ ¬ Five H Lo Di Da Q D) := Lib.hid ⟨HD4.out.1.below hb5, HD4.out.2⟩
                have HRB5 := Lib.hid (HRB4.out.below hb5)
                clear hcl5 hb5 HW4 HD4 HRB4
                go_wp2_with fail
                refine (bx_dirty HCL5.out (S := gridK) (fun c hc => grid_mem.2 (HF.out.2.2 c (by rw [gdOf_some] at hc; exact hc))) (by rw [grid_len]; omega)).mono ?_
                rintro e w6 ⟨⟨v6, zs, rfl, hz1, hz2, -, hz4, -⟩, hb6⟩
                obtain ⟨sz, cz, rfl⟩ := hz4.shape
                have HZ := Lib.hid (And.intro hz1 hz2)
                have HCL6 := Lib.hid (HCL5.out.below hb6)
                have HW6 := Lib.hid (HW5.out.below hb6)
                have HD6 : Hid (Row w6 D 34 [.int .i64 kd, .int .i64 cn, .int .i64 ck, .slice s1 bl.length c1] ∧ D ∈ L4 ∧ ¬ Five H Lo Di Da Q D) := Lib.hid ⟨HD5.out.1.below hb6, HD5.out.2⟩
                have HRB6 := Lib.hid (HRB5.out.below hb6)
                have e0 : w6.cell? ⟨D, 0, none⟩ = some (.int .i64 kd) := (HD6.out.1.cell 0).trans rfl
                have e1 : w6.cell? ⟨D, 1, none⟩ = some (.int .i64 cn) := (HD6.out.1.cell 1).trans rfl
                have e2 : w6.cell? ⟨D, 2, none⟩ = some (.int .i64 ck) := (HD6.out.1.cell 2).trans rfl
                have e3 : w6.cell? ⟨D, 3, none⟩ = some (.slice s1 bl.length c1) := (HD6.out.1.cell 3).trans rfl
                clear hz1 hz2 hz4 hb6 HCL5 HW5 HD5 HRB5
                go_upto_block 2 with fail
                go_cut [18] (fun _ wx => ∃ (L' : List Nat) (d' : Nat) (has' lost' dirty' : Cl → Bool) (data' : Cl → List Int) (dv' : Cl → Value),
                  Hid (PW E B w ask L' b m d' H Lo Di Da Q (gOf has' lost' data') (gdOf dirty') has' lost' dirty' has' data' dv' wx) ∧ Hid ((∀ c, has' c = true → inGrid c) ∧ (∀ c, lost' c = true → has' c = true) ∧ (∀ c, dirty' c = true → inGrid c)) ∧
                  Hid (BX B (b :: m :: dd :: L4) wx b' m' e' (gOf has lost data) (gdOf dirty)))
                case first =>
                  have lD := HD6.out.1.lt
                  by_cases k1 : kd = 1
                  case pos =>
                    subst k1
                    by_cases hs : inGrid (cn, ck) ∧ bl.length ≤ 256
                    case pos =>
                      as_aux_lemma =>
                      obtain ⟨hg, hl⟩ := hs
                      have hib : inb = true := by rw [← HIN.out]; exact decide_eq_true hg
                      subst hib
                      obtain ⟨q1, q2, q3, q4⟩ := hg
                      simp only at q1 q2 q3 q4
                      obtain ⟨n, rfl⟩ : ∃ n : Nat, cn = (n : Int) := ⟨cn.toNat, by omega⟩
                      obtain ⟨k, rfl⟩ : ∃ k : Nat, ck = (k : Int) := ⟨ck.toNat, by omega⟩
                      have hn : n < 6 := by omega
                      have hk : k < 64 := by omega
                      have hl2 : ¬ (bl.length : Int) > 256 := by omega
                      have HG := Lib.hid (And.intro q1 (And.intro q2 (And.intro q3 (And.intro q4 hl))))
                      clear q1 q2 q3 q4 hl
                      go_wp2_with fail
                      refine (pw_set HW6.out HCL6.out (c := ((n : Int), (k : Int))) (by have := HG.out; unfold cellOk; simp only; omega) HG.out.2.2.2.2 HRB6.out.slIn HD6.out.1 HD6.out.2.1).mono ?_
                      rintro e w7 ⟨rfl, hw7, hc7, hd7⟩
                      have HW7 := Lib.hid hw7
                      have HCL7 := Lib.hid hc7
                      have HD7 := Lib.hid hd7
                      clear hw7 hc7 hd7 e0 e1 e2 e3 lD HW6 HCL6 HRB6
                      go_wp2_with fail
                      refine (is_ok0 w7).mono ?_
                      rintro e w8 ⟨rfl, hb8⟩
                      have HW8 := Lib.hid (HW7.out.below hb8)
                      have HCL8 := Lib.hid (HCL7.out.below hb8)
                      have HD8 := Lib.hid (HD7.out.below hb8)
                      clear hb8 HW7 HCL7 HD7
                      go_upto_region 30 with fail
                      have c8 := HW8.out.cH hn hk
                      have f8 := HW8.out.rh.froz (n * 64 + k)
                      have l8 := HW8.out.rh.lt
                      go_upto_region 31 with fail
                      obtain ⟨w9, hw9⟩ : ∃ w9, w9 = w8.setCell ⟨H, n * 64 + k, none⟩ (.bool true) := ⟨_, rfl⟩
                      rw [← hw9]
                      have HW9 := Lib.hid (HW8.out.setH hn hk true)
                      rw [← hw9] at HW9
                      have HCL9 := Lib.hid (HCL8.out.touch (touch1 w8 H (n * 64 + k) (.bool true)) (fun x h => by rw [h]; simp [HW8.out.inL H (by simp [Five])]))
                      rw [← hw9] at HCL9
                      have HD9 := Lib.hid (HD8.out.other (p := ⟨H, n * 64 + k, none⟩) (fun e => HD6.out.2.2 (by rw [e]; simp [Five])) (.bool true))
                      rw [← hw9] at HD9
                      clear hw9 c8 f8 l8 HW8 HCL8 HD8
                      have c9 := HW9.out.cLo hn hk
                      have f9 := HW9.out.rl.froz (n * 64 + k)
                      have l9 := HW9.out.rl.lt
                      go_upto_region 32 with fail
                      obtain ⟨w10, hw10⟩ : ∃ w10, w10 = w9.setCell ⟨Lo, n * 64 + k, none⟩ (.bool false) := ⟨_, rfl⟩
                      rw [← hw10]
                      have HW10 := Lib.hid (HW9.out.setLo hn hk false)
                      rw [← hw10] at HW10
                      have HCL10 := Lib.hid (HCL9.out.touch (touch1 w9 Lo (n * 64 + k) (.bool false)) (fun x h => by rw [h]; simp [HW9.out.inL Lo (by simp [Five])]))
                      rw [← hw10] at HCL10
                      have HD10 := Lib.hid (HD9.out.other (p := ⟨Lo, n * 64 + k, none⟩) (fun e => HD6.out.2.2 (by rw [e]; simp [Five])) (.bool false))
                      rw [← hw10] at HD10
                      clear hw10 c9 f9 l9 HW9 HCL9 HD9
                      have c10 := HW10.out.cDi hn hk
                      have f10 := HW10.out.rd.froz (n * 64 + k)
                      have l10 := HW10.out.rd.lt
                      go_upto_region 33 with fail
                      obtain ⟨w11, hw11⟩ : ∃ w11, w11 = w10.setCell ⟨Di, n * 64 + k, none⟩ (.bool true) := ⟨_, rfl⟩
                      rw [← hw11]
                      have HW11 := Lib.hid (HW10.out.setDi hn hk true)
                      rw [← hw11] at HW11
                      have HCL11 := Lib.hid (HCL10.out.touch (touch1 w10 Di (n * 64 + k) (.bool true)) (fun x h => by rw [h]; simp [HW10.out.inL Di (by simp [Five])]))
                      rw [← hw11] at HCL11
                      have HD11 := Lib.hid (HD10.out.other (p := ⟨Di, n * 64 + k, none⟩) (fun e => HD6.out.2.2 (by rw [e]; simp [Five])) (.bool true))
                      rw [← hw11] at HD11
                      clear hw11 c10 f10 l10 HW10 HCL10 HD10
                      have HRB11 := Lib.hid (HKB.out w11 HW11.out.bel)
                      have HDA : Hid (Da ∈ L4) := Lib.hid (HW11.out.inL Da (by simp [Five]))
                      have x3 : w11.cell? ⟨D, 3, none⟩ = some (.slice s1 bl.length c1) := (HD11.out.cell 3).trans rfl
                      have xl := HD11.out.lt
                      have hn0 : (0 : Int) ≤ (n : Int) := by omega
                      have hn6 : (n : Int) < 6 := by omega
                      have hk0 : (0 : Int) ≤ (k : Int) := by omega
                      have hk6 : (k : Int) < 64 := by omega
                      have S : ∀ w', Below w11.heap.size w11 w' → w'.cell? ⟨D, 3, none⟩ = some (.slice s1 bl.length c1) := fun w' hb => (hb.cell (p := ⟨D, 3, none⟩) xl).trans x3
                      clear x3
                      apply wp_region_tail 7 _ (by kernel_rfl) (by kernel_rfl) (by kernel_rfl) (by decide) (fun w' => Below w11.heap.size w11 w') (fun w' w'' => Below w'.heap.size w' w'') (fun w' w'' h1 h2 => bl_trans h1 h2) (Below.refl _ _).drew
                      simp only [List.take_succ_cons, List.take_zero, List.drop_succ_cons, List.drop_zero]
                      repeat (first
                        | (apply wpRel_skip (by rfl)
                           simp only [Act.put, List.setIfInBounds_toArray, List.set_cons_zero, List.set_cons_succ])
                        | (apply wpRel_fix (by rfl)
                           · intro w' hC hf R hR
                             have hS := S w' hC
                             go_simp
                             exact hR _ (Below.refl _ _)
                           simp only [Act.put, List.setIfInBounds_toArray, List.set_cons_zero, List.set_cons_succ]))
                      apply wpRel_rel (fun v w' => ∃ x, v = .slice (some ⟨x, 0, none⟩) 256 256 ∧ w11.heap.size ≤ x ∧ Row w' x 5 ((pad bl).map (Value.int .u8))) (by rfl) (fun v wa wb ⟨x, h1, h2, h3⟩ hE => ⟨x, h1, h2, h3.below hE⟩)
                      · intro w' hC hf R hR
                        go_simp
                        refine (full_any (HRB11.out.below hC) HG.out.2.2.2.2).mono ?_
                        rintro e w'' ⟨⟨x, rfl, h1, h2⟩, hb⟩
                        exact ⟨_, rfl, hR _ _ ⟨x, rfl, Nat.le_trans hC.size h1, h2⟩ hb⟩
                      intro vf
                      simp only [Act.put, List.setIfInBounds_toArray, List.set_cons_zero, List.set_cons_succ]
                      repeat (first
                        | (apply wpRel_skip (by rfl)
                           simp only [Act.put, List.setIfInBounds_toArray, List.set_cons_zero, List.set_cons_succ])
                        | (apply wpRel_fix (by rfl)
                           · intro w' hC hf R hR
                             have hS := S w' hC
                             go_simp
                             exact hR _ (Below.refl _ _)
                           simp only [Act.put, List.setIfInBounds_toArray, List.set_cons_zero, List.set_cons_succ]))
                      refine wpRel_nil (fun w12 hC hf => ?_)
                      obtain ⟨x, rfl, hx0, hr12⟩ := hf _ (List.mem_cons_self ..)
                      have hxl := hr12.lt
                      have HW12 := Lib.hid (HW11.out.add hC [x] (fun y hy => by rw [List.mem_singleton] at hy; subst hy; exact ⟨hx0, hxl⟩))
                      have HCL12 := Lib.hid (HCL11.out.below hC)
                      have HX12 : Hid (¬ Five H Lo Di Da Q x ∧ Row w12 x 5 ((pad bl).map (Value.int .u8))) := Lib.hid ⟨fun h => by have := HW11.out.bx.hL x (HW11.out.inL x h); omega, hr12⟩
                      have c12 := HW12.out.cDa hn hk
                      have f12 := HW12.out.ra.froz (n * 64 + k)
                      have l12 := HW12.out.ra.lt
                      clear S hf hC hr12 hx0 hxl HW11 HCL11 HD11 HRB11 xl
                      go_wp2_with fail
                      have HW13 := Lib.hid (HW12.out.setDa hn hk (pad_len HG.out.2.2.2.2) HX12.out.2 (by simp) HX12.out.1)
                      have HCL13 := Lib.hid (HCL12.out.touch (touch1 w12 Da (n * 64 + k) (.slice (some ⟨x, 0, none⟩) 256 256)) (fun y h => by
                        rw [h]
                        simp [HDA.out]))
                      go_meet
                      case rel =>
                        refine ⟨[x] ++ L4, dd, updF has ((n : Int), (k : Int)) true, updF lost ((n : Int), (k : Int)) false, updF dirty ((n : Int), (k : Int)) true, updF data ((n : Int), (k : Int)) (pad bl), updF dv ((n : Int), (k : Int)) (.slice (some ⟨x, 0, none⟩) 256 256), ?_, Lib.hid ⟨fun c hc => ?_, fun c hc => ?_, fun c hc => ?_⟩, HCL13⟩
                        · have h := HW13.out
                          rw [gOf_set, gdOf_yes] at h
                          exact Lib.hid h
                        · unfold updF at hc
                          by_cases he : c = ((n : Int), (k : Int))
                          · rw [he]
                            have := HG.out
                            exact ⟨by simp only; omega, by simp only; omega, by simp only; omega, by simp only; omega⟩
                          · rw [if_neg he] at hc; exact HF.out.1 c hc
                        · unfold updF at hc ⊢
                          by_cases he : c = ((n : Int), (k : Int))
                          · rw [if_pos he] at hc; cases hc
                          · rw [if_neg he] at hc ⊢; exact HF.out.2.1 c hc
                        · unfold updF at hc
                          by_cases he : c = ((n : Int), (k : Int))
                          · rw [he]
                            have := HG.out
                            exact ⟨by simp only; omega, by simp only; omega, by simp only; omega, by simp only; omega⟩
                          · rw [if_neg he] at hc; exact HF.out.2.2 c hc
                    case neg =>
                      as_aux_lemma =>
                      have hbad : ¬ (cellOk (cn, ck) ∧ bl.length ≤ 256) := by
                        rintro ⟨⟨h1, h2, h3, h4⟩, h5⟩
                        have h6 := HBAD.out
                        simp only at h1 h2 h3 h4
                        exact hs ⟨⟨by simp only; omega, by simp only; omega, by simp only; omega, by simp only; omega⟩, h5⟩
                      have HBS := Lib.hid (bset_bad (b := b) (c := (cn, ck)) (sp := s1) (cap := c1) hbad HW6.out.env)
                      have HW7 : Hid (∀ w7, Below w6.heap.size w6 w7 → PW E B w ask L4 b m dd H Lo Di Da Q (gOf has lost data) (gdOf dirty) has lost dirty has data dv w7 ∧ BX B (b :: m :: dd :: L4) w7 b' m' e' (gOf has lost data) (gdOf dirty) ∧ Env E B w7) := Lib.hid (fun w7 hb => ⟨HW6.out.below hb, HCL6.out.below hb, HW6.out.env.below hb⟩)
                      clear hbad
                      by_cases hg : inGrid (cn, ck)
                      case pos =>
                        have hib : inb = true := by rw [← HIN.out]; exact decide_eq_true hg
                        have hl2 : (bl.length : Int) > 256 := by have : ¬ bl.length ≤ 256 := fun h => hs ⟨hg, h⟩; omega
                        subst hib
                        clear hs hg
                        go_wp2_with fail
                        refine HBS.out.mono ?_
                        rintro e w7 ⟨rfl, hb7⟩
                        have H7 := Lib.hid (HW7.out w7 hb7)
                        have HB7 := Lib.hid hb7
                        clear hb7 e0 e1 e2 e3 lD
                        go_wp2_with fail
                        refine (is_range H7.out.2.2).mono ?_
                        rintro e w8 ⟨rfl, hb8⟩
                        have H8 := Lib.hid (HW7.out w8 (HB7.out.trans (hb8.mono HB7.out.size)))
                        clear hb8
                        go_wp2_with fail
                        go_meet
                        case rel => exact ⟨L4, dd, has, lost, dirty, data, dv, Lib.hid H8.out.1, HF, Lib.hid H8.out.2.1⟩
                      case neg =>
                        have hib : inb = false := by rw [← HIN.out]; exact decide_eq_false hg
                        subst hib
                        clear hs hg
                        go_wp2_with fail
                        refine HBS.out.mono ?_
                        rintro e w7 ⟨rfl, hb7⟩
                        have H7 := Lib.hid (HW7.out w7 hb7)
                        have HB7 := Lib.hid hb7
                        clear hb7 e0 e1 e2 e3 lD
                        go_wp2_with fail
                        refine (is_range H7.out.2.2).mono ?_
                        rintro e w8 ⟨rfl, hb8⟩
                        have H8 := Lib.hid (HW7.out w8 (HB7.out.trans (hb8.mono HB7.out.size)))
                        clear hb8
                        go_wp2_with fail
                        go_meet
                        case rel => exact ⟨L4, dd, has, lost, dirty, data, dv, Lib.hid H8.out.1, HF, Lib.hid H8.out.2.1⟩
                  have k1b : (kd == 1) = false := by rw [beq_eq_false_iff_ne]; exact k1
                  by_cases k2 : kd = 2
                  case pos =>
                    subst k2
                    as_aux_lemma =>
                    by_cases hg : inGrid (cn, ck)
                    case neg =>
                      have hib : inb = false := by rw [← HIN.out]; exact decide_eq_false hg
                      subst hib
                      have hh : has (cn, ck) = false := by
                        cases h : has (cn, ck) with
                        | false => rfl
                        | true => exact absurd (HF.out.1 _ h) hg
                      have HLC := Lib.hid (bx_lose_no HW6.out.bx (c := (cn, ck)) HK.out.2.1 HK.out.2.2.1 (by unfold gOf; rw [hh]; rfl))
                      clear hg hh
                      go_wp2_with fail
                      refine HLC.out.mono ?_
                      rintro e w7 ⟨rfl, hb7⟩
                      have HW7 := Lib.hid (HW6.out.below hb7)
                      have HCL7 := Lib.hid (HCL6.out.below hb7)
                      clear hb7 e0 e1 e2 e3 lD
                      go_wp2_with fail
                      go_meet
                      case rel => exact ⟨L4, dd, has, lost, dirty, data, dv, HW7, HF, HCL7⟩
                    have hib : inb = true := by rw [← HIN.out]; exact decide_eq_true hg
                    subst hib
                    obtain ⟨q1, q2, q3, q4⟩ := hg
                    simp only at q1 q2 q3 q4
                    obtain ⟨n, rfl⟩ : ∃ n : Nat, cn = (n : Int) := ⟨cn.toNat, by omega⟩
                    obtain ⟨k, rfl⟩ : ∃ k : Nat, ck = (k : Int) := ⟨ck.toNat, by omega⟩
                    have hn : n < 6 := by omega
                    have hk : k < 64 := by omega
                    have HG := Lib.hid (And.intro q1 (And.intro q2 (And.intro q3 q4)))
                    clear q1 q2 q3 q4
                    have cH := HW6.out.cH hn hk
                    have fH := HW6.out.rh.froz (n * 64 + k)
                    have lH := HW6.out.rh.lt
                    cases hh : has ((n : Int), (k : Int)) with
                    | false =>
                      rw [hh] at cH
                      have HLC := Lib.hid (bx_lose_no HW6.out.bx (c := ((n : Int), (k : Int))) HK.out.2.1 HK.out.2.2.1 (by unfold gOf; rw [hh]; rfl))
                      clear hh
                      go_wp2_with fail
                      refine HLC.out.mono ?_
                      rintro e w7 ⟨rfl, hb7⟩
                      have HW7 := Lib.hid (HW6.out.below hb7)
                      have HCL7 := Lib.hid (HCL6.out.below hb7)
                      clear hb7 e0 e1 e2 e3 lD cH fH lH
                      go_wp2_with fail
                      go_meet
                      case rel => exact ⟨L4, dd, has, lost, dirty, data, dv, HW7, HF, HCL7⟩
                    | true =>
                      rw [hh] at cH
                      have HHH := Lib.hid hh
                      have HLC := Lib.hid (bx_lose HW6.out.bx (c := ((n : Int), (k : Int))) HK.out.2.1 HK.out.2.2.1 (o := if lost ((n : Int), (k : Int)) = true then none else some (data ((n : Int), (k : Int)))) (by unfold gOf; rw [if_pos hh]; split <;> rfl))
                      clear hh
                      go_wp2_with fail
                      refine HLC.out.mono ?_
                      rintro e w7 ⟨rfl, hx⟩
                      have HW7 := Lib.hid (HW6.out.out hx.1 hx.2 (fun x h => h))
                      have HCL7 := Lib.hid (HCL6.out.touch hx.2 (fun x h => by rcases h with h | h | h <;> simp [h]))
                      clear hx e0 e1 e2 e3 lD cH fH lH
                      go_upto_region 39 with fail
                      have c7 := HW7.out.cLo hn hk
                      have f7 := HW7.out.rl.froz (n * 64 + k)
                      have l7 := HW7.out.rl.lt
                      go_upto_region 40 with fail
                      obtain ⟨w8, hw8⟩ : ∃ w8, w8 = w7.setCell ⟨Lo, n * 64 + k, none⟩ (.bool true) := ⟨_, rfl⟩
                      rw [← hw8]
                      have HW8 := Lib.hid (HW7.out.setLo hn hk true)
                      rw [← hw8] at HW8
                      have HCL8 := Lib.hid (HCL7.out.touch (touch1 w7 Lo (n * 64 + k) (.bool true)) (fun x h => by rw [h]; simp [HW7.out.inL Lo (by simp [Five])]))
                      rw [← hw8] at HCL8
                      clear hw8 c7 f7 l7 HW7 HCL7
                      have c8 := HW8.out.cDi hn hk
                      have f8 := HW8.out.rd.froz (n * 64 + k)
                      have l8 := HW8.out.rd.lt
                      go_wp2_with fail
                      obtain ⟨w9, hw9⟩ : ∃ w9, w9 = w8.setCell ⟨Di, n * 64 + k, none⟩ (.bool false) := ⟨_, rfl⟩
                      rw [← hw9]
                      have HW9 := Lib.hid (HW8.out.setDi hn hk false)
                      rw [← hw9] at HW9
                      have HCL9 := Lib.hid (HCL8.out.touch (touch1 w8 Di (n * 64 + k) (.bool false)) (fun x h => by rw [h]; simp [HW8.out.inL Di (by simp [Five])]))
                      rw [← hw9] at HCL9
                      clear hw9 c8 f8 l8 HW8 HCL8
                      go_meet
                      case rel =>
                        refine ⟨L4, dd, has, updF lost ((n : Int), (k : Int)) true, updF dirty ((n : Int), (k : Int)) false, data, dv, ?_, Lib.hid ⟨HF.out.1, fun c hc => ?_, fun c hc => ?_⟩, HCL9⟩
                        · have h := HW9.out
                          rw [gOf_lose HHH.out, gdOf_no] at h
                          exact Lib.hid h
                        · unfold updF at hc
                          by_cases he : c = ((n : Int), (k : Int))
                          · rw [he]; exact HHH.out
                          · rw [if_neg he] at hc; exact HF.out.2.1 c hc
                        · unfold updF at hc
                          by_cases he : c = ((n : Int), (k : Int))
                          · rw [if_pos he] at hc; cases hc
                          · rw [if_neg he] at hc; exact HF.out.2.2 c hc
                  have k2b : (kd == 2) = false := by rw [beq_eq_false_iff_ne]; exact k2
                  by_cases k3 : kd = 3
                  case pos =>
                    subst k3
                    as_aux_lemma =>
                    by_cases hg : inGrid (cn, ck)
                    case neg =>
                      have hib : inb = false := by rw [← HIN.out]; exact decide_eq_false hg
                      subst hib
                      have hh : has (cn, ck) = false := by
                        cases h : has (cn, ck) with
                        | false => rfl
                        | true => exact absurd (HF.out.1 _ h) hg
                      have HLC := Lib.hid (bx_del_no HW6.out.bx (c := (cn, ck)) HK.out.2.1 HK.out.2.2.1 (by unfold gOf; rw [hh]; rfl))
                      clear hg hh
                      go_wp2_with fail
                      refine HLC.out.mono ?_
                      rintro e w7 ⟨rfl, hb7⟩
                      have HW7 := Lib.hid (HW6.out.below hb7)
                      have HCL7 := Lib.hid (HCL6.out.below hb7)
                      clear hb7 e0 e1 e2 e3 lD
                      go_wp2_with fail
                      go_meet
                      case rel => exact ⟨L4, dd, has, lost, dirty, data, dv, HW7, HF, HCL7⟩
                    have hib : inb = true := by rw [← HIN.out]; exact decide_eq_true hg
                    subst hib
                    obtain ⟨q1, q2, q3, q4⟩ := hg
                    simp only at q1 q2 q3 q4
                    obtain ⟨n, rfl⟩ : ∃ n : Nat, cn = (n : Int) := ⟨cn.toNat, by omega⟩
                    obtain ⟨k, rfl⟩ : ∃ k : Nat, ck = (k : Int) := ⟨ck.toNat, by omega⟩
                    have hn : n < 6 := by omega
                    have hk : k < 64 := by omega
                    have HG := Lib.hid (And.intro q1 (And.intro q2 (And.intro q3 q4)))
                    clear q1 q2 q3 q4
                    have cH := HW6.out.cH hn hk
                    have fH := HW6.out.rh.froz (n * 64 + k)
                    have lH := HW6.out.rh.lt
                    cases hh : has ((n : Int), (k : Int)) with
                    | false =>
                      rw [hh] at cH
                      have HLC := Lib.hid (bx_del_no HW6.out.bx (c := ((n : Int), (k : Int))) HK.out.2.1 HK.out.2.2.1 (by unfold gOf; rw [hh]; rfl))
                      clear hh
                      go_wp2_with fail
                      refine HLC.out.mono ?_
                      rintro e w7 ⟨rfl, hb7⟩
                      have HW7 := Lib.hid (HW6.out.below hb7)
                      have HCL7 := Lib.hid (HCL6.out.below hb7)
                      clear hb7 e0 e1 e2 e3 lD cH fH lH
                      go_wp2_with fail
                      go_meet
                      case rel => exact ⟨L4, dd, has, lost, dirty, data, dv, HW7, HF, HCL7⟩
                    | true =>
                      rw [hh] at cH
                      have HHH := Lib.hid hh
                      have HLC := Lib.hid (bx_del HW6.out.bx (c := ((n : Int), (k : Int))) HK.out.2.1 HK.out.2.2.1 (o := if lost ((n : Int), (k : Int)) = true then none else some (data ((n : Int), (k : Int)))) (by unfold gOf; rw [if_pos hh]; split <;> rfl))
                      clear hh
                      go_wp2_with fail
                      refine HLC.out.mono ?_
                      rintro e w7 ⟨rfl, hx⟩
                      have HW7 := Lib.hid (HW6.out.out hx.1 hx.2 (fun x h => h))
                      have HCL7 := Lib.hid (HCL6.out.touch hx.2 (fun x h => by rcases h with h | h | h <;> simp [h]))
                      clear hx e0 e1 e2 e3 lD cH fH lH
                      go_upto_region 46 with fail
                      have c7 := HW7.out.cH hn hk
                      have f7 := HW7.out.rh.froz (n * 64 + k)
                      have l7 := HW7.out.rh.lt
                      go_upto_region 47 with fail
                      obtain ⟨w8, hw8⟩ : ∃ w8, w8 = w7.setCell ⟨H, n * 64 + k, none⟩ (.bool false) := ⟨_, rfl⟩
                      rw [← hw8]
                      have HW8 := Lib.hid (HW7.out.setH hn hk false)
                      rw [← hw8] at HW8
                      have HCL8 := Lib.hid (HCL7.out.touch (touch1 w7 H (n * 64 + k) (.bool false)) (fun x h => by rw [h]; simp [HW7.out.inL H (by simp [Five])]))
                      rw [← hw8] at HCL8
                      clear hw8 c7 f7 l7 HW7 HCL7
                      have c8 := HW8.out.cLo hn hk
                      have f8 := HW8.out.rl.froz (n * 64 + k)
                      have l8 := HW8.out.rl.lt
                      go_upto_region 48 with fail
                      obtain ⟨w9, hw9⟩ : ∃ w9, w9 = w8.setCell ⟨Lo, n * 64 + k, none⟩ (.bool false) := ⟨_, rfl⟩
                      rw [← hw9]
                      have HW9 := Lib.hid (HW8.out.setLo hn hk false)
                      rw [← hw9] at HW9
                      have HCL9 := Lib.hid (HCL8.out.touch (touch1 w8 Lo (n * 64 + k) (.bool false)) (fun x h => by rw [h]; simp [HW8.out.inL Lo (by simp [Five])]))
                      rw [← hw9] at HCL9
                      clear hw9 c8 f8 l8 HW8 HCL8
                      have c9 := HW9.out.cDi hn hk
                      have f9 := HW9.out.rd.froz (n * 64 + k)
                      have l9 := HW9.out.rd.lt
                      go_upto_region 49 with fail
                      obtain ⟨w10, hw10⟩ : ∃ w10, w10 = w9.setCell ⟨Di, n * 64 + k, none⟩ (.bool true) := ⟨_, rfl⟩
                      rw [← hw10]
                      have HW10 := Lib.hid (HW9.out.setDi hn hk true)
                      rw [← hw10] at HW10
                      have HCL10 := Lib.hid (HCL9.out.touch (touch1 w9 Di (n * 64 + k) (.bool true)) (fun x h => by rw [h]; simp [HW9.out.inL Di (by simp [Five])]))
                      rw [← hw10] at HCL10
                      clear hw10 c9 f9 l9 HW9 HCL9
                      have c10 := HW10.out.cDa hn hk
                      have f10 := HW10.out.ra.froz (n * 64 + k)
                      have l10 := HW10.out.ra.lt
                      go_wp2_with fail
                      obtain ⟨w11, hw11⟩ : ∃ w11, w11 = w10.setCell ⟨Da, n * 64 + k, none⟩ (.slice none 0 0) := ⟨_, rfl⟩
                      rw [← hw11]
                      have HW11 := Lib.hid (HW10.out.nilDa hn hk)
                      rw [← hw11] at HW11
                      have HCL11 := Lib.hid (HCL10.out.touch (touch1 w10 Da (n * 64 + k) (.slice none 0 0)) (fun x h => by rw [h]; simp [HW10.out.inL Da (by simp [Five])]))
                      rw [← hw11] at HCL11
                      clear hw11 c10 f10 l10 HW10 HCL10
                      go_meet
                      case rel =>
                        refine ⟨L4, dd, updF has ((n : Int), (k : Int)) false, updF lost ((n : Int), (k : Int)) false, updF dirty ((n : Int), (k : Int)) true, data, updF dv ((n : Int), (k : Int)) (.slice none 0 0), ?_, Lib.hid ⟨fun c hc => ?_, fun c hc => ?_, fun c hc => ?_⟩, HCL11⟩
                        · have h := HW11.out
                          rw [gOf_del _ (data ((n : Int), (k : Int))), gdOf_yes] at h
                          have hd : updF data ((n : Int), (k : Int)) (data ((n : Int), (k : Int))) = data := by
                            funext x
                            unfold updF
                            split
                            · rename_i he; rw [he]
                            · rfl
                          rw [hd] at h
                          exact Lib.hid h
                        · unfold updF at hc
                          by_cases he : c = ((n : Int), (k : Int))
                          · rw [if_pos he] at hc; cases hc
                          · rw [if_neg he] at hc; exact HF.out.1 c hc
                        · unfold updF at hc ⊢
                          by_cases he : c = ((n : Int), (k : Int))
                          · rw [if_pos he] at hc; cases hc
                          · rw [if_neg he] at hc ⊢; exact HF.out.2.1 c hc
                        · unfold updF at hc
                          by_cases he : c = ((n : Int), (k : Int))
                          · rw [he]
                            have := HG.out
                            exact ⟨by simp only; omega, by simp only; omega, by simp only; omega, by simp only; omega⟩
                          · rw [if_neg he] at hc; exact HF.out.2.2 c hc
                  have k3b : (kd == 3) = false := by rw [beq_eq_false_iff_ne]; exact k3
                  as_aux_lemma =>
                  have HCLN := Lib.hid (bx_clean HW6.out.bx)
                  go_wp2_with fail
                  refine HCLN.out.mono ?_
                  rintro e w7 ⟨rfl, d', hx, hd', ht⟩
                  have HW7 := Lib.hid (HW6.out.out hx ht (fun x h => .inl h))
                  have HCL7 := Lib.hid (HCL6.out.touch ht (fun x h => by simp [h]))
                  have HS : Hid ((gridV (vB fun _ => false)).length = 384) := Lib.hid (gridV_len _)
                  clear hx hd' ht e0 e1 e2 e3 lD HCLN
                  go_wp2_with (first
                    | (refine wpList_buildTo rfl 29 _ rfl _ rfl (gridV (vB fun _ => false)).toArray (by rw [← zeroB54]; kernel_rfl) ?_)
                    | (refine wpList_store_rowTo rfl 29 _ _ rfl rfl Di (gridV (vB fun _ => false)).toArray rfl rfl 29 _ HW7.out.rd (by rw [List.size_toArray, HS.out]; kernel_rfl) (by simp [gridV_len]) (by rw [List.all_toArray]; exact List.all_eq_true.2 (gridV_one _)) ?_))
                  have HW8 := Lib.hid HW7.out.allDi
                  have HCL8 := Lib.hid (HCL7.out.touch (touchRow (X := Di) (gridV (vB fun _ => false)).toArray) (fun x h => by rw [h]; simp [HW7.out.inL Di (by simp [Five])]))
                  go_meet
                  case rel => exact ⟨L4, d', has, lost, fun _ => false, data, dv, HW8, Lib.hid ⟨HF.out.1, HF.out.2.1, fun c hc => by cases hc⟩, HCL8⟩
                case rest =>
                  as_aux_lemma =>
                  obtain ⟨L', d', has', lost', dirty', data', dv', HWc, HFc, HCLc⟩ := hcut
                  obtain ⟨wz, rfl⟩ : ∃ wz, wz = wc := ⟨_, rfl⟩
                  have HDY := Lib.hid (bx_dirty HCLc.out (S := gridK) (fun c hc => grid_mem.2 (HF.out.2.2 c (by rw [gdOf_some] at hc; exact hc))) (by rw [grid_len]; omega))
                  clear e0 e1 e2 e3 HW6 HCL6 HD6 HRB6 HF HBAD HIN HKB
                  go_wp2_with fail
                  refine HDY.out.mono ?_
                  rintro e w7 ⟨⟨v7, zs7, rfl, g1, g2, -, g4, -⟩, hb7⟩
                  obtain ⟨sz7, cz7, rfl⟩ := g4.shape
                  have hll : zs7.length = zs.length := nodup_len_eq g1 HZ.out.1 (fun c => (g2 c).trans (HZ.out.2 c).symm)
                  rw [hll]
                  have HW7 := Lib.hid (HWc.out.below hb7)
                  clear g1 g2 g4 hll hb7 HDY HCLc HWc HZ
                  generalize zs.length = zl
                  have hne1 : ((zl : Int) != (zl : Int)) = false := by simp
                  have hne2 : ((zl : Int) == (zl : Int)) = true := by simp
                  go_upto_region 54 with fail
                  go_wp2_with fail
                  go_loopw [21, 22, 23, 24] (fun v1 v2 v3 a wr => ∃ n : Nat, 1 ≤ n ∧ n ≤ 6 ∧ a = .int .i64 (n : Int) ∧ Hid (GL w7 wr v1 v2 v3 (gridT dirty' ((n - 1) * 64)) (gridT lost' ((n - 1) * 64)) (gridN has' ask.1 ((n - 1) * 64)))) (fun _ _ _ a _ => 6 - (intOf a).toNat)
                  case atStart => exact ⟨1, by omega, by omega, rfl, Lib.hid (GL.start w7)⟩
                  case round =>
                    obtain ⟨n, hn1, hn6, rfl, HI⟩ := hrel
                    obtain ⟨wo, rfl⟩ : ∃ wo, wo = wr := ⟨_, rfl⟩
                    by_cases hlt : n ≤ 5
                    case neg =>
                      as_aux_lemma =>
                      have hle : ¬ (n : Int) ≤ 5 := by omega
                      obtain rfl : n = 6 := by omega
                      have HGL : Hid (GL w7 wo _ _ _ (gridT dirty' 320) (gridT lost' 320) (gridN has' ask.1 320)) := HI
                      have HW8 := Lib.hid (HW7.out.below HGL.out.bel)
                      have HE1 := Lib.hid (HGL.out.s1.rd (fun _ => rfl))
                      have HE2 := Lib.hid (HGL.out.s2.rd (fun _ => rfl))
                      have HE3 := Lib.hid (HGL.out.s3.rd (fun _ => rfl))
                      have HLN := Lib.hid (And.intro (gridT_len dirty' 320) (And.intro (gridT_len lost' 320) (gridN_len has' ask.1 320)))
                      have K1 := Lib.hid (bx_dirty HW8.out.bx (S := gridK) (fun c hc => grid_mem.2 (HFc.out.2.2 c (by rw [gdOf_some] at hc; exact hc))) (by rw [grid_len]; omega))
                      clear HW7 HGL HI
                      go_wp2_with fail
                      refine K1.out.mono ?_
                      rintro e w9 ⟨⟨v9, z9, rfl, -, g2, g3, g4, -⟩, hb9⟩
                      rw [show z9 = gridT dirty' 320 from grid_eq g3 (fun c => by rw [g2, gdOf_some]) HFc.out.2.2] at g4
                      have HV9 := Lib.hid (g4.rd (fun _ => rfl))
                      have HW9 := Lib.hid (HW8.out.below hb9)
                      have HE19 := Lib.hid (HE1.out.below hb9)
                      have HE29 := Lib.hid (HE2.out.below hb9)
                      have HE39 := Lib.hid (HE3.out.below hb9)
                      clear g2 g3 g4 hb9 HE1 HE2 HE3 HW8 K1
                      go_wp2_with fail
                      refine (samecells_any HV9.out HE19.out (by have := HLN.out.1; omega)).mono ?_
                      rw [show decide (gridT dirty' 320 = gridT dirty' 320) = true from decide_eq_true rfl]
                      rintro e w10 ⟨rfl, hb10⟩
                      have HW10 := Lib.hid (HW9.out.below hb10)
                      have HE2A := Lib.hid (HE29.out.below hb10)
                      have HE3A := Lib.hid (HE39.out.below hb10)
                      have K2 := Lib.hid (bx_lost HW10.out.bx (S := gridK) (fun c hc => grid_mem.2 (HFc.out.1 c (by rw [gOf_some] at hc; exact hc))) (by rw [grid_len]; omega))
                      clear hb10 HV9 HE19 HE29 HE39 HW9
                      go_wp2_with fail
                      refine K2.out.mono ?_
                      rintro e w11 ⟨⟨vB, zB, rfl, -, g2, g3, g4, -⟩, hb11⟩
                      rw [show zB = gridT lost' 320 from grid_eq g3 (fun c => by rw [g2, gOf_lost HFc.out.2.1]) (fun c hc => HFc.out.1 c (HFc.out.2.1 c hc))] at g4
                      have HVB := Lib.hid (g4.rd (fun _ => rfl))
                      have HW11 := Lib.hid (HW10.out.below hb11)
                      have HE2B := Lib.hid (HE2A.out.below hb11)
                      have HE3B := Lib.hid (HE3A.out.below hb11)
                      clear g2 g3 g4 hb11 HE2A HE3A HW10 K2
                      go_wp2_with fail
                      refine (samecells_any HVB.out HE2B.out (by have := HLN.out.2.1; omega)).mono ?_
                      rw [show decide (gridT lost' 320 = gridT lost' 320) = true from decide_eq_true rfl]
                      rintro e w12 ⟨rfl, hb12⟩
                      have HW12 := Lib.hid (HW11.out.below hb12)
                      have HE3C := Lib.hid (HE3B.out.below hb12)
                      have K3 := Lib.hid (bx_of HW12.out.bx (S := gridK) (fun c hc => grid_mem.2 (HFc.out.1 c (by rw [gOf_some] at hc; exact hc))) (by rw [grid_len]; omega) ask.1)
                      have q0 := HW12.out.rq.cell' (i := 0) rfl
                      have ql := HW12.out.rq.lt
                      clear hb12 HVB HE2B HE3B HW11
                      go_wp2_with fail
                      refine K3.out.mono ?_
                      rintro e w13 ⟨⟨vC, zC, rfl, g2, g3, g4, -⟩, hb13⟩
                      rw [show zC = gridN has' ask.1 320 from gridN_eq g3 (fun i => by rw [g2, gOf_some]) HFc.out.1] at g4
                      have HVC := Lib.hid ((g4.rd (fun _ => rfl)).ints)
                      have HW13 := Lib.hid (HW12.out.below hb13)
                      have HE3D := Lib.hid ((HE3C.out.below hb13).ints)
                      clear g2 g3 g4 hb13 HE3C HW12 K3 q0 ql
                      go_wp2_with fail
                      refine (sameints_any HVC.out HE3D.out (by have := HLN.out.2.2; omega)).mono ?_
                      rw [show decide (gridN has' ask.1 320 = gridN has' ask.1 320) = true from decide_eq_true rfl]
                      rintro e w14 ⟨rfl, hb14⟩
                      have HW14 := Lib.hid (HW13.out.below hb14)
                      have q0 := HW14.out.rq.cell' (i := 0) rfl
                      have q1 := HW14.out.rq.cell' (i := 1) rfl
                      have ql := HW14.out.rq.lt
                      clear hb14 HVC HE3D HW13 HLN
                      go_upto_region 68 with fail
                      go_cut [26] (fun v wx => v = .bool (has' ask) ∧ Hid (Below w14.heap.size w14 wx))
                      case first =>
                        as_aux_lemma =>
                        by_cases hg : inGrid ask
                        case pos =>
                          obtain ⟨p1, p2, p3, p4⟩ := hg
                          obtain ⟨n, hn⟩ : ∃ n : Nat, ask.1 = (n : Int) := ⟨ask.1.toNat, by omega⟩
                          obtain ⟨k, hk⟩ : ∃ k : Nat, ask.2 = (k : Int) := ⟨ask.2.toNat, by omega⟩
                          have hask : ask = ((n : Int), (k : Int)) := Prod.ext hn hk
                          have hn6 : n < 6 := by omega
                          have hk64 : k < 64 := by omega
                          have cH := HW14.out.cH (n := n) (k := k) hn6 hk64
                          have lH := HW14.out.rh.lt
                          obtain ⟨bh, hbh⟩ : ∃ x, has' ask = x := ⟨_, rfl⟩
                          have HBH := Lib.hid hbh
                          rw [← hask, hbh] at cH
                          rw [hn] at q0 p1 p2
                          rw [hk] at q1 p3 p4
                          clear hn hk hask hbh
                          go_quiet (fail)
                          first | go_wp2_with fail | skip
                          go_meet
                          case rel => exact ⟨congrArg Value.bool HBH.out.symm, Lib.hid (drewN_below _ _)⟩
                        have hh : has' ask = false := by
                          cases h : has' ask with
                          | false => rfl
                          | true => exact absurd (HFc.out.1 _ h) hg
                        have hg' : ¬ (1 ≤ ask.1 ∧ ask.1 ≤ 5 ∧ 0 ≤ ask.2 ∧ ask.2 < 64) := hg
                        have HHH := Lib.hid hh
                        clear hh hg
                        by_cases g1 : ask.1 ≥ 1
                        case neg =>
                          clear hg'
                          go_quiet (fail)
                          first | go_wp2_with fail | skip
                          go_meet
                          case rel => exact ⟨congrArg Value.bool HHH.out.symm, Lib.hid (drewN_below _ _)⟩
                        by_cases g2 : ask.1 ≤ 5
                        case neg =>
                          clear hg'
                          go_quiet (fail)
                          first | go_wp2_with fail | skip
                          go_meet
                          case rel => exact ⟨congrArg Value.bool HHH.out.symm, Lib.hid (drewN_below _ _)⟩
                        by_cases g3 : ask.2 ≥ 0
                        case neg =>
                          clear hg'
                          go_quiet (fail)
                          first | go_wp2_with fail | skip
                          go_meet
                          case rel => exact ⟨congrArg Value.bool HHH.out.symm, Lib.hid (drewN_below _ _)⟩
                        have g4 : ¬ ask.2 < 64 := fun h => hg' ⟨g1, g2, g3, h⟩
                        clear hg'
                        go_quiet (fail)
                        first | go_wp2_with fail | skip
                        go_meet
                        case rel => exact ⟨congrArg Value.bool HHH.out.symm, Lib.hid (drewN_below _ _)⟩
                      case rest =>
                        as_aux_lemma =>
                        obtain ⟨rfl, HB15⟩ := hcut
                        obtain ⟨wy, rfl⟩ : ∃ wy, wy = wc := ⟨_, rfl⟩
                        clear q0 q1 ql
                        have HW15 := Lib.hid (HW14.out.below HB15.out)
                        clear HW14 HB15
                        have q0 := HW15.out.rq.cell' (i := 0) rfl
                        have q1 := HW15.out.rq.cell' (i := 1) rfl
                        have ql := HW15.out.rq.lt
                        have HHAS : Hid (∀ w', Below wy.heap.size wy w' → Calls Tryd.prog 19 #[.pointer (some ⟨b, 0, none⟩), .agg #[.int .i64 ask.1, .int .i64 ask.2]] w' fun e w'' => e = .returned (.bool (has' ask)) ∧ Below w'.heap.size w' w'') := Lib.hid (fun w' hb => by
                          have := bx_has (HW15.out.below hb).bx (c := ask) HA.out.1 HA.out.2
                          rw [gOf_some] at this
                          exact this)
                        have HQ : Hid (∀ w', Below wy.heap.size wy w' → w'.cell? ⟨Q, 0, none⟩ = some (.int .i64 ask.1) ∧ w'.cell? ⟨Q, 1, none⟩ = some (.int .i64 ask.2) ∧ Q < w'.heap.size) := Lib.hid (fun w' hb => ⟨(HW15.out.below hb).rq.cell' (i := 0) rfl, (HW15.out.below hb).rq.cell' (i := 1) rfl, (HW15.out.below hb).rq.lt⟩)
                        have HREL : Hid (∀ w9, Below wy.heap.size wy w9 → ∃ (j' : Nat) (L : List Nat) (dd : Nat) (has lost dirty : Cl → Bool) (data : Cl → List Int) (dv : Cl → Value), j' ≤ ds.length ∧ Value.int .i64 ((j : Int) + 1) = .int .i64 (j' : Int) ∧
                            Hid (PW E B w ask L b m dd H Lo Di Da Q (gOf has lost data) (gdOf dirty) has lost dirty has data dv w9) ∧ Hid ((∀ c, has c = true → inGrid c) ∧ (∀ c, lost c = true → has c = true) ∧ (∀ c, dirty c = true → inGrid c))) := Lib.hid (fun w9 hb =>
                          ⟨j + 1, L', d', has', lost', dirty', data', dv', by omega, by simp, Lib.hid (HW15.out.below hb), HFc⟩)
                        obtain ⟨bh, hbh⟩ : ∃ x, has' ask = x := ⟨_, rfl⟩
                        rw [hbh] at HHAS ⊢
                        have HBH := Lib.hid hbh
                        clear hbh
                        cases bh
                        case false =>
                          as_aux_lemma =>
                          have K := Lib.hid (bx_get_none HW15.out.bx (c := ask) HA.out.1 HA.out.2 (by unfold gOf; rw [HBH.out]; rfl))
                          go_wp2_with fail
                          refine K.out.mono ?_
                          rintro e w16 ⟨⟨v16, rfl, hv16⟩, hb16⟩
                          have HV16 := Lib.hid hv16
                          have HB16 := Lib.hid hb16
                          clear q0 q1 ql hv16 K
                          obtain ⟨q0, q1, ql⟩ := HQ.out w16 hb16
                          have HHK := Lib.hid (HHAS.out w16 hb16)
                          clear hb16
                          go_wp2_with fail
                          refine HHK.out.mono ?_
                          rintro e w17 ⟨rfl, hb17⟩
                          have HV17 := Lib.hid (HV16.out.below hb17)
                          have HB17 := Lib.hid (HB16.out.trans (hb17.mono HB16.out.size))
                          clear q0 q1 ql HV16 HB16 HHK
                          obtain ⟨q0, q1, ql⟩ := HQ.out w17 HB17.out
                          clear hb17
                          go_upto_region 72 with fail
                          go_quiet (fail)
                          go_upto_region 75 with fail
                          refine wp_fromW w17 ?hb ?_
                          case hb => exact ⟨rfl, rfl, rfl, Nat.le_refl _, fun _ _ => rfl⟩
                          intro wz hz
                          have HV18 := Lib.hid (HV17.out.below hz)
                          have HB18 := Lib.hid (HB17.out.trans (hz.mono HB17.out.size))
                          clear hz q0 q1 ql HV17
                          go_wp2_with fail
                          refine (full_any (RdB.nil256 wz) (by simp)).mono ?_
                          rintro e w18 ⟨⟨x, rfl, hx0, hr⟩, hb18⟩
                          have HV19 := Lib.hid (HV18.out.below hb18)
                          have HR19 := Lib.hid (RdB.row256 hr (pad_len (by simp)))
                          have HB19 := Lib.hid (HB18.out.trans (hb18.mono HB18.out.size))
                          clear hx0 hr hb18 HV18
                          go_wp2_with fail
                          refine (samebytes_any HV19.out HR19.out (by rw [pad_len (by simp)]; omega)).mono ?_
                          rw [show decide (pad [] = pad []) = true from decide_eq_true rfl]
                          rintro e w20 ⟨rfl, hb20⟩
                          have HB20 := Lib.hid (HB19.out.trans (hb20.mono HB19.out.size))
                          clear hb20
                          go_wp2
                          go_roundw
                          case rel =>
                            obtain ⟨j', L9, dd9, has9, lost9, dirty9, data9, dv9, k1, k2, k3, k4⟩ := HREL.out _ HB20.out
                            exact ⟨j', L9, dd9, has9, lost9, dirty9, data9, dv9, k1, (by rw [← k2]; first | done | go_num), k3, k4⟩
                          case measure => simp [intOf]; omega
                        obtain ⟨bl', hbl⟩ : ∃ x, lost' ask = x := ⟨_, rfl⟩
                        have HBL := Lib.hid hbl
                        clear hbl
                        cases bl'
                        case true =>
                          as_aux_lemma =>
                          have K := Lib.hid (bx_get_lost HW15.out.bx (c := ask) HA.out.1 HA.out.2 (by unfold gOf; rw [HBH.out, HBL.out]; rfl) HW15.out.env)
                          go_wp2_with fail
                          refine K.out.mono ?_
                          rintro e w16 ⟨rfl, hb16⟩
                          have HB16 := Lib.hid hb16
                          clear q0 q1 ql K
                          obtain ⟨q0, q1, ql⟩ := HQ.out w16 hb16
                          have HHK := Lib.hid (HHAS.out w16 hb16)
                          clear hb16
                          go_wp2_with fail
                          refine HHK.out.mono ?_
                          rintro e w17 ⟨rfl, hb17⟩
                          have HB17 := Lib.hid (HB16.out.trans (hb17.mono HB16.out.size))
                          clear q0 q1 ql HB16 HHK hb17
                          obtain ⟨q0, q1, ql⟩ := HQ.out w17 HB17.out
                          have HPW := Lib.hid (HW15.out.below HB17.out)
                          go_upto_region 72 with fail
                          obtain ⟨p1, p2, p3, p4⟩ := HFc.out.1 _ HBH.out
                          obtain ⟨n, hn⟩ : ∃ n : Nat, ask.1 = (n : Int) := ⟨ask.1.toNat, by omega⟩
                          obtain ⟨k, hk⟩ : ∃ k : Nat, ask.2 = (k : Int) := ⟨ask.2.toNat, by omega⟩
                          have hask : ask = ((n : Int), (k : Int)) := Prod.ext hn hk
                          have hn6 : n < 6 := by omega
                          have hk64 : k < 64 := by omega
                          have cL := HPW.out.cLo (n := n) (k := k) hn6 hk64
                          have lL := HPW.out.rl.lt
                          rw [← hask, HBL.out] at cL
                          rw [hn] at q0 p1 p2
                          rw [hk] at q1 p3 p4
                          clear hn hk hask
                          go_quiet (fail)
                          go_upto_region 73 with fail
                          refine wp_fromW w17 ?hb ?_
                          case hb => exact ⟨rfl, rfl, rfl, Nat.le_refl _, fun _ _ => rfl⟩
                          intro wz hz
                          have HB18 := Lib.hid (HB17.out.trans (hz.mono HB17.out.size))
                          have HEN := Lib.hid (HW15.out.below HB18.out).env
                          clear hz q0 q1 ql cL lL HPW p1 p2 p3 p4
                          go_wp2_with fail
                          refine (is_io HEN.out).mono ?_
                          rintro e w20 ⟨rfl, hb20⟩
                          have HB20 := Lib.hid (HB18.out.trans (hb20.mono HB18.out.size))
                          clear hb20
                          go_wp2
                          go_roundw
                          case rel =>
                            obtain ⟨j', L9, dd9, has9, lost9, dirty9, data9, dv9, k1, k2, k3, k4⟩ := HREL.out _ HB20.out
                            exact ⟨j', L9, dd9, has9, lost9, dirty9, data9, dv9, k1, (by rw [← k2]; first | done | go_num), k3, k4⟩
                          case measure => simp [intOf]; omega
                        case false =>
                          as_aux_lemma =>
                          obtain ⟨hl256, hx, hdv, hrow, -⟩ := HW15.out.vals ask HBH.out
                          have HVAL := Lib.hid (And.intro hl256 (And.intro hdv hrow))
                          have K := Lib.hid (bx_get_some HW15.out.bx (c := ask) HA.out.1 HA.out.2 (l := data' ask) (by unfold gOf; rw [HBH.out, HBL.out]; rfl) hl256)
                          clear hl256 hdv hrow
                          go_wp2_with fail
                          refine K.out.mono ?_
                          rintro e w16 ⟨⟨v16, rfl, hv16⟩, hb16⟩
                          have HV16 := Lib.hid hv16
                          have HB16 := Lib.hid hb16
                          clear q0 q1 ql hv16 K
                          obtain ⟨q0, q1, ql⟩ := HQ.out w16 hb16
                          have HHK := Lib.hid (HHAS.out w16 hb16)
                          clear hb16
                          go_wp2_with fail
                          refine HHK.out.mono ?_
                          rintro e w17 ⟨rfl, hb17⟩
                          have HV17 := Lib.hid (HV16.out.below hb17)
                          have HB17 := Lib.hid (HB16.out.trans (hb17.mono HB16.out.size))
                          clear q0 q1 ql HV16 HB16 HHK hb17
                          obtain ⟨q0, q1, ql⟩ := HQ.out w17 HB17.out
                          have HPW := Lib.hid (HW15.out.below HB17.out)
                          go_upto_region 72 with fail
                          obtain ⟨p1, p2, p3, p4⟩ := HFc.out.1 _ HBH.out
                          obtain ⟨n, hn⟩ : ∃ n : Nat, ask.1 = (n : Int) := ⟨ask.1.toNat, by omega⟩
                          obtain ⟨k, hk⟩ : ∃ k : Nat, ask.2 = (k : Int) := ⟨ask.2.toNat, by omega⟩
                          have hask : ask = ((n : Int), (k : Int)) := Prod.ext hn hk
                          have hn6 : n < 6 := by omega
                          have hk64 : k < 64 := by omega
                          have HNK := Lib.hid (And.intro hn (And.intro hk (And.intro hask (And.intro hn6 hk64))))
                          have cL := HPW.out.cLo (n := n) (k := k) hn6 hk64
                          have lL := HPW.out.rl.lt
                          rw [← hask, HBL.out] at cL
                          rw [hn] at q0 p1 p2
                          rw [hk] at q1 p3 p4
                          clear hn hk hask
                          go_quiet (fail)
                          go_upto_region 75 with fail
                          refine wp_fromW w17 ?hb ?_
                          case hb => exact ⟨rfl, rfl, rfl, Nat.le_refl _, fun _ _ => rfl⟩
                          intro wz hz
                          have HV18 := Lib.hid (HV17.out.below hz)
                          have HB18 := Lib.hid (HB17.out.trans (hz.mono HB17.out.size))
                          clear hz q0 q1 ql HV17 cL lL HPW
                          go_wp2_with fail
                          refine (full_any (RdB.nil256 wz) (by simp)).mono ?_
                          rintro e w18 ⟨⟨x, rfl, hx0, hr⟩, hb18⟩
                          have HV19 := Lib.hid (HV18.out.below hb18)
                          have HB19 := Lib.hid (HB18.out.trans (hb18.mono HB18.out.size))
                          have HR19 := Lib.hid (RdB.row256 (HVAL.out.2.2.below HB19.out) HVAL.out.1)
                          clear hx0 hr hb18 HV18
                          go_upto_region 77 with fail
                          obtain ⟨q0, q1, ql⟩ := HQ.out w18 HB19.out
                          rw [HNK.out.1] at q0
                          rw [HNK.out.2.1] at q1
                          have cA := (HW15.out.below HB19.out).cDa (n := n) (k := k) hn6 hk64
                          have lA := (HW15.out.below HB19.out).ra.lt
                          rw [← HNK.out.2.2.1, HVAL.out.2.1] at cA
                          go_quiet (fail)
                          go_upto_region 78 with fail
                          refine wp_fromW w18 ?hb ?_
                          case hb => exact ⟨rfl, rfl, rfl, Nat.le_refl _, fun _ _ => rfl⟩
                          intro wu hz
                          have HV20 := Lib.hid (HV19.out.below hz)
                          have HR20 := Lib.hid (HR19.out.below hz)
                          have HB20 := Lib.hid (HB19.out.trans (hz.mono HB19.out.size))
                          have HLD := Lib.hid HVAL.out.1
                          clear hz q0 q1 ql cA lA HV19 HR19 p1 p2 p3 p4
                          go_wp2_with fail
                          refine (samebytes_any HV20.out HR20.out (by rw [HLD.out]; omega)).mono ?_
                          rw [show decide (data' ask = data' ask) = true from decide_eq_true rfl]
                          rintro e w21 ⟨rfl, hb21⟩
                          have HB21 := Lib.hid (HB20.out.trans (hb21.mono HB20.out.size))
                          clear hb21
                          go_wp2
                          go_roundw
                          case rel =>
                            obtain ⟨j', L9, dd9, has9, lost9, dirty9, data9, dv9, k1, k2, k3, k4⟩ := HREL.out _ HB21.out
                            exact ⟨j', L9, dd9, has9, lost9, dirty9, data9, dv9, k1, (by rw [← k2]; first | done | go_num), k3, k4⟩
                          case measure => simp [intOf]; omega
                    have hle : (n : Int) ≤ 5 := by omega
                    go_wp2_with fail
                    go_loopw [21, 22, 23, 25] (fun v1 v2 v3 a wr => ∃ (x1 x2 x3 : Value) (q : Nat), x1 = v1 ∧ x2 = v2 ∧ x3 = v3 ∧ q ≤ 64 ∧ a = .int .i64 (q : Int) ∧ Hid (GL w7 wr v1 v2 v3 (gridT dirty' ((n - 1) * 64 + q)) (gridT lost' ((n - 1) * 64 + q)) (gridN has' ask.1 ((n - 1) * 64 + q)))) (fun _ _ _ a _ => 64 - (intOf a).toNat)
                    case atStart => exact ⟨_, _, _, 0, rfl, rfl, rfl, by omega, rfl, HI⟩
                    case round =>
                      obtain ⟨x1, x2, x3, q, rfl, rfl, rfl, hq, rfl, HJ⟩ := hrel
                      clear HI
                      by_cases hq64 : q < 64
                      case neg =>
                        have hqi : ¬ (q : Int) < 64 := by omega
                        obtain rfl : q = 64 := by omega
                        go_wp2
                        go_roundw
                        case rel => exact ⟨n + 1, by omega, by omega, by go_num, by rw [show n + 1 - 1 = (n - 1) + 1 by omega, Nat.add_mul]; exact HJ⟩
                        case measure => simp [intOf]; omega
                      have hqi : (q : Int) < 64 := by omega
                      have hq0 : (0 : Int) ≤ (q : Int) := by omega
                      have hn0 : (0 : Int) ≤ (n : Int) := by omega
                      have hn6i : (n : Int) < 6 := by omega
                      obtain ⟨I, hI⟩ : ∃ I, (n - 1) * 64 + q = I := ⟨_, rfl⟩
                      have hcI : cellAt I = ((n : Int), (q : Int)) := by rw [← hI, cellAt_eq hq64, show n - 1 + 1 = n by omega]
                      have hI3 : I < 320 := by omega
                      rw [hI] at HJ
                      have HCI := Lib.hid (And.intro hI (And.intro hcI hI3))
                      clear hcI
                      have HPW := Lib.hid (HW7.out.below HJ.out.bel)
                      have cD := HPW.out.cDi (n := n) (k := q) (by omega) hq64
                      have fD := HPW.out.rd.lt
                      obtain ⟨bd, hbd⟩ : ∃ x, dirty' ((n : Int), (q : Int)) = x := ⟨_, rfl⟩
                      rw [hbd] at cD
                      have HBD := Lib.hid hbd
                      clear hbd
                      go_upto_if 213 with fail
                      go_cut [21] (fun v1' wx => Hid (GL w7 wx v1' x2 x3 (gridT dirty' (I + 1)) (gridT lost' I) (gridN has' ask.1 I)))
                      case first =>
                        as_aux_lemma =>
                        cases bd
                        case false =>
                          go_wp2_with fail
                          go_meet
                          case rel => exact Lib.hid (by rw [gridT_no HCI.out.2.2 (by rw [HCI.out.2.1]; exact HBD.out)]; exact HJ.out)
                        case true =>
                          have hbA := bl_alloc (Below.refl wr.heap.size wr) (.cells #[.int .i64 (n : Int), .int .i64 (q : Int)] 24)
                          have HGA := Lib.hid (HJ.out.below hbA)
                          have HRW := Lib.hid (RdE.cell2 (Row.new wr 24 [.int .i64 (n : Int), .int .i64 (q : Int)]))
                          have HLN := Lib.hid (gridT_len dirty' I)
                          clear hbA
                          go_wp2_with (at_builtin; refine wpList_appAt cellT rfl _ _ rfl rfl HGA.out.s1 rfl HRW.out (by have := HLN.out; unfold maxLen; simp only [List.length_singleton]; omega) (by have := HLN.out; simp only [List.length_singleton]; omega) HGA.out.bel.size ?_; intro vA wA hsA htA hpA; have HSA := Lib.hid (And.intro hsA (And.intro htA hpA)); clear hsA htA hpA)
                          go_meet
                          case rel => exact Lib.hid (by rw [gridT_yes HCI.out.2.2 (by rw [HCI.out.2.1]; exact HBD.out), HCI.out.2.1]; exact HGA.out.put1 HSA.out.1 HSA.out.2.1 HSA.out.2.2)
                      case rest =>
                      as_aux_lemma =>
                      have HJ1 := hcut
                      clear hcut HJ cD fD HPW HBD
                      obtain ⟨wy, rfl⟩ : ∃ wy, wy = wc := ⟨_, rfl⟩
                      have HPW := Lib.hid (HW7.out.below HJ1.out.bel)
                      have cL := HPW.out.cLo (n := n) (k := q) (by omega) hq64
                      have lL := HPW.out.rl.lt
                      obtain ⟨bd, hbd⟩ : ∃ x, lost' ((n : Int), (q : Int)) = x := ⟨_, rfl⟩
                      rw [hbd] at cL
                      have HBD := Lib.hid hbd
                      clear hbd
                      go_upto_if 224 with fail
                      go_cut [21, 22] (fun v1' v2' wx => Hid (GL w7 wx v1' v2' x3 (gridT dirty' (I + 1)) (gridT lost' (I + 1)) (gridN has' ask.1 I)))
                      case first =>
                        as_aux_lemma =>
                        cases bd
                        case false =>
                          go_wp2_with fail
                          go_meet
                          case rel => exact Lib.hid (by rw [gridT_no (p := lost') HCI.out.2.2 (by rw [HCI.out.2.1]; exact HBD.out)]; exact HJ1.out)
                        case true =>
                          have hbA := bl_alloc (Below.refl wy.heap.size wy) (.cells #[.int .i64 (n : Int), .int .i64 (q : Int)] 24)
                          have HGA := Lib.hid (HJ1.out.below hbA)
                          have HRW := Lib.hid (RdE.cell2 (Row.new wy 24 [.int .i64 (n : Int), .int .i64 (q : Int)]))
                          have HLN := Lib.hid (gridT_len lost' I)
                          clear hbA
                          go_wp2_with (at_builtin; refine wpList_appAt cellT rfl _ _ rfl rfl HGA.out.s2 rfl HRW.out (by have := HLN.out; unfold maxLen; simp only [List.length_singleton]; omega) (by have := HLN.out; simp only [List.length_singleton]; omega) HGA.out.bel.size ?_; intro vA wA hsA htA hpA; have HSA := Lib.hid (And.intro hsA (And.intro htA hpA)); clear hsA htA hpA)
                          go_meet
                          case rel => exact Lib.hid (by rw [gridT_yes (p := lost') HCI.out.2.2 (by rw [HCI.out.2.1]; exact HBD.out), HCI.out.2.1]; exact HGA.out.put2 HSA.out.1 HSA.out.2.1 HSA.out.2.2)
                      case rest =>
                      as_aux_lemma =>
                      have HJ2 := hcut
                      clear hcut HJ1 cL lL HPW HBD
                      obtain ⟨wu, rfl⟩ : ∃ wu, wu = wc := ⟨_, rfl⟩
                      have HPW := Lib.hid (HW7.out.below HJ2.out.bel)
                      have cH := HPW.out.cH (n := n) (k := q) (by omega) hq64
                      have lH := HPW.out.rh.lt
                      have q0 := HPW.out.rq.cell' (i := 0) rfl
                      have ql := HPW.out.rq.lt
                      obtain ⟨bd, hbd⟩ : ∃ x, has' ((n : Int), (q : Int)) = x := ⟨_, rfl⟩
                      rw [hbd] at cH
                      have HBD := Lib.hid hbd
                      clear hbd
                      cases bd
                      case false =>
                        as_aux_lemma =>
                        have HNO : Hid (¬ (has' ((n : Int), (q : Int)) = true ∧ ((n : Int), (q : Int)).1 = ask.1)) := Lib.hid (by rw [HBD.out]; simp)
                        go_wp2
                        go_roundw
                        case rel => exact ⟨_, _, _, q + 1, rfl, rfl, rfl, by omega, by go_num, by rw [show (n - 1) * 64 + (q + 1) = I + 1 by have := HCI.out.1; omega]; exact Lib.hid (by rw [gridN_no HCI.out.2.2 (by rw [HCI.out.2.1]; exact HNO.out)]; exact HJ2.out)⟩
                        case measure => simp [intOf]; omega
                      by_cases hna : (n : Int) = ask.1
                      case neg =>
                        as_aux_lemma =>
                        have HNO : Hid (¬ (has' ((n : Int), (q : Int)) = true ∧ ((n : Int), (q : Int)).1 = ask.1)) := Lib.hid (fun h => hna h.2)
                        have hnb : ((n : Int) == ask.1) = false := by rw [beq_eq_false_iff_ne]; exact hna
                        clear hna
                        go_wp2
                        go_roundw
                        case rel => exact ⟨_, _, _, q + 1, rfl, rfl, rfl, by omega, by go_num, by rw [show (n - 1) * 64 + (q + 1) = I + 1 by have := HCI.out.1; omega]; exact Lib.hid (by rw [gridN_no HCI.out.2.2 (by rw [HCI.out.2.1]; exact HNO.out)]; exact HJ2.out)⟩
                        case measure => simp [intOf]; omega
                      as_aux_lemma =>
                      have hnb : ((n : Int) == ask.1) = true := by rw [beq_iff_eq]; exact hna
                      have HNA := Lib.hid hna
                      have hbA := bl_alloc (Below.refl wu.heap.size wu) (.cells #[.int .i64 (q : Int)] 3)
                      have HGA := Lib.hid (HJ2.out.below hbA)
                      have HRW := Lib.hid (show RdE (wu.alloc (.cells #[.int .i64 (q : Int)] 3)) 1 encI1 (.slice (some ⟨wu.heap.size, 0, none⟩) 1 1) [(q : Int)] from RdE.int1 (Row.new wu 3 [.int .i64 (q : Int)]))
                      have HLN := Lib.hid (gridN_len has' ask.1 I)
                      clear hbA hna
                      go_wp2_with (at_builtin; refine wpList_appAt intT rfl _ _ rfl rfl HGA.out.s3 rfl HRW.out (by have := HLN.out; unfold maxLen; simp only [List.length_singleton]; omega) (by have := HLN.out; simp only [List.length_singleton]; omega) HGA.out.bel.size ?_; intro vA wA hsA htA hpA; have HSA := Lib.hid (And.intro hsA (And.intro htA hpA)); clear hsA htA hpA)
                      go_roundw
                      case rel => exact ⟨_, _, _, q + 1, rfl, rfl, rfl, by omega, by go_num, by rw [show (n - 1) * 64 + (q + 1) = I + 1 by have := HCI.out.1; omega]; exact Lib.hid (by rw [gridN_yes HCI.out.2.2 (by rw [HCI.out.2.1]; exact HBD.out) (by rw [HCI.out.2.1]; exact HNA.out), HCI.out.2.1]; exact HGA.out.put3 HSA.out.1 HSA.out.2.1 HSA.out.2.2)⟩
                      case measure => simp [intOf]; omega
        · as_aux_lemma =>
            obtain rfl : j = ds.length := by omega
            have hjn : ¬ (ds.length : Int) < (ds.length : Int) := by omega
            clear HC HOK
            go_wp2
            rw [← HP.out]
            exact ⟨by first | done | rfl, HW.out.bel⟩
end Go.Proofs.YtnkcbogikaebfaaDoor
end

section
/- What the card of BodyPlays asks beside the walk. -/
namespace Go.Proofs.YtnkcbogikaebfaaDoor.bodyPlays
open Go.ChangeShapes Go.WideShapes Go.ChangeAt Go.RowKit
set_option maxRecDepth 100000

theorem own : ownKnob Tryd.prog.godebug = none := by kernel_rfl
theorem door_met (os : Os) (args : Array Value) : laidMetH Tryd.prog Rows.bodyPlaysRow.laid ((World.doorLaid Tryd.prog 480 os).forCall (fun _ _ => 0) ⟨#[], args, []⟩).memory :=
  laidMetH_of_parts3 (fuel := 8) (laidMet_of_run' 8 (by kernel_rfl) (by kernel_rfl)) (by kernel_rfl) (by kernel_rfl)
theorem joined : joinedFacts Tryd.prog 3 Tryd.f3 Rows.bodyPlaysSpec Rows.bodyPlaysRow = true := by
  unfold joinedFacts
  rw [seat_laidOut, seat_mapsRowed, seat_stopsHeard, seat_mayEnter, seat_plainKeys, seat_lifted, seat_make]
  kernel_rfl
theorem inst : Tryd.f3.isInstance Tryd.prog Rows.bodyPlaysRow.origin Rows.bodyPlaysRow.targs := of_decide_eq_true (by kernel_rfl)
theorem wrap : Tryd.f3.isWrapper Tryd.prog Rows.bodyPlaysRow.wrapper Rows.bodyPlaysRow.mainSum := by
  unfold Func.isWrapper
  first | (rw [if_pos (by decide +kernel)]; kernel_rfl) | (rw [if_neg (by decide +kernel)]; exact ⟨rfl, rfl⟩)
end Go.Proofs.YtnkcbogikaebfaaDoor.bodyPlays
end

section
namespace Go.Proofs.YtnkcbogikaebfaaDoor.bodyPlays
open Go.ChangeShapes Go.WideShapes Go.ChangeAt Go.RowKit
set_option maxRecDepth 100000

theorem lifted (os : Os) (started : os.Started) (H : Type) (enc : TypeId × Value → H) :
    ReturnsInHanded {} Tryd.checked os 3 .any (fun w args => (Rows.bodyPlaysSpec.pre enc Tryd.prog Tryd.f3 [] false w args ∧ laidMetH Tryd.prog Rows.bodyPlaysRow.laid w) ∧ sizedMet enc Tryd.prog Tryd.f3 (OpenSpec.ofChange Rows.bodyPlaysSpec) false w args)
      (Rows.bodyPlaysSpec.post enc Tryd.prog Tryd.f3 false true false false) := by
  refine returnsInHanded_of_change_and (C := Tryd.checked) (X := fun w _ => laidMetH Tryd.prog Rows.bodyPlaysRow.laid w) (fun _ _ _ hh h => h.of_heap hh) own started (by kernel_rfl) Tryd.func3
    (ChangeSpec.witness_shaped (enc := enc) (C := Tryd.checked) (os := os) (X := fun w _ => laidMetH Tryd.prog Rows.bodyPlaysRow.laid w) false (World.doorLaid Tryd.prog 480 os) #[.slice none 0 0, .agg #[.int .i64 0, .int .i64 0]] 8 rfl (World.shaped_of_RefB (by kernel_rfl) (by kernel_rfl)) (by kernel_rfl) (by kernel_rfl) (by kernel_rfl) (door_met os _)) ?_
  intro W base args ds gs before hval0 hW _ _ hL _
  have hval : ∀ (j : Nat) t v, Tryd.f3.params[j]? = some t → args[j]? = some v → Value.okWide Tryd.prog W .any base t v := hval0
  have hW' := hW
  obtain ⟨p, q, hA0, hV, rfl, hfz, hnd⟩ := hW
  have hA : DataW.TrodAll enc Tryd.prog W 0 (fun _ => true) true Tryd.f3.params.toList args.toList ds p := hA0
  rw [Tryd.params3] at hA hval
  obtain ⟨v0, vs0, d0, ds0, p0, q0, hargs, rfl, rfl, h0, r0⟩ := trodAll_cons hA
  obtain ⟨v1, vs1, d1, ds1, p1, q1, rfl, rfl, rfl, h1, r1⟩ := trodAll_cons r0
  obtain ⟨rfl, rfl, rfl⟩ := trodAll_nil r1
  obtain rfl : args = #[v0, v1] := by cases args; simp_all
  obtain ⟨rfl, rfl⟩ := trodVars_none hV
  have hW0 := hW'
  simp only [List.append_nil] at hW0
  have hlt := fun x hx => by simpa using hW0.lt x hx
  have hl0 : ∀ x ∈ p0, x.block < W.heap.size := fun x hx => hlt x (by simp [hx])
  have k0 : ∀ (W' : World), Below W.heap.size W W' → DataW.Trod enc Tryd.prog W' 0 (fun b => decide (b < W.heap.size)) true 22 v0 d0 p0 := fun W' hn => Below.trod seat_laidOut (by kernel_rfl) (of_decide_eq_true (by kernel_rfl)) h0 hn hl0
  obtain ⟨a0, rd0, ok0, ln0, sp0, n0, cap0, rfl⟩ := open_dos16_arg (hval 0 22 v0 rfl rfl) h0 hl0
  have hl1 : ∀ x ∈ p1, x.block < W.heap.size := fun x hx => hlt x (by simp [hx])
  have k1 : ∀ (W' : World), Below W.heap.size W W' → DataW.Trod enc Tryd.prog W' 0 (fun b => decide (b < W.heap.size)) true 24 v1 d1 p1 := fun W' hn => Below.trod seat_laidOut (by kernel_rfl) (of_decide_eq_true (by kernel_rfl)) h1 hn hl1
  obtain ⟨a1, rfl, ca1, cb1⟩ := open_cell_arg h1 hl1
  obtain ⟨E, hE⟩ := env_of_laid hL (by kernel_rfl) (by kernel_rfl) (by kernel_rfl)

  clear hA0 hval0
  simp only [List.append_nil] at hW'
  refine (bodyplays_any rd0 ok0 ca1 cb1 hE).mono fun e W' ⟨he, bel⟩ => ?_
  subst he
  refine ⟨_, rfl, _, _, _, [], p0 ++ (p1 ++ ([])), [], hW', trodAll_mk1 (shut_bool Tryd.underlying4 _), ?_, rfl, bel.frame _, fun h => by cases h⟩
  exact trodAll_cons_mk (k0 _ bel) (trodAll_cons_mk (k1 _ bel) (trodAll_mk0))
theorem over : Rows.bodyPlaysRow.holds Tryd.pinned (OpenSpec.ofChange Rows.bodyPlaysSpec) :=
  OpenClaim.holds_of_wide 3 Tryd.f3 rfl rfl rfl rfl rfl rfl rfl ⟨rfl, rfl, rfl, rfl, rfl⟩ rfl rfl rfl rfl rfl (by kernel_rfl) Tryd.func3 joined inst wrap
    (fun os started H enc _ => lifted os started H enc)
theorem proved : Rows.BodyPlaysCardSaid :=
  Claim7.holds_tied_plain_at .later [] Rows.bodyPlaysCard.laidKinds true Rows.bodyPlaysCard.stood.harness true
    over (fun _ h => by cases h) (by kernel_rfl) (fun _ h => by cases h) bodyPlays_row_tie rfl ⟨rfl, rfl⟩ (by kernel_rfl) rfl
    (fun f fn hf hfn => by
      obtain rfl : f = 3 := Option.some.inj ((show Tryd.prog.funcNamed "breviary/breviarylaw16.BodyPlays" = some 3 by kernel_rfl).symm.trans hf) |>.symm
      obtain rfl : fn = Tryd.f3 := (Option.some.inj (Tryd.func3.symm.trans hfn)).symm
      exact ⟨by kernel_rfl, fun j t ht => by
        rw [Tryd.params3] at ht
        have hm : t ∈ [22, 24] := by
          have := Array.mem_of_getElem? ht
          simpa using this
        have hall : [22, 24].all (fun t => !(Tryd.prog.wantsStandIn t)) = true := by kernel_rfl
        have h := (List.all_eq_true.1 hall) t hm
        simp only [Bool.not_eq_true'] at h
        exact h⟩)
    (by kernel_rfl)
#print axioms proved
end Go.Proofs.YtnkcbogikaebfaaDoor.bodyPlays
end
