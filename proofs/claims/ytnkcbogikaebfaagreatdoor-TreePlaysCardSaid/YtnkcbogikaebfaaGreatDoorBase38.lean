/- Merged texts: DocTo DocFin DocLast DocUnl DocTidy. -/
import Derived.Test.YtnkcbogikaebfaaGreatDoorBase33
import Derived.Test.YtnkcbogikaebfaaGreatDoorBase27
import Derived.Test.YtnkcbogikaebfaaGreatDoorBase29
import Derived.Deep.DeepCutAuto
import Derived.Deep.CutBlock
import Derived.Test.YtnkcbogikaebfaaGreatDoorBase30
import Derived.Test.YtnkcbogikaebfaaGreatDoorBase37
import Derived.Test.YtnkcbogikaebfaaGreatDoorBase31
section
/- The document's To: it answers as the plain tree's toP. -/
namespace Go.Proofs.YtnkcbogikaebfaaGreatDoor
open Go Go.RowKit
set_option maxRecDepth 100000
set_option linter.unusedSimpArgs false
set_option linter.unusedVariables false
attribute [local go_sem] giv
variable {E : Nat → Addr} {B : Nat}
section
variable {T : Nat → Prop} {w : World} {m : Nat} {st : St} {v : Value} {ms : List MN}
theorem DW.few (h : DW B T w m st v ms) (f : Full st) : ms.length ≤ 512 ∧ ∀ x ∈ ms, x.nr.ents.length ≤ 8192 := by
  refine ⟨by rw [← h.len]; exact f.len, fun x hx => ?_⟩
  have h1 : x.nr ∈ st.ns := by rw [← h.eq]; exact List.mem_map_of_mem hx
  refine Nat.le_trans ?_ (cnt_le f)
  exact le_sum_mem (List.mem_map_of_mem (f := fun r : NR => r.ents.length) h1)
theorem up_parent {st : St} (f : Full st) {k : Int} {x : NR} (h : st.get k = some x) : upOf x.nd = x.nd.parent := by
  unfold upOf
  by_cases h1 : x.nd.id = 1
  · rw [if_pos h1]
    obtain ⟨r, h2, _, h3⟩ := f.root
    have := findN_id h
    rw [h1] at this
    subst this
    rw [h] at h2
    injection h2 with h2
    rw [h2, h3]
  · rw [if_neg h1]
theorem nd_of {st : St} {k : Int} {x : NR} (h : st.get k = some x) : st.nd k = some x.nd := by unfold St.nd; rw [h]; rfl
theorem ents_of {st : St} {k : Int} {x : NR} (h : st.get k = some x) : st.ents k = x.ents := by unfold St.ents; rw [h]; rfl
def DToR (R : Int × Int) (w : World) (e : Ending) (w' : World) : Prop := (∃ hops : Int, e = .returned (.tuple #[.int .i64 R.2, .int .i64 R.1, .int .i64 hops])) ∧ Below w.heap.size w w'
structure DGo (st : St) (follow slash : Bool) (R : Int × Int) (at' : Int) (hh : Nat) (pv : Value) (parts : List ByteArray) (wa wr : World) : Prop where
  res : goH st follow slash (4 - hh) parts at' = R
  rd : RdS wr pv parts
  bel : Below wa.heap.size wa wr
set_option maxHeartbeats 4000000 in
theorem dto_any (h : DW B T w m st v ms) (f : Full st) {sp : Option Addr} {np cap : Nat} {ps : List ByteArray} (rp : RdS w (.slice sp np cap) ps) (hlen : ps.length ≤ 1000) (follow slash : Bool) :
    Calls Tryz.prog 73 #[.pointer (some ⟨m, 0, none⟩), .agg #[.slice sp np cap, .bool slash], .bool follow] w (DToR (toP st ⟨ps, slash⟩ follow) w) := by
  obtain ⟨wa, hwa⟩ : ∃ wa, wa = w.alloc (.cells #[.slice sp np cap, .bool slash] 116) := ⟨_, rfl⟩
  have hba : Below w.heap.size w wa := by rw [hwa]; exact bl_alloc (Below.refl _ _) _
  have rP : Row wa w.heap.size 116 [.slice sp np cap, .bool slash] := by rw [hwa]; exact Row.new _ _ _
  have HN := Lib.hid (h.few f)
  have HF := Lib.hid f
  have HD := Lib.hid (h.below hba)
  have HRP := Lib.hid (rp.below hba)
  have HLEN := Lib.hid hlen
  have HBA := Lib.hid hba
  obtain ⟨R, hR⟩ : ∃ R, toP st ⟨ps, slash⟩ follow = R := ⟨_, rfl⟩
  rw [hR]
  have HR0 : Hid (goH st follow slash 4 ps 1 = R) := Lib.hid hR
  generalize hP : DToR R w = Post
  have HP := Lib.hid hP
  have hq0 := rP.cell 0
  simp only [List.getElem?_cons_zero] at hq0
  clear hP h f rp hlen hR hba
  go_enter Tryz.func73, Tryz.ntmps73
  go_wp2_with fail
  rw [← hwa]
  clear hwa
  obtain ⟨pb, hpb⟩ : ∃ pb, w.heap.size = pb := ⟨_, rfl⟩
  rw [hpb] at rP hq0 ⊢
  have HRP2 := Lib.hid rP
  have HPB := Lib.hid hpb
  have hpl := rP.lt
  clear rP hpb
  go_wp2_with fail
  refine (texts_any HRP.out HLEN.out).mono ?_
  rintro e w1 ⟨⟨pv, rfl, hs⟩, hb⟩
  obtain ⟨sp1, cap1, rfl⟩ := slShape hs
  have HI0 : Hid (DGo st follow slash R 1 0 (.slice sp1 ps.length cap1) ps wa w1) := Lib.hid ⟨HR0.out, hs.rd (fun _ => rfl), hb⟩
  clear hs hb hq0 hpl
  go_wp2_with fail
  go_loopw [9, 10, 11] (fun u9 u10 u11 wr => ∃ (at' : Int) (hh n : Nat) (sp : Option Addr) (cap : Nat), u9 = .int .i64 at' ∧ u11 = .int .i64 hh ∧ hh ≤ 4 ∧ u10 = .slice sp n cap ∧ n ≤ 1000 + hh * 300 ∧
      Hid (∃ parts, n = parts.length ∧ DGo st follow slash R at' hh (.slice sp n cap) parts wa wr))
    (fun _ u10 u11 _ => (4 - (intOf u11).toNat) * 400 + (match u10 with | .slice _ n _ => n | _ => 0))
  case atStart => exact ⟨1, 0, _, _, _, rfl, rfl, by omega, rfl, by have := HLEN.out; omega, Lib.hid ⟨ps, rfl, HI0.out⟩⟩
  case round =>
    obtain ⟨at', hh, n, sp2, cap2, rfl, rfl, hh4, rfl, hn, HI⟩ := hrel
    clear HI0
    obtain ⟨parts, hnp, hI⟩ := HI.out
    have HRD := Lib.hid hI.rd
    have HRES := Lib.hid hI.res
    have HBR := Lib.hid hI.bel
    have HDr := Lib.hid (HD.out.below hI.bel)
    have rPr := HRP2.out.below hI.bel
    have hp1 : wr.cell? ⟨pb, 1, none⟩ = some (.bool slash) := (rPr.cell 1).trans rfl
    have hpl := rPr.lt
    have HNP := Lib.hid hnp
    clear hI HI hnp rPr
    by_cases hn0 : n = 0
    · subst hn0
      obtain rfl : parts = [] := List.eq_nil_of_length_eq_zero HNP.out.symm
      have HR : Hid ((if slash && !st.isDir at' then ((111 : Int), (0 : Int)) else (0, at')) = R) := Lib.hid (by rw [← HRES.out, go_nil])
      clear HRES hn
      have HFIN : Hid (∀ w3, Below wr.heap.size wr w3 → Below w.heap.size w w3) := Lib.hid (fun w3 hb3 => bl_trans HBA.out (bl_trans HBR.out hb3))
      have HK : Hid (((st.get at').elim 0 fun r => r.nd.kind) = 2 ↔ st.isDir at' = true) := Lib.hid (by
        unfold St.isDir
        cases st.get at' <;> simp)
      cases slash with
      | false =>
        go_wp2
        go_ret3
        rw [← HP.out]
        exact ⟨⟨hh, by rw [← HR.out]; rfl⟩, HFIN.out _ (Below.refl _ _)⟩
      | true =>
        obtain ⟨kk, hkk⟩ : ∃ kk, ((st.get at').elim 0 fun r => r.nd.kind) = kk := ⟨_, rfl⟩
        have HKK := Lib.hid hkk
        clear hkk
        go_wp2_with fail
        refine (dkind_any HDr.out (Nat.le_trans HN.out.1 (by decide)) at').mono ?_
        rw [HKK.out]
        rintro e w2 ⟨rfl, rfl⟩
        by_cases hk2 : kk = 2
        · subst hk2
          have HRR : Hid (R = (0, at')) := Lib.hid (by rw [← HR.out, HK.out.1 HKK.out]; rfl)
          go_wp2
          go_ret3
          rw [← HP.out]
          exact ⟨⟨hh, by rw [HRR.out]; rfl⟩, HFIN.out _ (Below.refl _ _)⟩
        · have hkb : (kk != 2) = true := by rw [bne_iff_ne]; exact hk2
          have HRR : Hid (R = (111, 0)) := Lib.hid (by
            rw [← HR.out]
            cases hd : st.isDir at' with
            | false => rfl
            | true => exact absurd (HKK.out.symm.trans (HK.out.2 hd)) hk2)
          clear hk2
          go_wp2
          go_ret3
          rw [← HP.out]
          exact ⟨⟨hh, by rw [HRR.out]; rfl⟩, HFIN.out _ (Below.refl _ _)⟩
    · obtain ⟨q, rfl⟩ : ∃ q, n = q + 1 := ⟨n - 1, by omega⟩
      obtain ⟨p, ps', rfl⟩ : ∃ p ps', parts = p :: ps' := by
        cases parts with
        | nil => have := HNP.out; simp at this
        | cons p l => exact ⟨p, l, rfl⟩
      have hm : q = ps'.length := by have := HNP.out; simpa using this
      have HM := Lib.hid hm
      clear hm hn0
      have hgt : (q : Int) + 1 > 0 := by omega
      obtain ⟨hb_, off, rfl, hh0, cx⟩ := RdS.cell HRD.out (j := 0) (by simp)
      simp only [List.getElem_cons_zero, Nat.add_zero] at cx
      have HFIN : Hid (∀ w3, Below wr.heap.size wr w3 → Below w.heap.size w w3) := Lib.hid (fun w3 hb3 => bl_trans HBA.out (bl_trans HBR.out hb3))
      rcases place_get HDr.out at' with ⟨h1, h2⟩ | ⟨k, x, h1, h2, h3, h4⟩
      · as_aux_lemma =>
        have HR : Hid (R = (111, 0)) := Lib.hid (by rw [← HRES.out]; exact go_nodir (by unfold St.isDir; rw [h2]))
        have H1 := Lib.hid h1
        clear h1 h2 HRES cx
        go_wp2_with fail
        refine (dget_none HDr.out (Nat.le_trans HN.out.1 (by decide)) at' H1.out).mono ?_
        rintro e w2 ⟨rfl, rfl⟩
        go_wp2
        go_ret3
        rw [← HP.out]
        exact ⟨⟨hh, by rw [HR.out]; rfl⟩, HFIN.out _ (Below.refl _ _)⟩
      obtain ⟨g, capM, hv, hg⟩ := HDr.out.block (by rintro rfl; simp at h2)
      have ck := HDr.out.cell hv (j := 1) h3 (by omega)
      have cp := HDr.out.cell hv (j := 5) h3 (by omega)
      rw [(encM_get x).2.1] at ck
      rw [(encM_get x).2.2.2.2.2.1] at cp
      have H1 := Lib.hid h1
      have H2 := Lib.hid hv
      have H4 := Lib.hid h4
      obtain ⟨kd, hkd⟩ : ∃ kd, x.nr.nd.kind = kd := ⟨_, rfl⟩
      obtain ⟨pa, hpa⟩ : ∃ pa, x.nr.nd.parent = pa := ⟨_, rfl⟩
      rw [hkd] at ck
      rw [hpa] at cp
      have HKD := Lib.hid hkd
      have HPA := Lib.hid hpa
      clear h1 h3 h4 hv hkd hpa
      by_cases hk2 : kd = 2
      case neg =>
        as_aux_lemma =>
        have HR : Hid (R = (111, 0)) := Lib.hid (by rw [← HRES.out]; exact go_nodir (by unfold St.isDir; rw [H4.out]; simp only; rw [HKD.out]; simpa using hk2))
        have hkb : (kd != 2) = true := by rw [bne_iff_ne]; exact hk2
        clear hk2 HRES cx
        go_wp2_with fail
        refine (dget_some HDr.out (Nat.le_trans HN.out.1 (by decide)) at' H1.out h2 H2.out).mono ?_
        rintro e w2 ⟨rfl, rfl⟩
        go_wp2
        go_ret3
        rw [← HP.out]
        exact ⟨⟨hh, by rw [HR.out]; rfl⟩, HFIN.out _ (Below.refl _ _)⟩
      subst hk2
      have HND := Lib.hid (nd_of H4.out)
      have HUE := Lib.hid (up_parent HF.out H4.out)
      have HEN := Lib.hid (ents_of H4.out)
      have hcn := HRD.out.len.2
      obtain ⟨up, hup⟩ : ∃ up, isUp p = up := ⟨_, rfl⟩
      have HUP := Lib.hid hup
      clear hup
      cases up with
      | true =>
        as_aux_lemma =>
        have hx : p.toList = [46, 46] := by rw [ByteArray.toList_eq]; simpa [isUp, dots] using HUP.out
        have HR : Hid (goH st follow slash (4 - hh) ps' pa = R) := Lib.hid (by rw [← HRES.out, go_up HND.out HKD.out HUP.out, HUE.out, HPA.out])
        clear HRES
        by_cases hc1 : cap2 = 1
        case' pos =>
          subst hc1
          obtain rfl : q = 0 := by omega
          have HRD3 : Hid (RdS wr (.slice (some ⟨hb_, off, none⟩) 0 0) ps') := Lib.hid (by
            obtain rfl : ps' = [] := List.eq_nil_of_length_eq_zero HM.out.symm
            exact RdE.empty _ _ _ _)
        case' neg =>
          have HRD3 : Hid (RdS wr (.slice (some ⟨hb_, off + 1, none⟩) q (cap2 - 1)) ps') := Lib.hid (by
            have := RdE.droppedF (m := 1) HRD.out (by omega) hc1
            simpa using this)
        all_goals
          go_wp2_with fail
          refine (dget_some HDr.out (Nat.le_trans HN.out.1 (by decide)) at' H1.out h2 H2.out).mono ?_
          rintro e w2 ⟨rfl, rfl⟩
          go_wp2_with fail
          go_roundw
          case rel => exact ⟨_, hh, _, _, _, rfl, rfl, hh4, rfl, by omega, Lib.hid ⟨ps', HM.out, ⟨HR.out, HRD3.out, HBR.out⟩⟩⟩
          case measure => simp [intOf]
      | false =>
        as_aux_lemma =>
        have hx : (p.toList == [46, 46]) = false := by rw [ByteArray.toList_eq]; exact HUP.out
        obtain ⟨oe, hoe⟩ : ∃ oe, entOf x.nr.ents p = oe := ⟨_, rfl⟩
        have HOE : Hid (entM st at' p = oe) := Lib.hid (by unfold entM; rw [H4.out]; exact hoe)
        have HOE2 : Hid (entOf (st.ents at') p = oe) := Lib.hid (by rw [HEN.out]; exact hoe)
        have HOE3 := Lib.hid hoe
        clear hoe
        go_wp2_with fail
        refine (dget_some HDr.out (Nat.le_trans HN.out.1 (by decide)) at' H1.out h2 H2.out).mono ?_
        rintro e w2 ⟨rfl, rfl⟩
        go_upto_region 9 with fail
        go_cut [10] (fun c wx => ∃ (sp3 : Option Addr) (cap3 : Nat), c = .slice sp3 q cap3 ∧ Hid (RdS wr (.slice sp3 q cap3) ps') ∧ wr = wx)
        case first =>
          by_cases hc1 : cap2 = 1
          case' pos =>
            subst hc1
            obtain rfl : q = 0 := by omega
            have HRD3 : Hid (RdS wr (.slice (some ⟨hb_, off, none⟩) 0 0) ps') := Lib.hid (by
              obtain rfl : ps' = [] := List.eq_nil_of_length_eq_zero HM.out.symm
              exact RdE.empty _ _ _ _)
          case' neg =>
            have HRD3 : Hid (RdS wr (.slice (some ⟨hb_, off + 1, none⟩) q (cap2 - 1)) ps') := Lib.hid (by
              have := RdE.droppedF (m := 1) HRD.out (by omega) hc1
              simpa using this)
          all_goals
            go_wp2_with fail
            go_meet
            case rel => exact ⟨_, _, rfl, HRD3, rfl⟩
        case rest =>
        obtain ⟨sp3, cap3, rfl, HRD3, rfl⟩ := hcut
        go_wp2_with fail
        refine (dentry_any HDr.out (Nat.le_trans HN.out.1 (by decide)) (fun x hx => Nat.le_trans (HN.out.2 x hx) (by decide)) at' p).mono ?_
        rw [HOE.out]
        rintro e w3 ⟨rfl, hb3⟩
        have HB3 := Lib.hid hb3
        have HD3 := Lib.hid (HDr.out.below hb3)
        have HRD4 : Hid (RdS w3 (.slice sp3 q cap3) ps') := Lib.hid (HRD3.out.below hb3)
        have hp3 : w3.cell? ⟨pb, 1, none⟩ = some (.bool slash) := (hb3.cell (p := ⟨pb, 1, none⟩) hpl).trans hp1
        have hpl3 : pb < w3.heap.size := Nat.lt_of_lt_of_le hpl hb3.size
        clear hb3 HRD3 HRD hp1 hpl ck cp cx hx
        cases oe with
        | none =>
          have HR : Hid (R = (109, 0)) := Lib.hid (by rw [← HRES.out]; exact go_noent HND.out HKD.out HUP.out HOE2.out)
          have HZ : Hid (placeM ms 0 = -1) := Lib.hid (by
            rcases place_get HD3.out 0 with ⟨h1, _⟩ | ⟨_, _, _, _, _, h4⟩
            · exact h1
            · rw [HF.out.toGood.no (k := 0) (.inr (by omega))] at h4; cases h4)
          have HDA := Lib.hid (HD3.out.below (bl_alloc (Below.refl w3.heap.size w3) (.cells #[.string ⟨#[]⟩, .int .i64 0, .int .i64 0] 48)))
          simp only [Option.getD_none, Option.isSome_none, noEl, encE]
          go_wp2_with fail
          refine (dget_none HDA.out (Nat.le_trans HN.out.1 (by decide)) 0 HZ.out).mono ?_
          rintro e w4 ⟨rfl, rfl⟩
          go_wp2
          go_ret3
          rw [← HP.out]
          exact ⟨⟨hh, by rw [HR.out]; rfl⟩, HFIN.out _ (bl_trans HB3.out (bl_alloc (Below.refl _ _) _))⟩
        | some en =>
          obtain ⟨y0, hy0, hy1, hy2, hy3⟩ := entry_node HF.out.toGood H4.out HOE3.out
          obtain ⟨e1, e2, e3⟩ := en
          simp only at hy0 hy1 hy2 hy3
          simp only [Option.getD_some, Option.isSome_some, encE]
          obtain ⟨k2, y, j1, j2, j3, j4⟩ : ∃ (k2 : Nat) (y : MN), placeM ms e2 = (k2 : Int) ∧ k2 < ms.length ∧ ms[k2]? = some y ∧ st.get e2 = some y.nr := by
            rcases place_get HD3.out e2 with ⟨_, h⟩ | h
            · rw [hy0] at h; cases h
            · exact h
          obtain rfl : y0 = y.nr := by rw [hy0] at j4; injection j4
          obtain ⟨g2, capM2, hv2, hg2⟩ := HD3.out.block (by rintro rfl; simp at j2)
          obtain ⟨wA, hwA⟩ : ∃ wA, wA = w3.alloc (.cells #[.string e1, .int .i64 e2, .int .i64 e3] 48) := ⟨_, rfl⟩
          have hbA : Below w3.heap.size w3 wA := by rw [hwA]; exact bl_alloc (Below.refl _ _) _
          have rE : Row wA w3.heap.size 48 [.string e1, .int .i64 e2, .int .i64 e3] := by rw [hwA]; exact Row.new _ _ _
          have HDA := Lib.hid (HD3.out.below hbA)
          have ck2 := HDA.out.cell hv2 (j := 1) j3 (by omega)
          have ct2 := HDA.out.cell hv2 (j := 4) j3 (by omega)
          rw [(encM_get y).2.1] at ck2
          rw [(encM_get y).2.2.2.2.1] at ct2
          have hpA : wA.cell? ⟨pb, 1, none⟩ = some (.bool slash) := (hbA.cell (p := ⟨pb, 1, none⟩) hpl3).trans hp3
          have hplA : pb < wA.heap.size := Nat.lt_of_lt_of_le hpl3 hbA.size
          have HT88 := Lib.hid (valid_tgt (HF.out.val y.nr (findN_mem hy0)))
          have HND2 := Lib.hid (nd_of hy0)
          have J1 := Lib.hid j1
          have HV2 := Lib.hid hv2
          obtain ⟨kd2, hkd2⟩ : ∃ kd2, y.nr.nd.kind = kd2 := ⟨_, rfl⟩
          obtain ⟨tg, htg⟩ : ∃ tg, y.nr.nd.target = tg := ⟨_, rfl⟩
          rw [hkd2] at ck2
          rw [htg] at ct2
          have HKD2 := Lib.hid hkd2
          have HTG := Lib.hid htg
          have q1 := (rE.cell 1).trans rfl
          have HBA2 := Lib.hid (bl_trans HB3.out hbA)
          have HRDA : Hid (RdS wA (.slice sp3 q cap3) ps') := Lib.hid (HRD4.out.below hbA)
          have hCl := rE.lt
          obtain ⟨C, hC⟩ : ∃ C, w3.heap.size = C := ⟨_, rfl⟩
          clear hy0 hy1 hy2 hy3 j1 j3 j4 hv2 hkd2 htg hp3 hpl3 HRD4 hbA rE hg2
          go_wp2_with fail
          rw [← hwA]
          rw [hC] at q1 hCl
          try rw [hC]
          clear hwA hC
          refine (dget_some HDA.out (Nat.le_trans HN.out.1 (by decide)) e2 J1.out j2 HV2.out).mono ?_
          rintro e w4 ⟨rfl, rfl⟩
          go_upto_region 16 with fail
          go_cut [94] (fun c wx => c = .bool (decide (kd2 ≠ 3 ∨ (q = 0 ∧ follow = false ∧ slash = false))) ∧ wA = wx)
          case first =>
            as_aux_lemma =>
              by_cases f1 : kd2 = 3
              · subst f1
                by_cases f2 : q = 0
                · subst f2
                  cases follow <;> cases slash
                  all_goals
                    go_wp2_with fail
                    go_meet
                    case rel => exact ⟨by simp, rfl⟩
                · have hqb : ((q : Int) == 0) = false := by rw [beq_eq_false_iff_ne]; omega
                  go_wp2_with fail
                  go_meet
                  case rel => exact ⟨by simp [f2], rfl⟩
              · have hkb : (kd2 != 3) = true := by rw [bne_iff_ne]; exact f1
                go_wp2_with fail
                go_meet
                case rel => exact ⟨by simp [f1], rfl⟩
          case rest =>
          obtain ⟨rfl, rfl⟩ := hcut
          have hqz : q = 0 ↔ ps' = [] := by rw [HM.out]; exact List.length_eq_zero_iff
          by_cases hx : kd2 ≠ 3 ∨ (q = 0 ∧ follow = false ∧ slash = false)
          · as_aux_lemma =>
            rw [decide_eq_true hx]
            have HR : Hid (goH st follow slash (4 - hh) ps' e2 = R) := Lib.hid (by
              rw [← HRES.out, go_on HND.out HKD.out HUP.out HOE2.out HND2.out (by rw [HKD2.out, ← hqz]; exact hx)])
            clear hx HRES hqz
            go_wp2_with fail
            go_roundw
            case rel => exact ⟨_, hh, _, _, _, rfl, rfl, hh4, rfl, by omega, Lib.hid ⟨ps', HM.out, ⟨HR.out, HRDA.out, bl_trans HBR.out HBA2.out⟩⟩⟩
            case measure => simp [intOf]
          rw [decide_eq_false hx]
          have HLN := Lib.hid (go_ln (h := 4 - hh) HND.out HKD.out HUP.out HOE2.out HND2.out (by rw [HKD2.out, ← hqz]; exact hx))
          clear hx hqz
          by_cases hx4 : hh = 4
          · as_aux_lemma =>
            have hxb : ((hh : Int) == 4) = true := by rw [beq_iff_eq]; omega
            have HR : Hid (R = (116, 0)) := Lib.hid (by rw [← HRES.out, HLN.out, show 4 - hh = 0 by omega]; rfl)
            clear HRES HLN hx4
            go_wp2
            go_ret3
            rw [← HP.out]
            exact ⟨⟨hh, by rw [HR.out]; rfl⟩, HFIN.out _ HBA2.out⟩
          as_aux_lemma =>
          have hxb : ((hh : Int) == 4) = false := by rw [beq_eq_false_iff_ne]; omega
          go_upto_region 22 with fail
          obtain ⟨tt, htt⟩ : ∃ tt : ByteArray, tt = if tg.data.toList.head? = some 47 then tg else ⟨(47 :: tg.data.toList).toArray⟩ := ⟨_, rfl⟩
          have htt1 : (tgtOf tg at').1 = parseP tt := by
            unfold tgtOf
            split <;> rename_i hh1 <;> rw [htt]
            · rw [if_pos hh1]
            · rw [if_neg hh1]
          have HTT := Lib.hid htt
          have HTT1 := Lib.hid htt1
          clear htt htt1
          have ht88 : tg.size ≤ 88 := by have := HT88.out; rw [HTG.out] at this; exact this
          go_cut [112] (fun c wx => c = .bool (decide (¬ tg.data.toList.head? = some 47)) ∧ wA = wx)
          case first =>
            as_aux_lemma =>
              by_cases t0 : tg.data.toList = []
              · have hg0 : (tg.toList == []) = true := by rw [beq_iff_eq, ByteArray.toList_eq]; exact t0
                have HT2 : Hid (decide (¬ tg.data.toList.head? = some 47) = true) := Lib.hid (by rw [t0]; simp)
                clear t0
                go_wp2_with fail
                go_meet
                case rel => exact ⟨by rw [HT2.out], rfl⟩
              · have hpos : 0 < tg.size := by
                  have : tg.data.toList.length = tg.size := Array.length_toList
                  have := List.length_pos_iff.2 t0
                  omega
                have hfb := first_byte hpos
                have hp1' : (0 : Int) < (tg.size : Int) := by omega
                have hg0 : (tg.toList == []) = false := by rw [beq_eq_false_iff_ne, ByteArray.toList_eq]; exact t0
                by_cases tq : tg[0] = 47
                · have HT2 : Hid (decide (¬ tg.data.toList.head? = some 47) = false) := Lib.hid (by rw [hfb, tq]; simp)
                  have hq1 : (tg[0].toNat : Int) = 47 := by rw [tq]; rfl
                  have hq2 : ((tg[0].toNat : Int) != 47) = false := by rw [hq1]; rfl
                  clear t0 tq hfb
                  go_wp2_with fail
                  go_meet
                  case rel => exact ⟨by rw [HT2.out], rfl⟩
                · have HT2 : Hid (decide (¬ tg.data.toList.head? = some 47) = true) := Lib.hid (by rw [hfb]; simpa using tq)
                  have hq2 : ((tg[0].toNat : Int) != 47) = true := by rw [bne_iff_ne]; exact fun e => tq (UInt8.toNat_inj.1 (by simpa using (by omega : tg[0].toNat = 47)))
                  clear t0 tq hfb
                  go_wp2_with fail
                  go_meet
                  case rel => exact ⟨by rw [HT2.out], rfl⟩
          case rest =>
          obtain ⟨rfl, rfl⟩ := hcut
          go_upto_if 112 with fail
          go_cut [9, 19] (fun a t wx => a = .int .i64 (tgtOf tg at').2 ∧ t = .string tt ∧ wA = wx)
          case first =>
            as_aux_lemma =>
              by_cases tq : tg.data.toList.head? = some 47
              · have HT2 : Hid (tt = tg) := Lib.hid (by rw [HTT.out, if_pos tq])
                have HT3 : Hid ((tgtOf tg at').2 = 1) := Lib.hid (by unfold tgtOf; rw [if_pos tq])
                rw [show decide (¬ tg.data.toList.head? = some 47) = false from decide_eq_false (by simpa using tq)]
                clear tq
                go_wp2_with fail
                go_meet
                case rel => exact ⟨by rw [HT3.out], by rw [HT2.out], rfl⟩
              · have HT2 : Hid (tt = ⟨#[47]⟩ ++ tg) := Lib.hid (by rw [HTT.out, if_neg tq]; exact slash_app tg)
                have HT3 : Hid ((tgtOf tg at').2 = at') := Lib.hid (by unfold tgtOf; rw [if_neg tq])
                rw [show decide (¬ tg.data.toList.head? = some 47) = true from decide_eq_true tq]
                have hfit : ¬ 9223372036854775807 < 1 + tg.size := by omega
                clear tq
                go_wp2_with fail
                go_meet
                case rel => exact ⟨by rw [HT3.out], by rw [HT2.out], rfl⟩
          case rest =>
          obtain ⟨rfl, rfl, rfl⟩ := hcut
          obtain ⟨hk, hhk⟩ : ∃ hk, 4 - hh = hk + 1 := ⟨3 - hh, by omega⟩
          have HHK := Lib.hid hhk
          clear hhk
          have hpl2 := tgt_parts tg at'
          have HPC := Lib.hid hpl2.1
          clear hpl2
          go_wp2_with fail
          refine (dparse_any tt wA).mono ?_
          rintro e w5 ⟨⟨pv5, rfl, hs5⟩, hb5⟩
          obtain ⟨sp5, cap5, rfl⟩ := slShape hs5
          rw [← HTT1.out] at hs5 ⊢
          have h0 := HRES.out
          rw [HLN.out, HHK.out, HTG.out] at h0
          have HRES2 := Lib.hid h0
          have hcc := tgt_code tg at'
          obtain ⟨cc, hcc0⟩ : ∃ cc, (tgtOf tg at').1.1 = cc := ⟨_, rfl⟩
          rw [hcc0] at hcc ⊢
          have HCC := Lib.hid hcc0
          obtain ⟨at2, hat2⟩ : ∃ at2, (tgtOf tg at').2 = at2 := ⟨_, rfl⟩
          rw [hat2]
          have HAT2 := Lib.hid hat2
          obtain ⟨qp, hqp⟩ : ∃ qp, (tgtOf tg at').1.2 = qp := ⟨_, rfl⟩
          rw [hqp] at hs5 HPC ⊢
          have HQP := Lib.hid hqp
          have HS5 := Lib.hid hs5
          have HB5 := Lib.hid hb5
          have HBX := Lib.hid (bl_trans HBA2.out hb5)
          have HRD5 : Hid (RdS w5 (.slice sp3 q cap3) ps') := Lib.hid (HRDA.out.below hb5)
          have hp5 : w5.cell? ⟨pb, 1, none⟩ = some (.bool slash) := (hb5.cell (p := ⟨pb, 1, none⟩) hplA).trans hpA
          clear h0 hcc0 hat2 hqp hs5 hb5 HRES HLN ck2 ct2 q1 hCl hpA hplA HRDA
          by_cases hc0 : cc = 0
          · as_aux_lemma =>
            subst hc0
            have hr := HRES2.out
            rw [next_ok HCC.out, HQP.out, HAT2.out] at hr
            have HR := Lib.hid hr
            clear hr HRES2 hcc
            obtain ⟨w6, hw6⟩ : ∃ w6, w6 = w5.alloc (.cells #[.slice sp5 qp.parts.length cap5, .bool qp.slash] 116) := ⟨_, rfl⟩
            have hb6 : Below w5.heap.size w5 w6 := by rw [hw6]; exact bl_alloc (Below.refl _ _) _
            have rQ : Row w6 w5.heap.size 116 [.slice sp5 qp.parts.length cap5, .bool qp.slash] := by rw [hw6]; exact Row.new _ _ _
            have c0 := (rQ.cell 0).trans rfl
            have hQl := rQ.lt
            have HS6 : Hid (RdS w6 (.slice sp5 qp.parts.length cap5) qp.parts) := Lib.hid ((HS5.out.rd (fun _ => rfl)).below hb6)
            have HRD6 : Hid (RdS w6 (.slice sp3 q cap3) ps') := Lib.hid (HRD5.out.below hb6)
            have HB6 := Lib.hid hb6
            go_wp2_with fail
            rw [← hw6]
            clear hw6 hb6 rQ
            go_wp2_with fail
            refine (texts_any HS6.out (Nat.le_trans HPC.out (by decide))).mono ?_
            rintro e w7 ⟨⟨u7, rfl, hs7⟩, hb7⟩
            have HS7 := Lib.hid hs7
            have HB7 := Lib.hid hb7
            have HRD7 : Hid (RdS w7 (.slice sp3 q cap3) ps') := Lib.hid (HRD6.out.below hb7)
            have HQL : Hid (qp.parts.length + ps'.length ≤ 1000000) := Lib.hid (by have := HPC.out; have := HM.out; omega)
            have HZ7 : Hid (w6.heap.size ≤ w7.heap.size) := Lib.hid hb7.size
            clear hs7 hb7 c0 hQl
            go_wp2_with (at_builtin; refine wpList_app strT rfl _ _ rfl rfl HS7.out rfl HRD7.out (small_max HQL.out) (by have := HQL.out; omega) HZ7.out ?_; intro v8 w8 hs8 ht8; have HS8 := Lib.hid hs8; have HT8 := Lib.hid ht8; clear hs8 ht8)
            obtain ⟨sp8, cap8, rfl⟩ := slShape HS8.out
            go_roundw
            case rel =>
              refine ⟨at2, hh + 1, _, sp8, cap8, rfl, by go_num, by omega, rfl, ?_, Lib.hid ⟨_, rfl, ⟨?_, HS8.out.rd (fun _ => rfl), ?_⟩⟩⟩
              · have h1 := HPC.out; have h2 := HM.out; rw [List.length_append]; omega
              · rw [show 4 - (hh + 1) = hk by have := HHK.out; omega]; exact HR.out
              · have h7 : Below w6.heap.size w6 w8 := HB7.out.trans (HT8.out.below HZ7.out (fun x hx => (SlE.lt HS7.out x hx).1))
                exact bl_trans HBR.out (bl_trans HBX.out (bl_trans HB6.out h7))
            case measure =>
              have h1 := HPC.out; have h2 := HM.out; have h3 := HHK.out
              simp [intOf]
              omega
          · as_aux_lemma =>
            have hr := HRES2.out
            rw [next_bad (by rw [HCC.out]; exact hc0), HCC.out] at hr
            have HR := Lib.hid hr.symm
            have hcb : (cc != 0) = true := by rw [bne_iff_ne]; exact hc0
            clear hr HRES2 hcc hc0
            go_wp2
            go_ret3
            rw [← HP.out]
            exact ⟨⟨_, by rw [HR.out]; rfl⟩, HFIN.out _ (bl_trans HBX.out (bl_alloc (Below.refl _ _) _))⟩
end
end Go.Proofs.YtnkcbogikaebfaaGreatDoor
end

section
/- The document's Final, last: they answer as the plain tree's lastP. -/
namespace Go.Proofs.YtnkcbogikaebfaaGreatDoor
open Go Go.RowKit
set_option maxRecDepth 100000
set_option linter.unusedSimpArgs false
set_option linter.unusedVariables false
attribute [local go_sem] giv
variable {E : Nat → Addr} {B : Nat}
theorem set3 {base : Nat} {a w1 : World} (h : Below base a w1) {c : Nat} (ha : base ≤ c) (u0 u1 u2 : Value) : Below base a (((w1.setCell ⟨c, 0, none⟩ u0).setCell ⟨c, 1, none⟩ u1).setCell ⟨c, 2, none⟩ u2) := Below.setCell (Below.setCell (Below.setCell h ha u0) ha u1) ha u2
def fndV (f : Fnd) : Value := .agg #[.int .i64 f.dir, .int .i64 f.node, .string f.name]
section
variable {T : Nat → Prop} {w : World} {m : Nat} {st : St} {v : Value} {ms : List MN}
def DFinR (R : Int × Fnd) (w : World) (e : Ending) (w' : World) : Prop := e = .returned (.tuple #[fndV R.2, .int .i64 R.1]) ∧ Below w.heap.size w w'
theorem kind_dir (st : St) (k : Int) : ((st.get k).elim 0 fun r => r.nd.kind) = 2 ↔ st.isDir k = true := by
  unfold St.isDir
  cases st.get k <;> simp
set_option maxHeartbeats 4000000 in
theorem dfinal_any (h : DW B T w m st v ms) (f : Full st) {sp : Option Addr} {np cap : Nat} {ps : List ByteArray} (rp : RdS w (.slice sp np cap) ps) (hlen : ps.length ≤ 1000) (slash : Bool) :
    Calls Tryz.prog 51 #[.pointer (some ⟨m, 0, none⟩), .agg #[.slice sp np cap, .bool slash]] w (DFinR (lastP st ⟨ps, slash⟩) w) := by
  obtain ⟨wa, hwa⟩ : ∃ wa, wa = (w.alloc (.cells #[.slice sp np cap, .bool slash] 116)).alloc (.cells #[.int .i64 0, .int .i64 0, .string ⟨#[]⟩] 120) := ⟨_, rfl⟩
  have hba : Below w.heap.size w wa := by rw [hwa]; exact bl_alloc (bl_alloc (Below.refl _ _) _) _
  have rP : Row wa w.heap.size 116 [.slice sp np cap, .bool slash] := by rw [hwa]; exact (Row.new _ _ _).alloc _
  have rF : Row wa (w.heap.size + 1) 120 [.int .i64 0, .int .i64 0, .string ⟨#[]⟩] := by
    have := Row.new (w.alloc (.cells #[.slice sp np cap, .bool slash] 116)) 120 [.int .i64 0, .int .i64 0, .string ⟨#[]⟩]
    rw [hwa]
    simpa using this
  have HN := Lib.hid (h.few f)
  have HF := Lib.hid f
  have HD := Lib.hid (h.below hba)
  have HRP := Lib.hid (rp.below hba)
  have HLEN := Lib.hid hlen
  obtain ⟨R, hR⟩ : ∃ R, lastP st ⟨ps, slash⟩ = R := ⟨_, rfl⟩
  rw [hR]
  have hlc := lastP_code st ⟨ps, slash⟩
  unfold lastP at hR
  simp only at hR
  have HR := Lib.hid hR
  generalize hP : DFinR R w = Post
  have HP := Lib.hid hP
  clear hP h f rp hlen hR
  go_enter Tryz.func51, Tryz.ntmps51
  go_wp2_with fail
  rw [← hwa]
  clear hwa
  obtain ⟨P0, hP0⟩ : ∃ P0, w.heap.size = P0 := ⟨_, rfl⟩
  rw [hP0] at rP rF hba ⊢
  have HPF := Lib.hid (And.intro rP rF)
  have HBA := Lib.hid hba
  have HP0 := Lib.hid hP0
  have p0 := rP.cell' (i := 0) rfl
  have p1 := rP.cell' (i := 1) rfl
  have pl := rP.lt
  clear rP rF hba hP0
  go_wp2_with fail
  refine (dsplit_any ⟨ps, slash⟩ HRP.out HLEN.out).mono ?_
  rintro e w2 ⟨⟨hv, rfl, hs2⟩, hb2⟩
  obtain ⟨sp2, cap2, rfl⟩ := slShape hs2
  obtain ⟨sp3, sp4, sp5, hspl⟩ : ∃ a b c, splitP ⟨ps, slash⟩ = (a, b, c) := ⟨_, _, _, rfl⟩
  rw [hspl] at hs2 ⊢
  simp only at hs2 ⊢
  have HSPL := Lib.hid hspl
  have hsc := splitP_code ⟨ps, slash⟩
  rw [hspl] at hsc
  simp only at hsc
  have hsp := (splitP_parts ⟨ps, slash⟩).1
  rw [hspl] at hsp
  simp only at hsp
  have HLQ : Hid (sp4.length ≤ 1000) := Lib.hid (Nat.le_trans hsp HLEN.out)
  obtain ⟨w3, hw3⟩ : ∃ w3, w3 = w2.alloc (.cells #[.slice sp2 sp4.length cap2, .bool false] 116) := ⟨_, rfl⟩
  have hb3 : Below w2.heap.size w2 w3 := by rw [hw3]; exact bl_alloc (Below.refl _ _) _
  have hb23 := bl_trans hb2 hb3
  have rQ : Row w3 w2.heap.size 116 [.slice sp2 sp4.length cap2, .bool false] := by rw [hw3]; exact Row.new _ _ _
  have HRQ : Hid (RdS w3 (.slice sp2 sp4.length cap2) sp4) := Lib.hid ((hs2.rd (fun _ => rfl)).below hb3)
  have HD3 := Lib.hid (HD.out.below hb23)
  have HPF3 := Lib.hid (And.intro (HPF.out.1.below hb23) (HPF.out.2.below hb23))
  have HB3 := Lib.hid (HBA.out.trans (hb23.mono (by have := HBA.out.size; have := HP0.out; omega)))
  have c0 := rQ.cell' (i := 0) rfl
  have c1 := rQ.cell' (i := 1) rfl
  have cl := rQ.lt
  clear hspl hs2 hb2 hsp hb3 hb23 p0 p1 pl
  go_upto_region 2 with fail
  rw [← hw3]
  obtain ⟨Q0, hQ0⟩ : ∃ Q0, w2.heap.size = Q0 := ⟨_, rfl⟩
  rw [hQ0] at c0 c1 cl ⊢
  clear hw3 rQ hQ0
  have hR1 := HR.out
  rw [HSPL.out] at hR1
  simp only at hR1
  rcases hsc with hz | hz
  case inr =>
    as_aux_lemma =>
    subst hz
    rw [if_pos (by decide)] at hR1
    have HRF := Lib.hid hR1.symm
    have rf := HPF3.out.2
    have f0 := rf.cell' (i := 0) rfl
    have f1 := rf.cell' (i := 1) rfl
    have f2 := rf.cell' (i := 2) rfl
    have g0 := rf.froz 0
    have g1 := rf.froz 1
    have g2 := rf.froz 2
    have fl := rf.lt
    have HFIN : Hid (∀ u0 u1 u2, Below w.heap.size w (((w3.setCell ⟨P0 + 1, 0, none⟩ u0).setCell ⟨P0 + 1, 1, none⟩ u1).setCell ⟨P0 + 1, 2, none⟩ u2)) := Lib.hid (by rw [HP0.out]; exact fun u0 u1 u2 => set3 HB3.out (by omega) u0 u1 u2)
    clear hR1 rf
    go_wp2
    rw [← HP.out, HRF.out]
    refine bodyPost_ret (v := .tuple #[.agg #[.int .i64 0, .int .i64 0, .string ⟨#[]⟩], .int .i64 114]) (by simp [results, Tryz.results51, go_sem, f0, f1, f2]) rfl ⟨rfl, HFIN.out _ _ _⟩
  subst hz
  rw [if_neg (by decide)] at hR1
  have HR2 := Lib.hid hR1
  clear hR1
  go_wp2_with fail
  refine (dto_any HD3.out HF.out HRQ.out HLQ.out true false).mono ?_
  rintro e w4 ⟨⟨hops, rfl⟩, hb4⟩
  obtain ⟨tc, td, htt⟩ : ∃ a b, toP st ⟨sp4, false⟩ true = (a, b) := ⟨_, _, rfl⟩
  rw [htt]
  simp only
  have hR2 := HR2.out
  rw [htt] at hR2
  simp only at hR2
  have HD4 := Lib.hid (HD3.out.below hb4)
  have HPF4 := Lib.hid (And.intro (HPF3.out.1.below hb4) (HPF3.out.2.below hb4))
  have HB4 := Lib.hid (HB3.out.trans (hb4.mono (by have := HB3.out.size; have := HP0.out; omega)))
  have HTT := Lib.hid htt
  clear htt hb4 c0 c1 cl HRQ HD3 HPF3 HB3
  by_cases htz : tc = 0
  case neg =>
    as_aux_lemma =>
    rw [if_pos htz] at hR2
    have htb : (tc != 0) = true := by rw [bne_iff_ne]; exact htz
    have HRF := Lib.hid hR2.symm
    have rf := HPF4.out.2
    have f0 := rf.cell' (i := 0) rfl
    have f1 := rf.cell' (i := 1) rfl
    have f2 := rf.cell' (i := 2) rfl
    have g0 := rf.froz 0
    have g1 := rf.froz 1
    have g2 := rf.froz 2
    have fl := rf.lt
    have HFIN : Hid (∀ u0 u1 u2, Below w.heap.size w (((w4.setCell ⟨P0 + 1, 0, none⟩ u0).setCell ⟨P0 + 1, 1, none⟩ u1).setCell ⟨P0 + 1, 2, none⟩ u2)) := Lib.hid (by rw [HP0.out]; exact fun u0 u1 u2 => set3 HB4.out (by omega) u0 u1 u2)
    clear hR2 rf htz
    go_wp2
    rw [← HP.out, HRF.out]
    refine bodyPost_ret (v := .tuple #[.agg #[.int .i64 0, .int .i64 0, .string ⟨#[]⟩], .int .i64 tc]) (by simp [results, Tryz.results51, go_sem, f0, f1, f2]) rfl ⟨rfl, HFIN.out _ _ _⟩
  subst htz
  rw [if_neg (by decide)] at hR2
  have HR3 := Lib.hid hR2
  have hkd := kind_dir st td
  obtain ⟨kk, hkk⟩ : ∃ kk, ((st.get td).elim 0 fun r => r.nd.kind) = kk := ⟨_, rfl⟩
  rw [hkk] at hkd
  have HKK := Lib.hid hkk
  clear hkk hR2
  go_wp2_with fail
  refine (dkind_any HD4.out (Nat.le_trans HN.out.1 (by decide)) td).mono ?_
  rw [HKK.out]
  rintro e w5 ⟨rfl, rfl⟩
  cases hdd : st.isDir td with
  | false =>
    as_aux_lemma =>
    rw [hdd] at hkd
    have hkb : (kk != 2) = true := by rw [bne_iff_ne]; intro e; have := hkd.1 e; cases this
    have hR3 := HR3.out
    rw [dirOf_not hdd] at hR3
    have HRF := Lib.hid hR3.symm
    have rf := HPF4.out.2
    have f0 := rf.cell' (i := 0) rfl
    have f1 := rf.cell' (i := 1) rfl
    have f2 := rf.cell' (i := 2) rfl
    have g0 := rf.froz 0
    have g1 := rf.froz 1
    have g2 := rf.froz 2
    have fl := rf.lt
    have HFIN : Hid (∀ u0 u1 u2, Below w.heap.size w (((w4.setCell ⟨P0 + 1, 0, none⟩ u0).setCell ⟨P0 + 1, 1, none⟩ u1).setCell ⟨P0 + 1, 2, none⟩ u2)) := Lib.hid (by rw [HP0.out]; exact fun u0 u1 u2 => set3 HB4.out (by omega) u0 u1 u2)
    clear hR3 rf hkd hdd
    go_wp2
    rw [← HP.out, HRF.out]
    refine bodyPost_ret (v := .tuple #[.agg #[.int .i64 0, .int .i64 0, .string ⟨#[]⟩], .int .i64 111]) (by simp [results, Tryz.results51, go_sem, f0, f1, f2]) rfl ⟨rfl, HFIN.out _ _ _⟩
  | true =>
    obtain rfl : kk = 2 := hkd.2 hdd
    have hR3 := HR3.out
    rw [dirOf_isDir hdd] at hR3
    simp only at hR3
    have HR4 := Lib.hid hR3
    obtain ⟨oe, hoe⟩ : ∃ oe, entOf (st.ents td) sp5 = oe := ⟨_, rfl⟩
    have HENT : Hid (∀ e, oe = some e → 1 ≤ e.node) := Lib.hid (fun e he => by
      obtain ⟨d0, h1, h2⟩ := isDir_some hdd
      obtain ⟨r, h3, h4, h5⟩ := nd_get h1
      rw [he, ← h5] at hoe
      obtain ⟨_, _, _, h6, _⟩ := entry_node HF.out.toGood h3 hoe
      exact h6)
    have HOE := Lib.hid hoe
    have HOM : Hid (entM st td sp5 = oe) := Lib.hid (by
      rw [← hoe]
      unfold entM St.ents
      cases st.get td <;> rfl)
    clear hR3 hoe hdd hkd
    go_wp2_with fail
    refine (dentry_any HD4.out (Nat.le_trans HN.out.1 (by decide)) (fun x hx => Nat.le_trans (HN.out.2 x hx) (by decide)) td sp5).mono ?_
    rw [HOM.out]
    rintro e w5 ⟨rfl, hb5⟩
    have hR4 := HR4.out
    rw [HOE.out] at hR4
    obtain ⟨e1, e2, e3, hee⟩ : ∃ a b c, oe.getD noEl = ⟨a, b, c⟩ := ⟨_, _, _, rfl⟩
    rw [hee]
    simp only [encE]
    obtain ⟨w6, hw6⟩ : ∃ w6, w6 = w5.alloc (.cells #[.string e1, .int .i64 e2, .int .i64 e3] 48) := ⟨_, rfl⟩
    have hb6 : Below w5.heap.size w5 w6 := by rw [hw6]; exact bl_alloc (Below.refl _ _) _
    have rE : Row w6 w5.heap.size 48 [.string e1, .int .i64 e2, .int .i64 e3] := by rw [hw6]; exact Row.new _ _ _
    have hb56 := bl_trans hb5 hb6
    have HD6 := Lib.hid (HD4.out.below hb56)
    have HPF6 := Lib.hid (And.intro (HPF4.out.1.below hb56) (HPF4.out.2.below hb56))
    have HB6 := Lib.hid (HB4.out.trans (hb56.mono (by have := HB4.out.size; have := HP0.out; omega)))
    have x1 := rE.cell' (i := 1) rfl
    have xl := rE.lt
    have p1 := HPF6.out.1.cell' (i := 1) rfl
    have pl := HPF6.out.1.lt
    have rf := HPF6.out.2
    have f0 := rf.cell' (i := 0) rfl
    have f1 := rf.cell' (i := 1) rfl
    have f2 := rf.cell' (i := 2) rfl
    have g0 := rf.froz 0
    have g1 := rf.froz 1
    have g2 := rf.froz 2
    have fl := rf.lt
    have HFIN : Hid (∀ u0 u1 u2, Below w.heap.size w (((w6.setCell ⟨P0 + 1, 0, none⟩ u0).setCell ⟨P0 + 1, 1, none⟩ u1).setCell ⟨P0 + 1, 2, none⟩ u2)) := Lib.hid (by rw [HP0.out]; exact fun u0 u1 u2 => set3 HB6.out (by omega) u0 u1 u2)
    clear hb5 hb6 hb56 rE rf HD4 HPF4 HB4
    go_upto_region 10 with fail
    rw [← hw6]
    obtain ⟨C, hC⟩ : ∃ C, w5.heap.size = C := ⟨_, rfl⟩
    rw [hC] at x1 xl ⊢
    clear hw6 hC
    cases oe with
    | none =>
      as_aux_lemma =>
      rw [Option.getD_none, show noEl = ⟨⟨#[]⟩, 0, 0⟩ from rfl] at hee
      cases hee
      have HRF := Lib.hid hR4.symm
      clear hR4
      go_wp2
      rw [← HP.out, HRF.out]
      refine bodyPost_ret (v := .tuple #[.agg #[.int .i64 td, .int .i64 0, .string sp5], .int .i64 0]) (by simp [results, Tryz.results51, go_sem, f0, f1, f2]) rfl ⟨rfl, HFIN.out _ _ _⟩
    | some en =>
      rw [Option.getD_some] at hee
      subst hee
      have he2 := HENT.out _ rfl
      simp only at he2 hR4
      have heb : (e2 != 0) = true := by rw [bne_iff_ne]; omega
      cases slash with
      | false =>
        as_aux_lemma =>
        have HRF : Hid (R = (0, ⟨td, e2, sp5⟩)) := Lib.hid (by rw [← hR4]; rfl)
        clear hR4
        go_wp2
        rw [← HP.out, HRF.out]
        refine bodyPost_ret (v := .tuple #[.agg #[.int .i64 td, .int .i64 e2, .string sp5], .int .i64 0]) (by simp [results, Tryz.results51, go_sem, f0, f1, f2]) rfl ⟨rfl, HFIN.out _ _ _⟩
      | true =>
        have hkd2 := kind_dir st e2
        obtain ⟨ke, hke⟩ : ∃ ke, ((st.get e2).elim 0 fun r => r.nd.kind) = ke := ⟨_, rfl⟩
        rw [hke] at hkd2
        have HKE := Lib.hid hke
        clear hke
        cases hdd2 : st.isDir e2 with
        | true =>
          as_aux_lemma =>
          obtain rfl : ke = 2 := hkd2.2 hdd2
          have HRF : Hid (R = (0, ⟨td, e2, sp5⟩)) := Lib.hid (by rw [← hR4, hdd2]; rfl)
          clear hR4 hkd2 hdd2
          go_wp2_with fail
          refine (dkind_any HD6.out (Nat.le_trans HN.out.1 (by decide)) e2).mono ?_
          rw [HKE.out]
          rintro e w7 ⟨rfl, rfl⟩
          go_wp2
          rw [← HP.out, HRF.out]
          refine bodyPost_ret (v := .tuple #[.agg #[.int .i64 td, .int .i64 e2, .string sp5], .int .i64 0]) (by simp [results, Tryz.results51, go_sem, f0, f1, f2]) rfl ⟨rfl, HFIN.out _ _ _⟩
        | false =>
          as_aux_lemma =>
          have hkb : (ke != 2) = true := by rw [bne_iff_ne]; intro e; have := hkd2.1 e; rw [hdd2] at this; cases this
          have HRF : Hid (R = (111, noFnd)) := Lib.hid (by rw [← hR4, hdd2]; rfl)
          clear hR4 hkd2 hdd2
          go_wp2_with fail
          refine (dkind_any HD6.out (Nat.le_trans HN.out.1 (by decide)) e2).mono ?_
          rw [HKE.out]
          rintro e w7 ⟨rfl, rfl⟩
          go_wp2
          rw [← HP.out, HRF.out]
          refine bodyPost_ret (v := .tuple #[.agg #[.int .i64 0, .int .i64 0, .string ⟨#[]⟩], .int .i64 111]) (by simp [results, Tryz.results51, go_sem, f0, f1, f2]) rfl ⟨rfl, HFIN.out _ _ _⟩
end
end Go.Proofs.YtnkcbogikaebfaaGreatDoor
end

section
/- The document's last: a path as a text, and what is found. -/
namespace Go.Proofs.YtnkcbogikaebfaaGreatDoor
open Go Go.RowKit
set_option maxRecDepth 100000
set_option linter.unusedSimpArgs false
set_option linter.unusedVariables false
attribute [local go_sem] giv
variable {E : Nat → Addr} {B : Nat}
section
variable {T : Nat → Prop} {w : World} {m : Nat} {st : St} {v : Value} {ms : List MN}
def lastS (st : St) (s : ByteArray) : Int × Fnd := if (parseP s).1 ≠ 0 then ((parseP s).1, noFnd) else lastP st (parseP s).2
def DLastR (st : St) (s : ByteArray) (w : World) (e : Ending) (w' : World) : Prop :=
  (∃ v, e = .returned (.tuple #[.agg #[v, .bool (parseP s).2.slash], fndV (lastS st s).2, .int .i64 (lastS st s).1]) ∧ SlS w' w.heap.size v (parseP s).2.parts) ∧ Below w.heap.size w w'
set_option maxHeartbeats 4000000 in
theorem dlast_any (h : DW B T w m st v ms) (f : Full st) (s : ByteArray) : Calls Tryz.prog 87 #[.pointer (some ⟨m, 0, none⟩), .string s] w (DLastR st s w) := by
  obtain ⟨wa, hwa⟩ : ∃ wa, wa = (w.alloc (.cells #[.slice none 0 0, .bool false] 116)).alloc (.cells #[.int .i64 0, .int .i64 0, .string ⟨#[]⟩] 120) := ⟨_, rfl⟩
  have hba : Below w.heap.size w wa := by rw [hwa]; exact bl_alloc (bl_alloc (Below.refl _ _) _) _
  have rP : Row wa w.heap.size 116 [.slice none 0 0, .bool false] := by rw [hwa]; exact (Row.new _ _ _).alloc _
  have rF : Row wa (w.heap.size + 1) 120 [.int .i64 0, .int .i64 0, .string ⟨#[]⟩] := by
    have := Row.new (w.alloc (.cells #[.slice none 0 0, .bool false] 116)) 120 [.int .i64 0, .int .i64 0, .string ⟨#[]⟩]
    rw [hwa]
    simpa using this
  have HF := Lib.hid f
  have HD := Lib.hid (h.below hba)
  obtain ⟨R, hR⟩ : ∃ R, lastS st s = R := ⟨_, rfl⟩
  generalize hP : DLastR st s w = Post
  unfold DLastR at hP
  rw [hR] at hP
  unfold lastS at hR
  have HR := Lib.hid hR
  have HP := Lib.hid hP
  clear hP h f hR
  go_enter Tryz.func87, Tryz.ntmps87
  go_wp2_with fail
  rw [← hwa]
  clear hwa
  obtain ⟨P0, hP0⟩ : ∃ P0, w.heap.size = P0 := ⟨_, rfl⟩
  rw [hP0] at rP rF hba ⊢
  have HP0 := Lib.hid hP0
  have HPL : Hid (P0 + 1 < wa.heap.size) := Lib.hid rF.lt
  clear hP0
  refine (dparse_any s wa).mono ?_
  rintro e w2 ⟨⟨pv, rfl, hs2⟩, hb2⟩
  obtain ⟨sp2, cap2, rfl⟩ := slShape hs2
  obtain ⟨w3, hw3⟩ : ∃ w3, w3 = w2.alloc (.cells #[.slice sp2 (parseP s).2.parts.length cap2, .bool (parseP s).2.slash] 116) := ⟨_, rfl⟩
  have hb3 : Below w2.heap.size w2 w3 := by rw [hw3]; exact bl_alloc (Below.refl _ _) _
  have rQ : Row w3 w2.heap.size 116 [.slice sp2 (parseP s).2.parts.length cap2, .bool (parseP s).2.slash] := by rw [hw3]; exact Row.new _ _ _
  have hb23 := bl_trans hb2 hb3
  have HS3 := Lib.hid (hs2.below hb3)
  have HD3 := Lib.hid (HD.out.below hb23)
  have HB3 := Lib.hid (hba.trans (hb23.mono (by have := hba.size; have := HP0.out; omega)))
  have HROW := Lib.hid (And.intro (rP.below hb23) (rF.below hb23))
  have HRQ := Lib.hid rQ
  have hQ3 : P0 + 1 < w2.heap.size := Nat.lt_of_lt_of_le HPL.out hb2.size
  have HSS : Hid (∀ w9 w10, SlS w9 wa.heap.size (.slice sp2 (parseP s).2.parts.length cap2) (parseP s).2.parts → Touch (fun y => y = P0 ∨ y = P0 + 1) w9 w10 → SlS w10 P0 (.slice sp2 (parseP s).2.parts.length cap2) (parseP s).2.parts) := Lib.hid (fun w9 w10 h9 ht => (h9.touch ht (fun y hy => by
    have := (SlE.lt h9 y hy).1
    have := HPL.out
    rintro (h | h) <;> omega)).mono (by have := HPL.out; omega))
  have hR1 := HR.out
  clear hs2 hb2 hb3 hb23 hba rP rF rQ HD
  go_upto_region 2 with fail
  rw [← hw3]
  obtain ⟨Q0, hQ0⟩ : ∃ Q0, w2.heap.size = Q0 := ⟨_, rfl⟩
  rw [hQ0] at HRQ hQ3 ⊢
  clear hw3 hQ0
  have q0 := HRQ.out.cell' (i := 0) rfl
  have q1 := HRQ.out.cell' (i := 1) rfl
  have ql := HRQ.out.lt
  have n1 : ¬ Q0 = P0 := by omega
  have n2 : ¬ Q0 = P0 + 1 := by omega
  obtain ⟨pc, hpc⟩ : ∃ pc, (parseP s).1 = pc := ⟨_, rfl⟩
  rw [hpc] at hR1 ⊢
  have HPC := Lib.hid hpc
  clear hpc
  by_cases hz : pc = 0
  case neg =>
    as_aux_lemma =>
    have hzb : (pc != 0) = true := by rw [bne_iff_ne]; exact hz
    rw [if_pos hz] at hR1
    have HRF := Lib.hid hR1.symm
    have a0 := HROW.out.1.cell' (i := 0) rfl
    have a1 := HROW.out.1.cell' (i := 1) rfl
    have g0 := HROW.out.1.froz 0
    have g1 := HROW.out.1.froz 1
    have f0 := HROW.out.2.cell' (i := 0) rfl
    have f1 := HROW.out.2.cell' (i := 1) rfl
    have f2 := HROW.out.2.cell' (i := 2) rfl
    have g3 := HROW.out.2.froz 0
    have g4 := HROW.out.2.froz 1
    have g5 := HROW.out.2.froz 2
    have fl := HROW.out.2.lt
    have al := HROW.out.1.lt
    have HFIN : Hid (∀ w9, Touch (fun y => y = P0 ∨ y = P0 + 1) w3 w9 → SlS w9 w.heap.size (.slice sp2 (parseP s).2.parts.length cap2) (parseP s).2.parts ∧ Below w.heap.size w w9) := Lib.hid (fun w9 ht => by
      rw [HP0.out]
      exact ⟨HSS.out _ _ HS3.out ht, HB3.out.trans (ht.below (by omega) (fun y hy => by rcases hy with h | h <;> omega))⟩)
    clear hR1 hz
    go_wp2
    rw [← HP.out, HRF.out]
    refine bodyPost_ret (v := .tuple #[.agg #[.slice sp2 (parseP s).2.parts.length cap2, .bool (parseP s).2.slash], .agg #[.int .i64 0, .int .i64 0, .string ⟨#[]⟩], .int .i64 pc]) (by simp [results, Tryz.results87, go_sem, a0, a1, f0, f1, f2]) rfl ⟨⟨_, rfl, (HFIN.out _ ?_).1⟩, (HFIN.out _ ?_).2⟩
    all_goals repeat (first | exact Touch.refl _ _ | refine Touch.setCell ?_ (by first | exact .inl (.inl rfl) | exact .inl (.inr rfl)) _ | refine Touch.drew ?_)
  subst hz
  rw [if_neg (by decide)] at hR1
  have HRD3 : Hid (RdS w3 (.slice sp2 (parseP s).2.parts.length cap2) (parseP s).2.parts) := Lib.hid (HS3.out.rd (fun _ => rfl))
  go_wp2_with fail
  refine (dfinal_any HD3.out HF.out HRD3.out (Nat.le_trans (parse_len s) (by decide)) (parseP s).2.slash).mono ?_
  rintro e w4 ⟨rfl, hb4⟩
  have hR2 : lastP st ⟨(parseP s).2.parts, (parseP s).2.slash⟩ = R := hR1
  rw [hR2]
  have HR2 := Lib.hid hR2
  obtain ⟨rc, ⟨rd, rn, rs⟩⟩ := R
  simp only [fndV]
  obtain ⟨w5, hw5⟩ : ∃ w5, w5 = w4.alloc (.cells #[.int .i64 rd, .int .i64 rn, .string rs] 120) := ⟨_, rfl⟩
  have hb5 : Below w4.heap.size w4 w5 := by rw [hw5]; exact bl_alloc (Below.refl _ _) _
  have rG : Row w5 w4.heap.size 120 [.int .i64 rd, .int .i64 rn, .string rs] := by rw [hw5]; exact Row.new _ _ _
  have hb45 := bl_trans hb4 hb5
  have hG4 : Q0 < w4.heap.size := Nat.lt_of_lt_of_le ql hb4.size
  have HS5 := Lib.hid (HS3.out.below hb45)
  have HB5 := Lib.hid (HB3.out.trans (hb45.mono (by omega)))
  have r1 := HROW.out.1.below hb45
  have r2 := HROW.out.2.below hb45
  have r3 := HRQ.out.below hb45
  have HRW := Lib.hid (And.intro r1 (And.intro r2 (And.intro r3 rG)))
  clear hb4 hb5 hb45 r1 r2 r3 rG q0 q1 ql hR1 hR2 HS3 HB3 HROW HRQ HD3 HRD3
  go_upto_region 5 with fail
  rw [← hw5]
  obtain ⟨G0, hG0⟩ : ∃ G0, w4.heap.size = G0 := ⟨_, rfl⟩
  rw [hG0] at HRW hG4 ⊢
  clear hw5 hG0
  have a0 := HRW.out.1.cell' (i := 0) rfl
  have a1 := HRW.out.1.cell' (i := 1) rfl
  have g0 := HRW.out.1.froz 0
  have g1 := HRW.out.1.froz 1
  have f0 := HRW.out.2.1.cell' (i := 0) rfl
  have f1 := HRW.out.2.1.cell' (i := 1) rfl
  have f2 := HRW.out.2.1.cell' (i := 2) rfl
  have g3 := HRW.out.2.1.froz 0
  have g4 := HRW.out.2.1.froz 1
  have g5 := HRW.out.2.1.froz 2
  have q0 := HRW.out.2.2.1.cell' (i := 0) rfl
  have q1 := HRW.out.2.2.1.cell' (i := 1) rfl
  have z0 := HRW.out.2.2.2.cell' (i := 0) rfl
  have z1 := HRW.out.2.2.2.cell' (i := 1) rfl
  have z2 := HRW.out.2.2.2.cell' (i := 2) rfl
  have zl := HRW.out.2.2.2.lt
  have ql : Q0 < w5.heap.size := by omega
  have al : P0 < w5.heap.size := by omega
  have fl : P0 + 1 < w5.heap.size := by omega
  have n3 : ¬ G0 = P0 := by omega
  have n4 : ¬ G0 = P0 + 1 := by omega
  have n5 : ¬ G0 = Q0 := by omega
  have HFIN : Hid (∀ w9, Touch (fun y => y = P0 ∨ y = P0 + 1) w5 w9 → SlS w9 w.heap.size (.slice sp2 (parseP s).2.parts.length cap2) (parseP s).2.parts ∧ Below w.heap.size w w9) := Lib.hid (fun w9 ht => by
    rw [HP0.out]
    exact ⟨HSS.out _ _ HS5.out ht, HB5.out.trans (ht.below (by omega) (fun y hy => by rcases hy with h | h <;> omega))⟩)
  clear hG4 hQ3
  go_region
  all_goals
    go_wp2
    rw [← HP.out]
    refine bodyPost_ret (v := .tuple #[.agg #[.slice sp2 (parseP s).2.parts.length cap2, .bool (parseP s).2.slash], .agg #[.int .i64 rd, .int .i64 rn, .string rs], .int .i64 rc]) (by simp [results, Tryz.results87, go_sem, a0, a1, f0, f1, f2]) rfl ⟨⟨_, rfl, (HFIN.out _ ?_).1⟩, (HFIN.out _ ?_).2⟩
    all_goals repeat (first | exact Touch.refl _ _ | refine Touch.setCell ?_ (by first | exact .inl (.inl rfl) | exact .inl (.inr rfl)) _ | refine Touch.drew ?_)
end
end Go.Proofs.YtnkcbogikaebfaaGreatDoor
end

section
/- The document's Unlink, Rmdir. -/
namespace Go.Proofs.YtnkcbogikaebfaaGreatDoor
open Go Go.RowKit
set_option maxRecDepth 100000
set_option linter.unusedSimpArgs false
set_option linter.unusedVariables false
attribute [local go_sem] giv
variable {E : Nat → Addr} {B : Nat}
section
variable {T : Nat → Prop} {w : World} {m : Nat} {st : St} {v : Value} {ms : List MN}
theorem DW.find (h : DW B T w m st v ms) {id : Int} {r : NR} (hr : st.get id = some r) : ∃ (k : Nat) (x : MN), placeM ms id = (k : Int) ∧ k < ms.length ∧ ms[k]? = some x ∧ x.nr = r ∧ st.ns[k]? = some r := by
  rcases place_get h id with ⟨_, h2⟩ | ⟨k, x, h1, h2, h3, h4⟩
  · rw [hr] at h2; cases h2
  · rw [hr] at h4
    injection h4 with h4
    exact ⟨k, x, h1, h2, h3, h4.symm, by rw [← h.eq, List.getElem?_map, h3, h4]; rfl⟩
theorem last_there {st : St} (f : Full st) {s : ByteArray} {d n : Int} {nm : ByteArray} (h : lastS st s = (0, ⟨d, n, nm⟩)) : ∃ x, st.get d = some x ∧ x.nd.kind = 2 ∧ (parseP s).1 = 0 ∧ ((n = 0 ∧ entOf x.ents nm = none) ∨ ∃ e y, entOf x.ents nm = some e ∧ e.node = n ∧ 1 ≤ n ∧ st.get n = some y) := by
  unfold lastS at h
  by_cases hp : (parseP s).1 = 0
  · rw [if_neg (by simp [hp])] at h
    obtain ⟨x, h1, h2, h3⟩ := (lastP_ok h).at'
    refine ⟨x, h1, h2, hp, ?_⟩
    rcases h3 with ⟨h3, h4⟩ | ⟨e, h3, h4, _⟩
    · exact .inl ⟨h3, h4⟩
    · obtain ⟨y, h5, _, h6, _⟩ := entry_node f.toGood h1 h3
      simp only at h4
      rw [h4] at h5 h6
      exact .inr ⟨e, y, h3, h4, h6, h5⟩
  · rw [if_pos hp] at h
    injection h with h
    exact absurd h hp
theorem there_last {st : St} {s : ByteArray} {c d n : Int} {nm : ByteArray} (h : lastS st s = (c, ⟨d, n, nm⟩)) (hp : (parseP s).1 = 0) : lastP st (parseP s).2 = (c, ⟨d, n, nm⟩) := by
  unfold lastS at h
  rwa [if_neg (by simp [hp])] at h
theorem unlink_eq {st : St} {s : ByteArray} {c d n : Int} {nm : ByteArray} (h : lastS st s = (c, ⟨d, n, nm⟩)) : unlinkT st s = if c ≠ 0 then (c, 0, st) else match st.get n with
    | none => (109, 0, st)
    | some x => if x.nd.kind = 2 then (112, 0, st) else (0, x.nd.id, (st.delE d nm).put (setLinks x.nd (max (x.nd.links - 1) 0))) := by
  unfold unlinkT
  simp only
  by_cases hp : (parseP s).1 = 0
  · rw [if_neg (by simp [hp])]
    have hl := there_last h hp
    unfold thereP
    simp only [hl]
    by_cases hc : c = 0
    · subst hc
      simp only [ne_eq, not_true_eq_false, if_false]
      cases st.get n with
      | none => simp
      | some x => simp
    · simp [hc]
  · rw [if_pos hp]
    unfold lastS at h
    rw [if_pos hp] at h
    injection h with h1 h2
    subst h1
    rw [if_pos hp]
theorem rmdir_eq {st : St} {s : ByteArray} {c d n : Int} {nm : ByteArray} (h : lastS st s = (c, ⟨d, n, nm⟩)) : rmdirT st s = if c ≠ 0 then (c, 0, st) else match st.get n with
    | none => (109, 0, st)
    | some x => if x.nd.kind ≠ 2 then (111, 0, st) else if st.full x.nd.id then (113, 0, st) else (0, x.nd.id, (st.delE d nm).drop x.nd.id) := by
  unfold rmdirT
  simp only
  by_cases hp : (parseP s).1 = 0
  · rw [if_neg (by simp [hp])]
    have hl := there_last h hp
    unfold thereP
    simp only [hl]
    by_cases hc : c = 0
    · subst hc
      simp only [ne_eq, not_true_eq_false, if_false]
      cases st.get n with
      | none => simp
      | some x => simp
    · simp [hc]
  · rw [if_pos hp]
    unfold lastS at h
    rw [if_pos hp] at h
    injection h with h1 h2
    subst h1
    rw [if_pos hp]
theorem lastS_noerr {st : St} {s : ByteArray} {c d n : Int} {nm : ByteArray} (h : lastS st s = (c, ⟨d, n, nm⟩)) (hc : c = 0) : lastS st s = (0, ⟨d, n, nm⟩) := by rw [h, hc]
/-- A name taken from a directory, a node's links put anew: in places. -/
theorem del_put {st : St} (f : Full st) {d : Int} {x r : NR} {kd k : Nat} {nm : ByteArray} {id : Int} (hd : st.get d = some x) (hkd : st.ns[kd]? = some x) (hr : st.get id = some r) (hk : st.ns[k]? = some r) (hne : kd ≠ k) (l : Int) (hf : r.nd.kind ≠ 2) :
    ((st.ns.set kd ⟨x.nd, cutE nm x.ents⟩).set k ⟨setLinks r.nd l, r.ents⟩) = ((st.delE d nm).put (setLinks r.nd l)).ns ∧ st.last = ((st.delE d nm).put (setLinks r.nd l)).last := by
  have h1 : (st.delE d nm).ns = st.ns.set kd ⟨x.nd, cutE nm x.ents⟩ := by
    rw [delE_eq]
    exact onR_set f.rise hkd (findN_id hd) _
  have h2 : RiseN (st.delE d nm).ns := onR_rise f.rise
  constructor
  · show _ = putN _ (st.delE d nm).ns
    rw [h1] at h2 ⊢
    have h3 : (st.ns.set kd ⟨x.nd, cutE nm x.ents⟩)[k]? = some r := by rw [List.getElem?_set_ne hne]; exact hk
    rw [putN_set (n := setLinks r.nd l) h2 h3 rfl, if_neg (fun h => hf h.2), f.flat r (List.mem_of_getElem? hk) hf]
  · show st.last = max st.last r.nd.id
    have := f.ids r (List.mem_of_getElem? hk)
    omega
def DUnlR (B : Nat) (T : Nat → Prop) (m : Nat) (R : Int × Int × St) (w : World) (e : Ending) (w' : World) : Prop := e = .returned (.tuple #[.int .i64 R.2.1, .int .i64 R.1]) ∧ MO B T m R.2.2 w w'
set_option maxHeartbeats 4000000 in
theorem munlink_any (h : MW B T w m st) (f : Full st) (s : ByteArray) : Calls Tryz.prog 44 #[.pointer (some ⟨m, 0, none⟩), .string s] w (DUnlR B T m (unlinkT st s) w) := by
  obtain ⟨v, ms, hD⟩ := h
  have HD := Lib.hid hD
  have HF := Lib.hid f
  have HN := Lib.hid (hD.few f)
  obtain ⟨R, hR⟩ : ∃ R, unlinkT st s = R := ⟨_, rfl⟩
  rw [hR]
  obtain ⟨c, d, n, nm, hL⟩ : ∃ c d n nm, lastS st s = (c, ⟨d, n, nm⟩) := ⟨_, _, _, _, rfl⟩
  rw [unlink_eq hL] at hR
  have HR := Lib.hid hR
  have HL := Lib.hid hL
  generalize hP : DUnlR B T m R w = Post
  have HP := Lib.hid hP
  clear hP hD f hR hL
  go_enter Tryz.func44, Tryz.ntmps44
  go_wp2_with fail
  refine (dlast_any HD.out HF.out s).mono ?_
  rintro e w2 ⟨⟨pv, rfl, hs2⟩, hb2⟩
  obtain ⟨sp2, n2, cp2, rfl⟩ := slShape3 hs2
  rw [HL.out]
  simp only [fndV]
  obtain ⟨ps, hps⟩ : ∃ ps, (parseP s).2.slash = ps := ⟨_, rfl⟩
  rw [hps]
  obtain ⟨w3, hw3⟩ : ∃ w3, w3 = (w2.alloc (.cells #[.slice sp2 n2 cp2, .bool ps] 116)).alloc (.cells #[.int .i64 d, .int .i64 n, .string nm] 120) := ⟨_, rfl⟩
  have hb3 : Below w2.heap.size w2 w3 := by rw [hw3]; exact bl_alloc (bl_alloc (Below.refl _ _) _) _
  have rF : Row w3 (w2.heap.size + 1) 120 [.int .i64 d, .int .i64 n, .string nm] := by
    have := Row.new (w2.alloc (.cells #[.slice sp2 n2 cp2, .bool ps] 116)) 120 [.int .i64 d, .int .i64 n, .string nm]
    rw [hw3]
    simpa using this
  have HB3 := Lib.hid (bl_trans hb2 hb3)
  have hz2 := hb2.size
  have HF3 := Lib.hid rF
  go_upto_region 2 with fail
  rw [← hw3]
  obtain ⟨F0, hF0⟩ : ∃ F0, w2.heap.size = F0 := ⟨_, rfl⟩
  rw [hF0] at hz2 HF3
  try rw [hF0]
  clear hs2 hb2 hb3 hw3 hps rF hF0
  have HD3 := Lib.hid (HD.out.below HB3.out)
  have y0 := HF3.out.cell' (i := 0) rfl
  have y1 := HF3.out.cell' (i := 1) rfl
  have y2 := HF3.out.cell' (i := 2) rfl
  have yl := HF3.out.lt
  have hR1 := HR.out
  by_cases hc : c = 0
  case neg =>
    as_aux_lemma =>
    have hcb : (c != 0) = true := by rw [bne_iff_ne]; exact hc
    rw [if_pos hc] at hR1
    have HRF := Lib.hid hR1.symm
    clear hc hR1
    go_wp2
    first | go_ret2 | skip
    rw [← HP.out]
    unfold DUnlR
    rw [HRF.out]
    exact ⟨rfl, MO.still ⟨v, ms, HD.out⟩ HB3.out⟩
  subst hc
  rw [if_neg (by decide)] at hR1
  obtain ⟨x, hx1, hx2, hx3, hx4⟩ := last_there HF.out HL.out
  rcases hx4 with ⟨rfl, hx5⟩ | ⟨en, r, hx5, hx6, hx7, hx8⟩
  · as_aux_lemma =>
    rw [HF.out.toGood.no (k := 0) (.inr (by omega))] at hR1
    have HRF := Lib.hid hR1.symm
    clear hR1 hx1 hx2 hx5
    go_wp2
    first | go_ret2 | skip
    rw [← HP.out]
    unfold DUnlR
    rw [HRF.out]
    exact ⟨rfl, MO.still ⟨v, ms, HD.out⟩ HB3.out⟩
  rw [hx8] at hR1
  simp only at hR1
  have hnb : (n == 0) = false := by rw [beq_eq_false_iff_ne]; omega
  obtain ⟨k, xk, k1, k2, k3, k4, k5⟩ := HD3.out.find hx8
  obtain ⟨kd, xd, d1, d2, d3, d4, d5⟩ := HD3.out.find hx1
  obtain ⟨g, cap, hv, hg⟩ := HD3.out.block (by rintro rfl; simp at k2)
  have ck := HD3.out.cell hv (j := 1) k3 (by omega)
  rw [(encM_get xk).2.1, k4] at ck
  obtain ⟨kk, hkk⟩ : ∃ kk, r.nd.kind = kk := ⟨_, rfl⟩
  rw [hkk] at ck hR1
  have K1 := Lib.hid k1
  have HV := Lib.hid hv
  by_cases hk2 : kk = 2
  case pos =>
    as_aux_lemma =>
    subst hk2
    rw [if_pos rfl] at hR1
    have HRF := Lib.hid hR1.symm
    clear hR1 hx1 hx2 hx5 hx8 k1 k3 k4 k5 d1 d3 d4 d5 hv hkk
    go_wp2_with fail
    refine (dget_some HD3.out (by have := HN.out.1; omega) n K1.out k2 HV.out).mono ?_
    rintro e w4 ⟨rfl, rfl⟩
    go_wp2
    first | go_ret2 | skip
    rw [← HP.out]
    unfold DUnlR
    rw [HRF.out]
    exact ⟨rfl, MO.still ⟨v, ms, HD.out⟩ HB3.out⟩
  as_aux_lemma =>
  rw [if_neg hk2] at hR1
  have hkb : (kk == 2) = false := by rw [beq_eq_false_iff_ne]; exact hk2
  have hne : kd ≠ k := by
    rintro rfl
    rw [k5] at d5
    injection d5 with d5
    rw [d5] at hkk
    omega
  have hval := valid_lk (HF.out.val r (findN_mem hx8))
  have hcnt := HF.out.cnt n r hx8
  have hpos := names_pos (s := st) (findN_mem hx1) (entOf_mem hx5)
  rw [hx6] at hpos
  have hl1 : 1 ≤ r.nd.links := by rw [hcnt]; omega
  have hmax : max (r.nd.links - 1) 0 = r.nd.links - 1 := by omega
  rw [hmax] at hR1
  have hid := findN_id hx8
  have HRF := Lib.hid hR1.symm
  have HPUT := Lib.hid (del_put HF.out (nm := nm) hx1 d5 hx8 k5 hne (r.nd.links - 1) (by rw [hkk]; exact hk2))
  have HDEL := Lib.hid (mdel_any HD3.out HN.out.1 d1 d3 (by rw [d4]; have := (HN.out.2 xd (List.mem_of_getElem? d3)); rw [d4] at this; exact this) (by rw [d4]; exact HF.out.erise x (findN_mem hx1)) nm (en := en) (by rw [d4]; exact hx5))
  have HK := Lib.hid (And.intro k3 (And.intro k4 (And.intro d3 (And.intro d4 hne))))
  obtain ⟨lk, hlk⟩ : ∃ lk, r.nd.links = lk := ⟨_, rfl⟩
  rw [hlk] at hval hl1
  have HLK := Lib.hid hlk
  have HID := Lib.hid hid
  have hgF : ¬ g = F0 + 1 := by
    have := (HD.out.lt g (HD.out.own g (by rw [hv]; rfl)).1).2
    omega
  clear hR1 hx1 hx2 hx5 hx6 hx8 k1 k3 k4 k5 d1 d3 d4 d5 hv hkk hk2 hne hcnt hpos hmax hid hlk
  go_wp2_with fail
  refine (dget_some HD3.out (by have := HN.out.1; omega) n K1.out k2 HV.out).mono ?_
  rintro e w4 ⟨rfl, rfl⟩
  go_wp2_with fail
  refine HDEL.out.mono ?_
  rintro e w5 ⟨rfl, y, q1, q2, q3, q4⟩
  have hk5 : (ms.set kd y)[k]? = some xk := by rw [List.getElem?_set_ne HK.out.2.2.2.2]; exact HK.out.1
  have c2 := q3.cell HV.out (j := 2) hk5 (by omega)
  rw [(encM_get xk).2.2.1, HK.out.2.1, HLK.out] at c2
  have f2 : w5.frozen? ⟨g, k * 199 + 2, none⟩ = false := q3.sl.froz (by rw [HV.out]; rfl) _
  have z1 : w5.cell? ⟨F0 + 1, 1, none⟩ = some (.int .i64 n) := by
    rw [q4.cell (p := ⟨F0 + 1, 1, none⟩) yl (by rw [HV.out]; intro e; simp [Value.ownBlock] at e; exact hgF e)]
    exact y1
  have hset := q3.put (y := ⟨⟨setLinks xk.nr.nd (lk - 1), xk.nr.ents⟩, xk.sp, xk.cap, xk.rest⟩) (u := .int .i64 (lk - 1)) (j := 2) (st' := R.2.2) HV.out hk5 (by omega) rfl ((q3.ents xk (List.mem_of_getElem? hk5)))
    (by
      rw [HRF.out]
      simp only
      rw [← HLK.out, ← HPUT.out.1, List.map_set, List.map_set, HD3.out.eq, q1, HK.out.2.2.2.1]
      simp only [HK.out.2.1]) (by rw [HRF.out]; exact HPUT.out.2.symm)
  have HSET := Lib.hid hset
  have HQ4 := Lib.hid q4
  have zl : F0 + 1 < w5.heap.size := Nat.lt_of_lt_of_le yl q4.size
  clear q1 q2 q3 q4 hk5 hset y0 y1 y2 ck
  go_wp2
  first | go_ret2 | skip
  rw [← HP.out]
  unfold DUnlR
  have hT : ∀ z, v.ownBlock = some z → T z := fun z hz => (HD.out.own z hz).1
  refine ⟨by rw [HRF.out]; simp only; rw [HID.out]; first | done | rfl, ?_⟩
  refine MO.pre ⟨v, ms, HD.out⟩ HB3.out (MO.of_dw (HSET.out.1.wide (fun z hz => ?_) (fun z hz => HSET.out.1.lt z ?_)) ?_)
  · rcases hz with hz | hz
    · exact .inl hz
    · exact .inr (by simpa using hz)
  · rcases hz with hz | hz
    · exact .inl hz
    · exact .inr (by simpa using hz)
  · exact (HQ4.out.mono (fun z hz _ => hT z hz)).trans HSET.out.2 (fun z hz _ => by rw [hz]; exact hT g (by rw [HV.out]; rfl))
theorem place_at {ms : List MN} (hr : RiseN (ms.map MN.nr)) {k : Nat} {x : MN} (hk : ms[k]? = some x) {id : Int} (hid : x.nr.nd.id = id) : placeM ms id = (k : Int) := by
  unfold placeM
  rcases idxM_spec (id := id) ms 0 with ⟨_, h2⟩ | ⟨j, y, h1, h2, h3, h4⟩
  · exact absurd hid (h2 x (List.mem_of_getElem? hk))
  · rw [h1]
    have hjk : j = k := by
      obtain ⟨j1, j2⟩ := List.getElem?_eq_some_iff.1 h2
      obtain ⟨k1, k2⟩ := List.getElem?_eq_some_iff.1 hk
      have hp := List.pairwise_iff_getElem.1 hr
      rcases Nat.lt_trichotomy j k with h | h | h
      · have := hp j k (by simpa using j1) (by simpa using k1) h
        simp only [List.getElem_map, j2, k2] at this
        omega
      · exact h
      · have := hp k j (by simpa using k1) (by simpa using j1) h
        simp only [List.getElem_map, j2, k2] at this
        omega
    rw [hjk]
    simp
theorem place_set_rise {st : St} (f : Full st) {ms : List MN} {kd : Nat} {xd : MN} {x : NR} {l : List En} (hx : ms[kd]? = some xd) (he : xd.nr = x) (heq : ms.map MN.nr = st.ns) : RiseN (st.ns.set kd ⟨x.nd, l⟩) := by
  have hk : st.ns[kd]? = some x := by rw [← heq, List.getElem?_map, hx, ← he]; rfl
  have h1 := onR_set f.rise hk rfl (fun _ => l)
  have h2 : RiseN (onR x.nd.id (fun _ => l) st.ns) := onR_rise f.rise
  rw [h1] at h2
  exact h2
theorem mgone_of {st2 : St} (h : DW B T w m st2 v ms) (hn : ms.length ≤ 512) {id : Int} {k : Nat} (hk : placeM ms id = (k : Int)) (hkl : k < ms.length) :
    Calls Tryz.prog 54 #[.pointer (some ⟨m, 0, none⟩), .int .i64 id] w fun e w' => e = .returned (.tuple #[]) ∧ DGone B T w m st2 ms k w' := dgone_any h hn id hk hkl
/-- A name taken from a directory, its node gone: in places. -/
theorem del_drop {st : St} (f : Full st) {d : Int} {x r : NR} {kd k : Nat} {nm : ByteArray} {id : Int} (hd : st.get d = some x) (hkd : st.ns[kd]? = some x) (hr : st.get id = some r) (hk : st.ns[k]? = some r) (hne : kd ≠ k) :
    ((st.ns.set kd ⟨x.nd, cutE nm x.ents⟩).take k ++ (st.ns.set kd ⟨x.nd, cutE nm x.ents⟩).drop (k + 1)) = ((st.delE d nm).drop id).ns := by
  have h1 : (st.delE d nm).ns = st.ns.set kd ⟨x.nd, cutE nm x.ents⟩ := by
    rw [delE_eq]
    exact onR_set f.rise hkd (findN_id hd) _
  have h2 : RiseN (st.delE d nm).ns := onR_rise f.rise
  show _ = (st.delE d nm).ns.filter _
  rw [h1] at h2 ⊢
  exact (dropN_at h2 (by rw [List.getElem?_set_ne hne]; exact hk) (findN_id hr)).symm
set_option maxHeartbeats 4000000 in
theorem mrmdir_any (h : MW B T w m st) (f : Full st) (s : ByteArray) : Calls Tryz.prog 46 #[.pointer (some ⟨m, 0, none⟩), .string s] w (DUnlR B T m (rmdirT st s) w) := by
  obtain ⟨v, ms, hD⟩ := h
  have HD := Lib.hid hD
  have HF := Lib.hid f
  have HN := Lib.hid (hD.few f)
  obtain ⟨R, hR⟩ : ∃ R, rmdirT st s = R := ⟨_, rfl⟩
  rw [hR]
  obtain ⟨c, d, n, nm, hL⟩ : ∃ c d n nm, lastS st s = (c, ⟨d, n, nm⟩) := ⟨_, _, _, _, rfl⟩
  rw [rmdir_eq hL] at hR
  have HR := Lib.hid hR
  have HL := Lib.hid hL
  generalize hP : DUnlR B T m R w = Post
  have HP := Lib.hid hP
  clear hP hD f hR hL
  go_enter Tryz.func46, Tryz.ntmps46
  go_wp2_with fail
  refine (dlast_any HD.out HF.out s).mono ?_
  rintro e w2 ⟨⟨pv, rfl, hs2⟩, hb2⟩
  obtain ⟨sp2, n2, cp2, rfl⟩ := slShape3 hs2
  rw [HL.out]
  simp only [fndV]
  obtain ⟨ps, hps⟩ : ∃ ps, (parseP s).2.slash = ps := ⟨_, rfl⟩
  rw [hps]
  obtain ⟨w3, hw3⟩ : ∃ w3, w3 = (w2.alloc (.cells #[.slice sp2 n2 cp2, .bool ps] 116)).alloc (.cells #[.int .i64 d, .int .i64 n, .string nm] 120) := ⟨_, rfl⟩
  have hb3 : Below w2.heap.size w2 w3 := by rw [hw3]; exact bl_alloc (bl_alloc (Below.refl _ _) _) _
  have rF : Row w3 (w2.heap.size + 1) 120 [.int .i64 d, .int .i64 n, .string nm] := by
    have := Row.new (w2.alloc (.cells #[.slice sp2 n2 cp2, .bool ps] 116)) 120 [.int .i64 d, .int .i64 n, .string nm]
    rw [hw3]
    simpa using this
  have HB3 := Lib.hid (bl_trans hb2 hb3)
  have hz2 := hb2.size
  have HF3 := Lib.hid rF
  go_upto_region 2 with fail
  rw [← hw3]
  obtain ⟨F0, hF0⟩ : ∃ F0, w2.heap.size = F0 := ⟨_, rfl⟩
  rw [hF0] at hz2 HF3
  try rw [hF0]
  clear hs2 hb2 hb3 hw3 hps rF hF0
  have HD3 := Lib.hid (HD.out.below HB3.out)
  have y0 := HF3.out.cell' (i := 0) rfl
  have y1 := HF3.out.cell' (i := 1) rfl
  have y2 := HF3.out.cell' (i := 2) rfl
  have yl := HF3.out.lt
  have hR1 := HR.out
  by_cases hc : c = 0
  case neg =>
    as_aux_lemma =>
    have hcb : (c != 0) = true := by rw [bne_iff_ne]; exact hc
    rw [if_pos hc] at hR1
    have HRF := Lib.hid hR1.symm
    clear hc hR1
    go_wp2
    first | go_ret2 | skip
    rw [← HP.out]
    unfold DUnlR
    rw [HRF.out]
    exact ⟨rfl, MO.still ⟨v, ms, HD.out⟩ HB3.out⟩
  subst hc
  rw [if_neg (by decide)] at hR1
  obtain ⟨x, hx1, hx2, hx3, hx4⟩ := last_there HF.out HL.out
  rcases hx4 with ⟨rfl, hx5⟩ | ⟨en, r, hx5, hx6, hx7, hx8⟩
  · as_aux_lemma =>
    rw [HF.out.toGood.no (k := 0) (.inr (by omega))] at hR1
    have HRF := Lib.hid hR1.symm
    clear hR1 hx1 hx2 hx5
    go_wp2
    first | go_ret2 | skip
    rw [← HP.out]
    unfold DUnlR
    rw [HRF.out]
    exact ⟨rfl, MO.still ⟨v, ms, HD.out⟩ HB3.out⟩
  rw [hx8] at hR1
  simp only at hR1
  have hnb : (n == 0) = false := by rw [beq_eq_false_iff_ne]; omega
  obtain ⟨k, xk, k1, k2, k3, k4, k5⟩ := HD3.out.find hx8
  obtain ⟨kd, xd, d1, d2, d3, d4, d5⟩ := HD3.out.find hx1
  obtain ⟨g, cap, hv, hg⟩ := HD3.out.block (by rintro rfl; simp at k2)
  have ck := HD3.out.cell hv (j := 1) k3 (by omega)
  rw [(encM_get xk).2.1, k4] at ck
  obtain ⟨kk, hkk⟩ : ∃ kk, r.nd.kind = kk := ⟨_, rfl⟩
  rw [hkk] at ck hR1
  have K1 := Lib.hid k1
  have HV := Lib.hid hv
  by_cases hk2 : kk = 2
  case neg =>
    as_aux_lemma =>
    have hkb : (kk != 2) = true := by rw [bne_iff_ne]; exact hk2
    rw [if_pos hk2] at hR1
    have HRF := Lib.hid hR1.symm
    clear hR1 hx1 hx2 hx5 hx8 k1 k3 k4 k5 d1 d3 d4 d5 hv hkk hk2
    go_wp2_with fail
    refine (dget_some HD3.out (by have := HN.out.1; omega) n K1.out k2 HV.out).mono ?_
    rintro e w4 ⟨rfl, rfl⟩
    go_wp2
    first | go_ret2 | skip
    rw [← HP.out]
    unfold DUnlR
    rw [HRF.out]
    exact ⟨rfl, MO.still ⟨v, ms, HD.out⟩ HB3.out⟩
  subst hk2
  rw [if_neg (by decide)] at hR1
  have hid := findN_id hx8
  have hfull : st.full r.nd.id = !r.ents.isEmpty := by
    unfold St.full
    rw [hid, dirOf_of hx8 hkk]
  have ce := HD3.out.cell hv (j := 6) k3 (by omega)
  rw [(encM_get xk).2.2.2.2.2.2] at ce
  unfold MN.ev at ce
  rw [k4] at ce
  by_cases hen : r.ents = []
  case neg =>
    as_aux_lemma =>
    rw [hfull, if_pos (by cases hh : r.ents with | nil => exact absurd hh hen | cons a l => rfl)] at hR1
    have HRF := Lib.hid hR1.symm
    have hl0 : ((r.ents.length : Int) > 0) := by have := List.length_pos_iff.2 hen; omega
    clear hR1 hx1 hx2 hx5 hx8 k1 k3 k4 k5 d1 d3 d4 d5 hv hkk hen hfull hid
    go_wp2_with fail
    refine (dget_some HD3.out (by have := HN.out.1; omega) n K1.out k2 HV.out).mono ?_
    rintro e w4 ⟨rfl, rfl⟩
    go_wp2
    first | go_ret2 | skip
    rw [← HP.out]
    unfold DUnlR
    rw [HRF.out]
    exact ⟨rfl, MO.still ⟨v, ms, HD.out⟩ HB3.out⟩
  as_aux_lemma =>
  rw [hfull, hen, if_neg (by simp)] at hR1
  have hl0 : ¬ ((r.ents.length : Int) > 0) := by rw [hen]; simp
  have hne : kd ≠ k := by
    rintro rfl
    rw [k5] at d5
    injection d5 with d5
    rw [← d5, hen] at hx5
    cases hx5
  have HRF := Lib.hid hR1.symm
  rw [hid] at HRF
  have HDROP := Lib.hid (del_drop HF.out (nm := nm) hx1 d5 hx8 k5 hne)
  have HDEL := Lib.hid (mdel_any HD3.out HN.out.1 d1 d3 (by rw [d4]; have := (HN.out.2 xd (List.mem_of_getElem? d3)); rw [d4] at this; exact this) (by rw [d4]; exact HF.out.erise x (findN_mem hx1)) nm (en := en) (by rw [d4]; exact hx5))
  have HK := Lib.hid (And.intro k3 (And.intro k4 (And.intro d3 (And.intro d4 hne))))
  have hgF : ¬ g = F0 + 1 := by
    have := (HD.out.lt g (HD.out.own g (by rw [hv]; rfl)).1).2
    omega
  have hmF : ¬ m = F0 + 1 := by
    have := (HD.out.lt m HD.out.tm).2
    omega
  have HX8 := Lib.hid hx8
  have HID2 := Lib.hid hid
  clear hR1 hx1 hx2 hx5 hx6 hx8 k1 k3 k4 k5 d1 d3 d4 d5 hv hkk hne hid hfull hen
  go_wp2_with fail
  refine (dget_some HD3.out (by have := HN.out.1; omega) n K1.out k2 HV.out).mono ?_
  rintro e w4 ⟨rfl, rfl⟩
  go_wp2_with fail
  refine HDEL.out.mono ?_
  rintro e w5 ⟨rfl, y, q1, q2, q3, q4⟩
  have hk5 : (ms.set kd y)[k]? = some xk := by rw [List.getElem?_set_ne HK.out.2.2.2.2]; exact HK.out.1
  have z1 : w5.cell? ⟨F0 + 1, 1, none⟩ = some (.int .i64 n) := by
    rw [q4.cell (p := ⟨F0 + 1, 1, none⟩) yl (by rw [HV.out]; intro e; simp [Value.ownBlock] at e; exact hgF e)]
    exact y1
  have zl : F0 + 1 < w5.heap.size := Nat.lt_of_lt_of_le yl q4.size
  have hpl : placeM (ms.set kd y) n = (k : Int) := by
    have hrise : RiseN ((ms.set kd y).map MN.nr) := by
      rw [List.map_set, HD3.out.eq, q1, HK.out.2.2.2.1]
      exact place_set_rise HF.out HK.out.2.2.1 HK.out.2.2.2.1 HD3.out.eq
    exact place_at hrise hk5 (by rw [HK.out.2.1]; exact HID2.out)
  have HGO := Lib.hid (mgone_of q3 (by rw [List.length_set]; exact HN.out.1) hpl (by rw [List.length_set]; exact k2))
  have HQ := Lib.hid (And.intro q1 (And.intro q3 q4))
  clear q1 q2 q3 q4 hk5 y0 y1 y2 ck ce hpl
  go_wp2_with fail
  refine HGO.out.mono ?_
  rintro e w6 ⟨rfl, v6, s1, s2⟩
  have z6 : w6.cell? ⟨F0 + 1, 1, none⟩ = some (.int .i64 n) := (s2.cell (p := ⟨F0 + 1, 1, none⟩) zl (fun e => hmF e.symm)).trans z1
  have HS1 := Lib.hid s1
  have HS2 := Lib.hid s2
  clear s1 s2 z1
  go_wp2
  first | go_ret2 | skip
  rw [← HP.out]
  unfold DUnlR
  have hT : ∀ z, v.ownBlock = some z → T z := fun z hz => (HD.out.own z hz).1
  refine ⟨by rw [HRF.out]; first | done | rfl, ?_⟩
  have hst : (⟨st.last, ((ms.set kd y).take k ++ (ms.set kd y).drop (k + 1)).map MN.nr⟩ : St) = R.2.2 := by
    rw [HRF.out]
    simp only
    rw [List.map_append, List.map_take, List.map_drop, List.map_set, HD3.out.eq, HQ.out.1, HK.out.2.2.2.1, HDROP.out]
    rfl
  rw [← hst]
  refine MO.pre ⟨v, ms, HD.out⟩ HB3.out (MO.trans (MO.of_dw HQ.out.2.1 (HQ.out.2.2.mono (fun z hz _ => hT z hz))) (MO.of_dw HS1.out (HS2.out.mono (fun z hz _ => by rw [hz]; exact .inl HD.out.tm))))
end
end Go.Proofs.YtnkcbogikaebfaaGreatDoor
end

section
/- The document's writes, each as the plain tree has it, also where a tree is between two acts. -/
namespace Go.Proofs.YtnkcbogikaebfaaGreatDoor
open Go Go.RowKit
set_option maxRecDepth 100000
set_option linter.unusedSimpArgs false
set_option linter.unusedVariables false
variable {E : Nat → Addr} {B : Nat}
structure Tid (st : St) : Prop where
  rise : RiseN st.ns
  flat : ∀ r ∈ st.ns, r.nd.kind ≠ 2 → r.ents = []
  ids : ∀ r ∈ st.ns, r.nd.id ≤ st.last
  len : st.ns.length ≤ 512
structure Tidy (st : St) : Prop extends Tid st where
  erise : ∀ r ∈ st.ns, RiseE r.ents
  few : ∀ r ∈ st.ns, r.ents.length ≤ 8192
theorem Tidy.of {st : St} (a : RiseN st.ns) (b : ∀ r ∈ st.ns, r.nd.kind ≠ 2 → r.ents = []) (c : ∀ r ∈ st.ns, r.nd.id ≤ st.last) (d : ∀ r ∈ st.ns, RiseE r.ents) (e : st.ns.length ≤ 512) (f : ∀ r ∈ st.ns, r.ents.length ≤ 8192) : Tidy st := ⟨⟨a, b, c, e⟩, d, f⟩
theorem Full.tidy {st : St} (f : Full st) : Tidy st :=
  Tidy.of f.rise f.flat f.ids f.erise f.len fun r hr => Nat.le_trans (le_sum_mem (List.mem_map_of_mem (f := fun r : NR => r.ents.length) hr)) (cnt_le f)
theorem cutE_le (n : ByteArray) (l : List En) : (cutE n l).length ≤ l.length := List.length_filter_le _ _
theorem Tidy.delE {st : St} (t : Tidy st) (d : Int) (n : ByteArray) : Tidy (st.delE d n) := by
  have hm : ∀ r ∈ (st.delE d n).ns, ∃ x ∈ st.ns, r.nd = x.nd ∧ (r.ents = cutE n x.ents ∨ r.ents = x.ents) := fun r hr => by
    rw [delE_eq] at hr
    obtain ⟨x, h1, h2, h3⟩ := onR_mem hr
    rcases h3 with ⟨_, h3⟩ | ⟨_, h3⟩
    · exact ⟨x, h1, h2, .inl h3⟩
    · exact ⟨x, h1, h2, .inr h3⟩
  refine Tidy.of (by rw [delE_eq]; exact onR_rise t.rise) (fun r hr hk => ?_) (fun r hr => ?_) (fun r hr => ?_) (by rw [delE_eq]; show (onR _ _ _).length ≤ _; rw [onR_length]; exact t.len) (fun r hr => ?_)
  all_goals obtain ⟨x, h1, h2, h3⟩ := hm r hr
  · have := t.flat x h1 (by rw [← h2]; exact hk)
    rcases h3 with h3 | h3 <;> rw [h3, this]
    rfl
  · rw [h2]; exact t.ids x h1
  · rcases h3 with h3 | h3 <;> rw [h3]
    · exact cutE_rise (t.erise x h1)
    · exact t.erise x h1
  · rcases h3 with h3 | h3 <;> rw [h3]
    · exact Nat.le_trans (cutE_le _ _) (t.few x h1)
    · exact t.few x h1
/-- A node that is there, put anew with its kind. -/
theorem Tid.put_eq {st : St} (t : Tid st) {id : Int} {r : NR} {k : Nat} (hr : st.get id = some r) (hk : st.ns[k]? = some r) {n : Nd} (hid : n.id = r.nd.id) (hkd : n.kind = r.nd.kind) : st.put n = ⟨st.last, st.ns.set k ⟨n, r.ents⟩⟩ := by
  have h1 := t.ids r (List.mem_of_getElem? hk)
  have h2 : max st.last n.id = st.last := by rw [hid]; omega
  have h3 := putN_set (n := n) t.rise hk hid.symm
  have h4 : (if n.kind = 2 ∧ r.nd.kind = 2 then r.ents else []) = r.ents := by
    by_cases h : r.nd.kind = 2
    · rw [if_pos ⟨by rw [hkd]; exact h, h⟩]
    · rw [if_neg (fun h' => h h'.2), t.flat r (List.mem_of_getElem? hk) h]
  rw [h4] at h3
  show (⟨max st.last n.id, putN n st.ns⟩ : St) = _
  rw [h2, h3]
theorem Tidy.put {st : St} (t : Tidy st) {id : Int} {r : NR} (hr : st.get id = some r) {n : Nd} (hid : n.id = r.nd.id) (hkd : n.kind = r.nd.kind) : Tidy (st.put n) := by
  obtain ⟨k, hk⟩ := List.getElem?_of_mem (findN_mem hr)
  have hp := putN_rise (n := n) t.rise
  rw [t.put_eq hr hk hid hkd]
  have hm : ∀ x ∈ st.ns.set k ⟨n, r.ents⟩, x ∈ st.ns ∨ x = ⟨n, r.ents⟩ := fun x hx => List.mem_or_eq_of_mem_set hx
  have hrm := findN_mem hr
  refine Tidy.of ?_ (fun x hx hxk => ?_) (fun x hx => ?_) (fun x hx => ?_) (by simp only [List.length_set]; exact t.len) (fun x hx => ?_)
  · have h1 : (st.put n).ns = putN n st.ns := rfl
    rw [t.put_eq hr hk hid hkd] at h1
    simp only at h1
    rw [h1]
    exact hp
  all_goals rcases hm x hx with h | h
  · exact t.flat x h hxk
  · subst h; exact t.flat r hrm (by rw [← hkd]; exact hxk)
  · exact t.ids x h
  · subst h; simp only; rw [hid]; exact t.ids r hrm
  · exact t.erise x h
  · subst h; exact t.erise r hrm
  · exact t.few x h
  · subst h; exact t.few r hrm
theorem Tid.addE {st : St} (t : Tid st) {d : Int} {x : NR} (hd : st.get d = some x) (hk : x.nd.kind = 2) (e : En) : Tid (st.addE d e) := by
  have hm : ∀ r ∈ (st.addE d e).ns, ∃ y ∈ st.ns, r.nd = y.nd ∧ ((y.nd.id = d) ∨ r.ents = y.ents) := fun r hr => by
    obtain ⟨y, h1, h2, h3⟩ := onR_mem hr
    rcases h3 with ⟨h3, _⟩ | ⟨_, h3⟩
    · exact ⟨y, h1, h2, .inl h3⟩
    · exact ⟨y, h1, h2, .inr h3⟩
  refine ⟨onR_rise t.rise, fun r hr hkr => ?_, fun r hr => ?_, by show (onR _ _ _).length ≤ _; rw [onR_length]; exact t.len⟩
  · obtain ⟨y, h1, h2, h3⟩ := hm r hr
    rcases h3 with h3 | h3
    · exfalso
      have h4 := findN_of_mem t.rise h1
      rw [h3] at h4
      have h5 : x = y := by
        have h6 : findN st.ns d = some x := hd
        rw [h4] at h6
        injection h6 with h6
        exact h6.symm
      exact hkr (by rw [h2, ← h5]; exact hk)
    · rw [h3]; exact t.flat y h1 (by rw [← h2]; exact hkr)
  · obtain ⟨y, h1, h2, _⟩ := hm r hr
    rw [h2]
    exact t.ids y h1
section
variable {T : Nat → Prop} {w : World} {m : Nat} {st : St} {v : Value} {ms : List MN}
theorem DW.small (h : DW B T w m st v ms) (t : Tid st) : ms.length ≤ 512 := by rw [← h.len]; exact t.len
theorem DW.fewT (h : DW B T w m st v ms) (t : Tidy st) {k : Nat} {x : MN} (hk : ms[k]? = some x) : x.nr.ents.length ≤ 8192 :=
  t.few x.nr (by rw [← h.eq]; exact List.mem_map_of_mem (List.mem_of_getElem? hk))
/-- Two trees that are the same. -/
theorem MO.st_eq {st' : St} {w' : World} (h : MO B T m st w w') (e : st = st') : MO B T m st' w w' := e ▸ h
theorem mdel_st (h : MW B T w m st) (t : Tidy st) {d : Int} {x : NR} (hd : st.get d = some x) (nm : ByteArray) {en : En} (hen : entOf x.ents nm = some en) :
    Calls Tryz.prog 53 #[.pointer (some ⟨m, 0, none⟩), .int .i64 d, .string nm] w fun e w' => e = .returned (.tuple #[]) ∧ MO B T m (st.delE d nm) w w' := by
  obtain ⟨v, ms, hD⟩ := h
  obtain ⟨k, xk, k1, k2, k3, k4, k5⟩ := hD.find hd
  refine (mdel_any hD (hD.small t.toTid) k1 k3 (hD.fewT t k3) (by rw [k4]; exact t.erise x (findN_mem hd)) nm (en := en) (by rw [k4]; exact hen)).mono ?_
  rintro e w' ⟨he, y, h1, _, h2, h3⟩
  refine ⟨he, (MO.of_dw h2 (h3.mono fun z hz _ => (hD.own z hz).1)).st_eq ?_⟩
  rw [delE_eq, List.map_set, hD.eq, h1, k4, onR_set t.rise k5 (findN_id hd)]
theorem madd_st (h : MW B T w m st) (t : Tidy st) {d : Int} {x : NR} (hd : st.get d = some x) (e : En) (hno : entOf x.ents e.name = none) :
    Calls Tryz.prog 55 #[.pointer (some ⟨m, 0, none⟩), .int .i64 d, encE e] w fun r w' => r = .returned (.tuple #[]) ∧ MO B T m (st.addE d e) w w' := by
  obtain ⟨v, ms, hD⟩ := h
  obtain ⟨k, xk, k1, k2, k3, k4, k5⟩ := hD.find hd
  refine (madd_any hD (hD.small t.toTid) k1 k3 (hD.fewT t k3) e (by rw [k4]; exact hno)).mono ?_
  rintro r w' ⟨he, y, h1, _, h2, h3⟩
  refine ⟨he, (MO.of_dw h2 (h3.mono fun z hz _ => (hD.own z hz).1)).st_eq ?_⟩
  unfold St.addE
  rw [List.map_set, hD.eq, h1, k4, onR_set t.rise k5 (findN_id hd)]
theorem mgone_st (h : MW B T w m st) (t : Tid st) {id : Int} {x : NR} (hd : st.get id = some x) :
    Calls Tryz.prog 54 #[.pointer (some ⟨m, 0, none⟩), .int .i64 id] w fun r w' => r = .returned (.tuple #[]) ∧ MO B T m (st.drop id) w w' := by
  obtain ⟨v, ms, hD⟩ := h
  obtain ⟨k, xk, k1, k2, k3, k4, k5⟩ := hD.find hd
  refine (dgone_any hD (hD.small t) id k1 k2).mono ?_
  rintro r w' ⟨he, v', h2, h3⟩
  refine ⟨he, (MO.of_dw h2 (h3.mono fun z hz _ => by rw [hz]; exact hD.tm)).st_eq ?_⟩
  unfold St.drop
  rw [List.map_append, List.map_take, List.map_drop, hD.eq, dropN_at t.rise k5 (findN_id hd)]
theorem mdrop_st (h : MW B T w m st) (t : Tid st) {id : Int} {x : NR} (hd : st.get id = some x) :
    Calls Tryz.prog 49 #[.pointer (some ⟨m, 0, none⟩), .int .i64 id] w fun r w' => r = .returned (.tuple #[]) ∧ MO B T m (st.drop id) w w' := by
  obtain ⟨v, ms, hD⟩ := h
  obtain ⟨k, xk, k1, k2, k3, k4, k5⟩ := hD.find hd
  refine (ddrop_any hD (hD.small t) id k1 k2).mono ?_
  rintro r w' ⟨he, v', h2, h3⟩
  refine ⟨he, (MO.of_dw h2 (h3.mono fun z hz _ => by rw [hz]; exact hD.tm)).st_eq ?_⟩
  unfold St.drop
  rw [List.map_append, List.map_take, List.map_drop, hD.eq, dropN_at t.rise k5 (findN_id hd)]
/-- What a pointer to a node shows, and what a write through it leaves. -/
structure NP (B : Nat) (T : Nat → Prop) (w : World) (m : Nat) (st : St) (r : NR) (g o : Nat) : Prop where
  kind : w.cell? ⟨g, o + 1, none⟩ = some (.int .i64 r.nd.kind)
  links : w.cell? ⟨g, o + 2, none⟩ = some (.int .i64 r.nd.links)
  parent : w.cell? ⟨g, o + 5, none⟩ = some (.int .i64 r.nd.parent)
  froz : ∀ i, w.frozen? ⟨g, i, none⟩ = false
  tg : T g
  lt : g < w.heap.size
  setL : ∀ l : Int, MO B T m (st.put (setLinks r.nd l)) w (w.setCell ⟨g, o + 2, none⟩ (.int .i64 l))
  setP : ∀ p : Int, MO B T m (st.put (setPar r.nd p)) w (w.setCell ⟨g, o + 5, none⟩ (.int .i64 p))
theorem mget_st (h : MW B T w m st) (t : Tid st) {id : Int} {r : NR} (hr : st.get id = some r) :
    ∃ g o, NP B T w m st r g o ∧ Calls Tryz.prog 47 #[.pointer (some ⟨m, 0, none⟩), .int .i64 id] w fun e w' => e = .returned (.tuple #[.pointer (some ⟨g, o, none⟩), .bool true]) ∧ w = w' := by
  obtain ⟨v, ms, hD⟩ := h
  obtain ⟨k, x, k1, k2, k3, k4, k5⟩ := hD.find hr
  obtain ⟨g, cap, hv, hg⟩ := hD.block (by rintro rfl; simp at k2)
  have hown : v.ownBlock = some g := by rw [hv]; rfl
  refine ⟨g, k * 199, ⟨?_, ?_, ?_, fun i => hD.sl.froz hown i, (hD.own g hown).1, hg, fun l => ?_, fun p => ?_⟩, dget_some hD (by have := hD.small t; omega) id k1 k2 hv⟩
  · have := hD.cell hv (j := 1) k3 (by omega)
    rw [(encM_get x).2.1, k4] at this
    exact this
  · have := hD.cell hv (j := 2) k3 (by omega)
    rw [(encM_get x).2.2.1, k4] at this
    exact this
  · have := hD.cell hv (j := 5) k3 (by omega)
    rw [(encM_get x).2.2.2.2.2.1, k4] at this
    exact this
  · obtain ⟨h1, h2⟩ := hD.put (y := ⟨⟨setLinks x.nr.nd l, x.nr.ents⟩, x.sp, x.cap, x.rest⟩) (u := .int .i64 l) (j := 2) (st' := st.put (setLinks r.nd l)) hv k3 (by omega) rfl (hD.ents x (List.mem_of_getElem? k3))
      (by rw [t.put_eq hr k5 (n := setLinks r.nd l) rfl rfl, List.map_set, hD.eq, k4]) (by rw [t.put_eq hr k5 (n := setLinks r.nd l) rfl rfl])
    refine ⟨⟨v, _, h1.wide (fun z hz => .inl hz) (fun z hz => h1.lt z ?_)⟩, h2.mono (fun z hz _ => by rw [hz]; exact (hD.own g hown).1)⟩
    rcases hz with hz | hz
    · exact hz
    · have : (w.setCell ⟨g, k * 199 + 2, none⟩ (.int .i64 l)).heap.size = w.heap.size := by simp
      omega
  · obtain ⟨h1, h2⟩ := hD.put (y := ⟨⟨setPar x.nr.nd p, x.nr.ents⟩, x.sp, x.cap, x.rest⟩) (u := .int .i64 p) (j := 5) (st' := st.put (setPar r.nd p)) hv k3 (by omega) rfl (hD.ents x (List.mem_of_getElem? k3))
      (by rw [t.put_eq hr k5 (n := setPar r.nd p) rfl rfl, List.map_set, hD.eq, k4]) (by rw [t.put_eq hr k5 (n := setPar r.nd p) rfl rfl])
    refine ⟨⟨v, _, h1.wide (fun z hz => .inl hz) (fun z hz => h1.lt z ?_)⟩, h2.mono (fun z hz _ => by rw [hz]; exact (hD.own g hown).1)⟩
    rcases hz with hz | hz
    · exact hz
    · have : (w.setCell ⟨g, k * 199 + 5, none⟩ (.int .i64 p)).heap.size = w.heap.size := by simp
      omega
end
end Go.Proofs.YtnkcbogikaebfaaGreatDoor
end
