/- The walk of the law DirPlays. -/
import Derived.Test.YthominkfjfnkbaaDoorDirPlay
import Derived.Deep.DeepCutAuto
import Derived.Deep.CutBlock
namespace Go.Proofs.YthominkfjfnkbaaDoor
open Go Go.RowKit
set_option maxRecDepth 100000
set_option linter.unusedSimpArgs false
attribute [local go_sem] giv bin_geq bin_leq bin_gtr
variable {E : Nat → Addr} {B : Nat}

theorem Env.wideD {B' : Nat} {w : World} (h : Env E B w) (hB : B ≤ B') (hs : B' ≤ w.heap.size) : Env E B' w :=
  ⟨hs, fun g hg => Nat.lt_of_lt_of_le (h.glt g hg) hB, fun g hg => Nat.lt_of_lt_of_le (h.elt g hg) hB, h.cell, h.blk, h.inj⟩
theorem name_max {s : ByteArray} (h : (s.size : Int) ≤ 60) : s.size ≤ maxLen := by unfold maxLen; omega

theorem delD_none {g : ByteArray → Option En} {i : ByteArray} (h : g i = none) : del g i = g := by
  funext k
  unfold del
  by_cases hk : k = i
  · subst hk; rw [if_pos rfl, h]
  · rw [if_neg hk]

set_option maxHeartbeats 8000000 in
theorem dirplays_any {w : World} {v : Value} {ds : List Do14} (r : RdE w 4 encDo14 v ds) (after : ByteArray) (num : Int) (hE : Env E B w) :
    Calls Tryd.prog 13 #[v, .string after, .int .i64 num] w fun e w' => e = .returned (.bool true) ∧ Below w.heap.size w w' := by
  obtain ⟨sp, cap, rfl, hcap⟩ := RdE.shape r
  have HE := Lib.hid hE
  have HR := Lib.hid r
  have HBW := Lib.hid hE.size
  clear hE r
  go_enter Tryd.func13, Tryd.ntmps13
  go_wp2_with fail
  refine (first14 _ HE.out).mono ?_
  rintro e w1 ⟨rfl, hb1⟩
  have HR1 := Lib.hid (RdE.below HR.out hb1)
  have HE1 := Lib.hid (HE.out.below hb1)
  have HB1 := Lib.hid hb1
  clear hb1
  by_cases h50 : (ds.length : Int) ≤ 50
  case neg =>
    go_wp2
    go_ret
    exact ⟨rfl, HB1.out⟩
  by_cases h60 : (after.size : Int) ≤ 60
  case neg =>
    go_wp2
    go_ret
    exact ⟨rfl, HB1.out⟩
  go_wp2_with fail
  have HP0 : Hid (PlayD E B w (w1.alloc (.cells #[.map none] 81)) (.slice none 0 0) w1.heap.size 0 [] (fun _ => none)) := Lib.hid (by
    have hnb : DB w.heap.size [] (w1.alloc (.cells #[.map none] 81)) w1.heap.size (fun _ => none) 0 := DB.new w1 HB1.out.size (by simp)
    exact PlayD.start hnb (HE1.out.alloc _) (HB1.out.trans ((bl_alloc (Below.refl _ _) _).mono HB1.out.size)) HBW.out)
  clear HE1 HB1 HR1
  generalize w1.heap.size = bt at *
  go_loopw [9, 10, 11, 12, 13, 14, 15, 16, 17, 18, 19, 20] (fun v9 v10 _ _ _ _ _ _ _ _ _ _ wr => ∃ (j : Nat) (hv : List En) (g : ByteArray → Option En), j ≤ ds.length ∧ v10 = .int .i64 j ∧ Hid (PlayD E B w wr v9 bt j hv g)) (fun _ v10 _ _ _ _ _ _ _ _ _ _ _ => ds.length - (intOf v10).toNat)
  case atStart => exact ⟨0, [], _, Nat.zero_le _, rfl, HP0⟩
  case round =>
    obtain ⟨j, hv, g, hj, rfl, HP⟩ := hrel
    clear HP0
    by_cases hlt : j < ds.length
    case neg =>
      obtain rfl : j = ds.length := by omega
      have hvl : hv.length ≤ 50 := by have := HP.out.len; omega
      as_aux_lemma =>
        clear HR HE hj hlt hcap
        go_wp2_with fail
        refine (db_from' HP.out.db (by omega) HP.out.sz (fun k e h => HP.out.have'.name h) after num).mono ?_
        rintro e w2 ⟨⟨va, ks, rfl, hva, hks, -⟩, hb2⟩
        rw [HP.out.have'.ents hks] at hva ⊢
        generalize hfl : fromL hv after num = fl at *
        have HVA := Lib.hid (hva.rd encEl_len)
        have HFL := Lib.hid hfl
        have HP2 := Lib.hid (HP.out.below hb2)
        clear hva hks hb2 HP hfl
        simp only
        go_wp2_with fail
        refine (reffrom_any (SlE.rd HP2.out.sl encEl_len) (by omega) after num).mono ?_
        rintro e w3 ⟨⟨vb, rfl, hvb⟩, hb3⟩
        rw [refFrom_eq, HFL.out] at hvb ⊢
        have HVB := Lib.hid (hvb.rd encEl_len)
        have HVA3 := Lib.hid (HVA.out.below hb3)
        have HP3 := Lib.hid (HP2.out.below hb3)
        have hfl : fl.1.length ≤ 1000000 := by
          rw [← HFL.out, ← refFrom_eq]
          exact Nat.le_trans (List.length_take_le' _ _) (Nat.le_trans (List.length_filter_le _ _) (by omega))
        clear hvb hb3 HP2 HVA HFL
        obtain ⟨fl1, fl2⟩ := fl
        simp only at hfl HVA3 HVB ⊢
        go_wp2_with fail
        refine (find_any (SlE.rd HP3.out.sl encEl_len) (by omega) after).mono ?_
        rintro e w4 ⟨rfl, hb4⟩
        have HVA4 := Lib.hid (HVA3.out.below hb4)
        have HVB4 := Lib.hid (HVB.out.below hb4)
        have HP4 := Lib.hid (HP3.out.below hb4)
        clear hb4 HP3 HVA3 HVB
        generalize hat : findI hv after 0 = at' at *
        have HAT := Lib.hid hat
        clear hat
        go_wp2_with fail
        refine (db_get' HP4.out.db (name_max h60)).mono ?_
        rintro e w5 ⟨rfl, hb5⟩
        generalize hx : (g after).getD noEn = x at *
        have HX := Lib.hid hx
        clear hx
        obtain ⟨a1, a2, a3⟩ := x
        unfold encE
        have HBX : Hid (Row (w5.alloc (.cells #[.string a1, .int .i64 a2, .int .i64 a3] 84)) w5.heap.size 84 (encEl ⟨a1, a2, a3⟩)) := Lib.hid (Row.new w5 84 (encEl ⟨a1, a2, a3⟩))
        have hbA := hb5.trans ((bl_alloc (Below.refl w5.heap.size w5) (.cells #[.string a1, .int .i64 a2, .int .i64 a3] 84)).mono hb5.size)
        have HP5 := Lib.hid (HP4.out.below hbA)
        have HVA5 := Lib.hid (HVA4.out.below hbA)
        have HVB5 := Lib.hid (HVB4.out.below hbA)
        clear hb5 hbA HP4 HVA4 HVB4
        go_wp2_with fail
        generalize w5.alloc (.cells #[.string a1, .int .i64 a2, .int .i64 a3] 84) = wz at *
        generalize w5.heap.size = nb at *
        obtain ⟨sq, cq, hu9, hcq⟩ := RdE.shape (SlE.rd HP5.out.sl encEl_len)
        have HRV := Lib.hid (SlE.rd HP5.out.sl encEl_len)
        subst hu9
        cases hga : g after
        case' none =>
          have hat : at' = -1 := by rw [← HAT.out]; exact HP5.out.have'.find_none hga
          subst hat
          have S : ∀ w', Below wz.heap.size wz w' → True := fun _ _ => trivial
        case' some x =>
          obtain ⟨jj, hat, hjx, hjl⟩ := HP5.out.have'.find_some hga
          have hjat : at' = (jj : Int) := by rw [← HAT.out]; exact hat
          subst hjat
          have hxx : x = ⟨a1, a2, a3⟩ := by have := HX.out; rw [hga] at this; exact this
          subst hxx
          have hj0' : (0 : Int) ≤ (jj : Int) := by omega
          have hj1' : (jj : Int) < (hv.length : Int) := by omega
          obtain ⟨h2, off2, hsq, hh2, hc2⟩ := elCells HRV.out hjl
          subst hsq
          have hgx : hv[jj] = ⟨a1, a2, a3⟩ := by rw [List.getElem?_eq_getElem hjl] at hjx; exact Option.some.inj hjx
          rw [hgx] at hc2
          have S : ∀ w', Below wz.heap.size wz w' → (w'.cell? ⟨nb, 0, none⟩ = some (.string a1) ∧ w'.cell? ⟨nb, 1, none⟩ = some (.int .i64 a2) ∧ w'.cell? ⟨nb, 2, none⟩ = some (.int .i64 a3)) ∧
              (w'.cell? ⟨h2, off2 + jj * 3, none⟩ = some (.string a1) ∧ w'.cell? ⟨h2, off2 + jj * 3 + 1, none⟩ = some (.int .i64 a2) ∧ w'.cell? ⟨h2, off2 + jj * 3 + 2, none⟩ = some (.int .i64 a3)) := by
            intro w' hb
            have hr := HBX.out.below hb
            refine ⟨⟨hr.cell 0, hr.cell 1, hr.cell 2⟩, ?_⟩
            have hk : ∀ i, i < 3 → w'.cell? ⟨h2, off2 + jj * 3 + i, none⟩ = (encEl ⟨a1, a2, a3⟩)[i]? := fun i hi => (hb.cell (p := ⟨h2, off2 + jj * 3 + i, none⟩) hh2).trans (hc2 i hi)
            exact ⟨hk 0 (by omega), hk 1 (by omega), hk 2 (by omega)⟩
          clear hc2 hjx hgx hat
        all_goals
          as_aux_lemma =>
            clear hga HX HAT
            simp only [Option.isSome_none, Option.isSome_some]
            go_wp2_with fail
            apply wp_region_rel _ (by kernel_rfl) (by kernel_rfl) (fun w' => Below wz.heap.size wz w') (fun w' w'' => Below w'.heap.size w' w'') (fun w' w'' h1 h2 => bl_trans h1 h2) (Below.refl _ _).drew
            repeat (first
              | (apply wpRel_skip (by rfl)
                 simp only [Act.put, List.setIfInBounds_toArray, List.set_cons_zero, List.set_cons_succ])
              | (apply wpRel_fix (by rfl)
                 · intro w' hC hf R hR
                   have hS := S w' hC
                   go_simp
                   exact hR _ (Below.refl _ _)
                 simp only [Act.put, List.setIfInBounds_toArray, List.set_cons_zero, List.set_cons_succ]))
            apply wpRel_fix (by rfl)
            · intro w' hC hf R hR
              go_simp
              (with_reducible refine (sameentrys_any (HVA5.out.below hC) (HVB5.out.below hC) hfl).mono ?_)
              rintro e w'' ⟨rfl, hb⟩
              exact ⟨.bool true, by simp, hR _ hb⟩
            simp only [Act.put, List.setIfInBounds_toArray, List.set_cons_zero, List.set_cons_succ]
            repeat (first
              | (apply wpRel_skip (by rfl)
                 simp only [Act.put, List.setIfInBounds_toArray, List.set_cons_zero, List.set_cons_succ])
              | (apply wpRel_fix (by rfl)
                 · intro w' hC hf R hR
                   have hS := S w' hC
                   go_simp
                   exact hR _ (Below.refl _ _)
                 simp only [Act.put, List.setIfInBounds_toArray, List.set_cons_zero, List.set_cons_succ]))
            try
              apply wpRel_fix (by rfl)
              · intro w' hC hf R hR
                go_simp
                refine (sameentry_any ⟨a1, a2, a3⟩ ⟨a1, a2, a3⟩ _).mono ?_
                rintro e w'' ⟨rfl, hb⟩
                exact ⟨.bool true, by simp, hR _ hb⟩
              simp only [Act.put, List.setIfInBounds_toArray, List.set_cons_zero, List.set_cons_succ]
              repeat (first
                | (apply wpRel_skip (by rfl)
                   simp only [Act.put, List.setIfInBounds_toArray, List.set_cons_zero, List.set_cons_succ])
                | (apply wpRel_fix (by rfl)
                   · intro w' hC hf R hR
                     have hS := S w' hC
                     go_simp
                     exact hR _ (Below.refl _ _)
                   simp only [Act.put, List.setIfInBounds_toArray, List.set_cons_zero, List.set_cons_succ]))
            refine wpRel_nil (fun w6 hC hf => ?_)
            have HPW := Lib.hid (HP5.out.below hC)
            clear hC hf S HP5 HRV HVA5 HVB5 HBX
            go_wp2
            go_ret
            exact ⟨by simp, HPW.out.bel⟩
    obtain ⟨h, off, hsp, hh, hc⟩ := elCells HR.out hlt
    generalize ds[j] = d at *
    obtain ⟨dk, ⟨n1, n2, n3⟩⟩ := d
    have hj0 : (0 : Int) ≤ (j : Int) := by omega
    have hj1 : (j : Int) < (ds.length : Int) := by omega
    have c0 : ∀ i, i < 4 → wr.cell? ⟨h, off + j * 4 + i, none⟩ = (encDo14 ⟨dk, ⟨n1, n2, n3⟩⟩)[i]? := fun i hi => (HP.out.bel.cell (p := ⟨h, off + j * 4 + i, none⟩) hh).trans (hc i hi)
    have e0 := c0 0 (by omega)
    have e1 := c0 1 (by omega)
    have e2 := c0 2 (by omega)
    have e3 := c0 3 (by omega)
    simp only [encDo14, List.getElem?_cons_zero, List.getElem?_cons_succ, Nat.add_zero] at e0 e1 e2 e3
    clear c0
    subst hsp
    by_cases hn60 : (n1.size : Int) ≤ 60
    case neg =>
      go_wp2
      go_ret
      exact ⟨rfl, bl_alloc HP.out.bel _⟩
    have HD : Hid (Row (wr.alloc (.cells #[.string n1, .int .i64 n2, .int .i64 n3] 84)) wr.heap.size 84 (encEl ⟨n1, n2, n3⟩)) := Lib.hid (Row.new wr 84 (encEl ⟨n1, n2, n3⟩))
    have HPD := Lib.hid (HP.out.below (bl_alloc (Below.refl wr.heap.size wr) (.cells #[.string n1, .int .i64 n2, .int .i64 n3] 84)))
    have HNB : Hid (DB w.heap.size (wr.heap.size :: u9.ownBlock.toList) (wr.alloc (.cells #[.string n1, .int .i64 n2, .int .i64 n3] 84)) bt g hv.length) := Lib.hid (HP.out.db.loc (.cells #[.string n1, .int .i64 n2, .int .i64 n3] 84))
    have HOB : Hid (∀ x, u9.ownBlock = some x → x < wr.heap.size) := Lib.hid (fun x hx => (HP.out.sl.lt x hx).2)
    have HDK : Hid ((wr.alloc (.cells #[.string n1, .int .i64 n2, .int .i64 n3] 84)).cell? ⟨h, off + j * 4, none⟩ = some (.int .i64 dk)) := Lib.hid (((bl_alloc HP.out.bel _).cell (p := ⟨h, off + j * 4, none⟩) hh).trans (by have := hc 0 (by omega); simp only [encDo14, List.getElem?_cons_zero, Nat.add_zero] at this; exact this))
    have HHW : Hid (h < (wr.alloc (.cells #[.string n1, .int .i64 n2, .int .i64 n3] 84)).heap.size) := Lib.hid (Nat.lt_of_lt_of_le hh (bl_alloc HP.out.bel _).size)
    clear hc
    go_wp2_with fail
    clear e0 e1 e2 e3 HP
    have hwbd : wr.heap.size < (wr.alloc (.cells #[.string n1, .int .i64 n2, .int .i64 n3] 84)).heap.size := by simp
    generalize wr.alloc (.cells #[.string n1, .int .i64 n2, .int .i64 n3] 84) = wd at *
    generalize wr.heap.size = bd at *
    refine (db_clone HPD.out.db).mono ?_
    rintro e wc ⟨⟨b', m', rfl, hcp, hcb⟩, hbc⟩
    have HNC0 := Lib.hid (HNB.out.add hbc (ownL b' m') hcb)
    have HPC0 := Lib.hid (HPD.out.below hbc)
    have HDC0 := Lib.hid (HD.out.below hbc)
    have HCP0 := Lib.hid hcp
    have HSEP : Hid (∀ gb, u9.ownBlock = some gb → gb ≠ bd ∧ ∀ x ∈ ownL b' m', x ≠ gb) := Lib.hid (fun gb hg => by
      have h1 := HOB.out gb hg
      exact ⟨by omega, fun x hx => by have := (hcb x hx).1; omega⟩)
    have HDK0 := Lib.hid ((hbc.cell (p := ⟨h, off + j * 4, none⟩) HHW.out).trans HDK.out)
    have HHW0 : Hid (h < wc.heap.size) := Lib.hid (Nat.lt_of_lt_of_le HHW.out hbc.size)
    clear hbc hcb hcp HNB HPD HD HDK HHW HOB hwbd
    go_wp2_with fail
    refine (dlen_any HCP0.out).mono ?_
    rintro e w2 ⟨rfl, rfl⟩
    have hvl : hv.length ≤ 50 := by have := HPC0.out.len; omega
    have e0 : wc.cell? ⟨bd, 0, none⟩ = some (.string n1) := HDC0.out.cell 0
    go_wp2_with fail
    refine (find_any (SlE.rd HPC0.out.sl encEl_len) (by omega) n1).mono ?_
    rintro e w3 ⟨rfl, hb3⟩
    have HNC := Lib.hid (HNC0.out.below hb3).1
    have HPC := Lib.hid (HPC0.out.below hb3)
    have HDC := Lib.hid (HDC0.out.below hb3)
    have HCP := Lib.hid (HCP0.out.below hb3)
    have ek := (hb3.cell (p := ⟨h, off + j * 4, none⟩) HHW0.out).trans HDK0.out
    clear hb3 HNC0 HPC0 HDC0 HCP0 HDK0 HHW0 e0
    have e0 : w3.cell? ⟨bd, 0, none⟩ = some (.string n1) := HDC.out.cell 0
    have e1 : w3.cell? ⟨bd, 1, none⟩ = some (.int .i64 n2) := HDC.out.cell 1
    have e2 : w3.cell? ⟨bd, 2, none⟩ = some (.int .i64 n3) := HDC.out.cell 2
    generalize hat : findI hv n1 0 = at' at *
    have HAT := Lib.hid hat
    clear hat
    go_upto_block 2 with fail
    go_cut [9] (fun s9 wx => ∃ (hv' : List En) (g' : ByteArray → Option En), Hid (PlayD E B w wx s9 bt (j + 1) hv' g' ∧ DirAt wx b' m' g hv.length))
    case first =>
      have hsub1 : Hid (∀ x ∈ u9.ownBlock.toList, x ∈ ownL b' m' ++ (bd :: u9.ownBlock.toList)) := Lib.hid (fun x hx => List.mem_append_right _ (List.mem_cons_of_mem _ hx))
      have hsub2 : Hid (∀ x ∈ ownL b' m', x ∈ ownL b' m' ++ (bd :: u9.ownBlock.toList)) := Lib.hid (fun x hx => List.mem_append_left _ hx)
      have hsub3 : Hid (bd ∈ ownL b' m' ++ (bd :: u9.ownBlock.toList)) := Lib.hid (List.mem_append_right _ (List.mem_cons_self ..))
      have HEW := Lib.hid (HPC.out.env.wideD HPC.out.bl HPC.out.bel.size)
      have HMX := Lib.hid (name_max hn60)
      by_cases hk1 : dk = 1
      case pos =>
        -- ARM add
        subst hk1
        by_cases hc0 : nmCode n1 = 0
        case neg =>
          as_aux_lemma =>
            have hcode : addCode g ⟨n1, n2, n3⟩ = nmCode n1 := by simp only [addCode]; rw [if_neg hc0]
            have HRG := Lib.hid (nmCode_ok n1)
            have hcz : (nmCode n1 == 0) = false := by rw [beq_eq_false_iff_ne]; exact hc0
            have HNZ := Lib.hid hc0
            have HCODE := Lib.hid hcode
            clear hcode hc0
            have HNf := HNC
            have HPf := HPC
            have HCf := HCP
            have HEf := HEW
            go_wp2_with fail
            refine (refname_any n1 _).mono ?_
            rintro e wq ⟨rfl, rfl⟩
            generalize nmCode n1 = c at *
            go_wp2_with fail
            refine (db_add_no HNf.out ⟨n1, n2, n3⟩ HMX.out (by rw [HCODE.out]; exact HNZ.out) HEf.out).mono ?_
            rintro e w5 ⟨rfl, hd, kp⟩
            rw [HCODE.out]
            have HP5 := Lib.hid (HPf.out.stay hsub1.out hd kp)
            have HC5 := Lib.hid (cop_keepD HCf.out hsub2.out kp)
            clear hd kp
            generalize her : errOf E c = er
            have HER := Lib.hid her
            clear her
            go_wp2_with fail
            rw [← HER.out]
            refine (is_of c c HRG.out _ HP5.out.env).mono ?_
            rintro e w6 ⟨rfl, hb6⟩
            have HP6 := Lib.hid (HP5.out.below hb6)
            have HC6 := Lib.hid (HC5.out.below hb6)
            clear hb6
            simp only [BEq.rfl]
            go_wp2_with fail
            go_meet
            case rel => exact ⟨hv, g, Lib.hid ⟨HP6.out.next, HC6.out⟩⟩
        case pos =>
          have HC0 := Lib.hid hc0
          cases hsp : nmSpecial n1
          case true =>
            as_aux_lemma =>
              have HCODE : Hid (addCode g ⟨n1, n2, n3⟩ = 114) := Lib.hid (by simp only [addCode]; rw [if_pos hc0, hsp]; rfl)
              have HRG : Hid ((114 : Int) = 0 ∨ (101 ≤ (114 : Int) ∧ (114 : Int) ≤ 124)) := Lib.hid (by omega)
              have HNZ : Hid (¬ (114 : Int) = 0) := Lib.hid (by omega)
              have HSP := Lib.hid hsp
              clear hc0 hsp
              have HNf := HNC
              have HPf := HPC
              have HCf := HCP
              have HEf := HEW
              go_wp2_with fail
              refine (refname_any n1 _).mono ?_
              rintro e wq ⟨rfl, rfl⟩
              rw [HC0.out]
              go_wp2_with fail
              refine (refspecial_any n1 _).mono ?_
              rintro e wq ⟨rfl, rfl⟩
              rw [HSP.out]
              go_wp2_with fail
              refine (db_add_no HNf.out ⟨n1, n2, n3⟩ HMX.out (by rw [HCODE.out]; exact HNZ.out) HEf.out).mono ?_
              rintro e w5 ⟨rfl, hd, kp⟩
              rw [HCODE.out]
              have HP5 := Lib.hid (HPf.out.stay hsub1.out hd kp)
              have HC5 := Lib.hid (cop_keepD HCf.out hsub2.out kp)
              clear hd kp
              generalize her : errOf E 114 = er
              have HER := Lib.hid her
              clear her
              go_wp2_with fail
              rw [← HER.out]
              refine (is_of 114 114 HRG.out _ HP5.out.env).mono ?_
              rintro e w6 ⟨rfl, hb6⟩
              have HP6 := Lib.hid (HP5.out.below hb6)
              have HC6 := Lib.hid (HC5.out.below hb6)
              clear hb6
              simp only [BEq.rfl]
              go_wp2_with fail
              go_meet
              case rel => exact ⟨hv, g, Lib.hid ⟨HP6.out.next, HC6.out⟩⟩
          case false =>
            have HSP := Lib.hid hsp
            cases hmb : mayB ⟨n1, n2, n3⟩
            case false =>
              as_aux_lemma =>
                have HCODE : Hid (addCode g ⟨n1, n2, n3⟩ = 103) := Lib.hid (by simp only [addCode]; rw [if_pos hc0, hsp, hmb]; rfl)
                have HRG : Hid ((103 : Int) = 0 ∨ (101 ≤ (103 : Int) ∧ (103 : Int) ≤ 124)) := Lib.hid (by omega)
                have HNZ : Hid (¬ (103 : Int) = 0) := Lib.hid (by omega)
                have HMB := Lib.hid hmb
                clear hc0 hsp hmb
                go_wp2_with fail
                refine (refname_any n1 _).mono ?_
                rintro e wq ⟨rfl, rfl⟩
                rw [HC0.out]
                go_wp2_with fail
                refine (refspecial_any n1 _).mono ?_
                rintro e wq ⟨rfl, rfl⟩
                rw [HSP.out]
                go_wp2_with fail
                refine (right_any ⟨n1, n2, n3⟩ _).mono ?_
                rintro e w4 ⟨rfl, hb4⟩
                rw [HMB.out]
                have HNf := Lib.hid (HNC.out.below hb4).1
                have HPf := Lib.hid (HPC.out.below hb4)
                have HCf := Lib.hid (HCP.out.below hb4)
                have HDf := Lib.hid (HDC.out.below hb4)
                have HEf := Lib.hid (HPf.out.env.wideD HPf.out.bl HPf.out.bel.size)
                have e0' : w4.cell? ⟨bd, 0, none⟩ = some (.string n1) := HDf.out.cell 0
                have e1' : w4.cell? ⟨bd, 1, none⟩ = some (.int .i64 n2) := HDf.out.cell 1
                have e2' : w4.cell? ⟨bd, 2, none⟩ = some (.int .i64 n3) := HDf.out.cell 2
                clear hb4 e0 e1 e2
                go_wp2_with fail
                refine (db_add_no HNf.out ⟨n1, n2, n3⟩ HMX.out (by rw [HCODE.out]; exact HNZ.out) HEf.out).mono ?_
                rintro e w5 ⟨rfl, hd, kp⟩
                rw [HCODE.out]
                have HP5 := Lib.hid (HPf.out.stay hsub1.out hd kp)
                have HC5 := Lib.hid (cop_keepD HCf.out hsub2.out kp)
                clear hd kp
                generalize her : errOf E 103 = er
                have HER := Lib.hid her
                clear her
                go_wp2_with fail
                rw [← HER.out]
                refine (is_of 103 103 HRG.out _ HP5.out.env).mono ?_
                rintro e w6 ⟨rfl, hb6⟩
                have HP6 := Lib.hid (HP5.out.below hb6)
                have HC6 := Lib.hid (HC5.out.below hb6)
                clear hb6
                simp only [BEq.rfl]
                go_wp2_with fail
                go_meet
                case rel => exact ⟨hv, g, Lib.hid ⟨HP6.out.next, HC6.out⟩⟩
            case true =>
              have HMB := Lib.hid hmb
              cases hga : g n1
              case some x =>
                as_aux_lemma =>
                  obtain ⟨jj, hat, hjx, hjl⟩ := HPC.out.have'.find_some hga
                  have hjat : at' = (jj : Int) := by rw [← HAT.out]; exact hat
                  subst hjat
                  have hj0' : (0 : Int) ≤ (jj : Int) := by omega
                  have HCODE : Hid (addCode g ⟨n1, n2, n3⟩ = 110) := Lib.hid (by simp only [addCode]; rw [if_pos hc0, hsp, hmb, hga]; rfl)
                  have HRG : Hid ((110 : Int) = 0 ∨ (101 ≤ (110 : Int) ∧ (110 : Int) ≤ 124)) := Lib.hid (by omega)
                  have HNZ : Hid (¬ (110 : Int) = 0) := Lib.hid (by omega)
                  clear hc0 hsp hmb hga hjx hat
                  go_wp2_with fail
                  refine (refname_any n1 _).mono ?_
                  rintro e wq ⟨rfl, rfl⟩
                  rw [HC0.out]
                  go_wp2_with fail
                  refine (refspecial_any n1 _).mono ?_
                  rintro e wq ⟨rfl, rfl⟩
                  rw [HSP.out]
                  go_wp2_with fail
                  refine (right_any ⟨n1, n2, n3⟩ _).mono ?_
                  rintro e w4 ⟨rfl, hb4⟩
                  rw [HMB.out]
                  have HNf := Lib.hid (HNC.out.below hb4).1
                  have HPf := Lib.hid (HPC.out.below hb4)
                  have HCf := Lib.hid (HCP.out.below hb4)
                  have HDf := Lib.hid (HDC.out.below hb4)
                  have HEf := Lib.hid (HPf.out.env.wideD HPf.out.bl HPf.out.bel.size)
                  have e0' : w4.cell? ⟨bd, 0, none⟩ = some (.string n1) := HDf.out.cell 0
                  have e1' : w4.cell? ⟨bd, 1, none⟩ = some (.int .i64 n2) := HDf.out.cell 1
                  have e2' : w4.cell? ⟨bd, 2, none⟩ = some (.int .i64 n3) := HDf.out.cell 2
                  clear hb4 e0 e1 e2
                  go_wp2_with fail
                  refine (db_add_no HNf.out ⟨n1, n2, n3⟩ HMX.out (by rw [HCODE.out]; exact HNZ.out) HEf.out).mono ?_
                  rintro e w5 ⟨rfl, hd, kp⟩
                  rw [HCODE.out]
                  have HP5 := Lib.hid (HPf.out.stay hsub1.out hd kp)
                  have HC5 := Lib.hid (cop_keepD HCf.out hsub2.out kp)
                  clear hd kp
                  generalize her : errOf E 110 = er
                  have HER := Lib.hid her
                  clear her
                  go_wp2_with fail
                  rw [← HER.out]
                  refine (is_of 110 110 HRG.out _ HP5.out.env).mono ?_
                  rintro e w6 ⟨rfl, hb6⟩
                  have HP6 := Lib.hid (HP5.out.below hb6)
                  have HC6 := Lib.hid (HC5.out.below hb6)
                  clear hb6
                  simp only [BEq.rfl]
                  go_wp2_with fail
                  go_meet
                  case rel => exact ⟨hv, g, Lib.hid ⟨HP6.out.next, HC6.out⟩⟩
              case none =>
                as_aux_lemma =>
                  have hat : at' = -1 := by rw [← HAT.out]; exact HPC.out.have'.find_none hga
                  subst hat
                  have HCODE : Hid (addCode g ⟨n1, n2, n3⟩ = 0) := Lib.hid (by simp only [addCode]; rw [if_pos hc0, hsp, hmb, hga]; rfl)
                  have HGA := Lib.hid hga
                  clear hc0 hsp hmb hga
                  go_wp2_with fail
                  refine (refname_any n1 _).mono ?_
                  rintro e wq ⟨rfl, rfl⟩
                  rw [HC0.out]
                  go_wp2_with fail
                  refine (refspecial_any n1 _).mono ?_
                  rintro e wq ⟨rfl, rfl⟩
                  rw [HSP.out]
                  go_wp2_with fail
                  refine (right_any ⟨n1, n2, n3⟩ _).mono ?_
                  rintro e w4 ⟨rfl, hb4⟩
                  rw [HMB.out]
                  have HNf := Lib.hid (HNC.out.below hb4).1
                  have HPf := Lib.hid (HPC.out.below hb4)
                  have HCf := Lib.hid (HCP.out.below hb4)
                  have HDf := Lib.hid (HDC.out.below hb4)
                  have HEf := Lib.hid (HPf.out.env.wideD HPf.out.bl HPf.out.bel.size)
                  have e0' : w4.cell? ⟨bd, 0, none⟩ = some (.string n1) := HDf.out.cell 0
                  have e1' : w4.cell? ⟨bd, 1, none⟩ = some (.int .i64 n2) := HDf.out.cell 1
                  have e2' : w4.cell? ⟨bd, 2, none⟩ = some (.int .i64 n3) := HDf.out.cell 2
                  clear hb4 e0 e1 e2
                  go_wp2_with fail
                  refine (db_add HNf.out ⟨n1, n2, n3⟩ HCODE.out HEf.out).mono ?_
                  rintro e w5 ⟨rfl, hd, kp⟩
                  have HNB5 := Lib.hid hd
                  have HKP := Lib.hid kp
                  have HSL5 := Lib.hid (SlE.rd (HPf.out.turn hsub1.out hd kp).2.1 encEl_len)
                  have HC5 := Lib.hid (cop_keepD HCf.out hsub2.out kp)
                  have HD5 := Lib.hid (HDf.out.keep (kp.loc bd hsub3.out))
                  clear hd kp e0' e1' e2'
                  go_wp2_with fail
                  refine (is_nil 0 _).mono ?_
                  rintro e w6 ⟨rfl, hb6⟩
                  simp only [BEq.rfl]
                  have HB6 := Lib.hid hb6
                  have HD6 := Lib.hid (HD5.out.below hb6)
                  have HSL6 := Lib.hid (HSL5.out.below hb6)
                  clear hb6 HD5 HSL5
                  obtain ⟨sq, cq, hu9, hcq⟩ := RdE.shape HSL6.out
                  have hbd6 := HD6.out.lt
                  go_wp2_with fail
                  go_loopw [16] (fun q wr => ∃ c : Nat, c ≤ hv.length ∧ q = .int .i64 c ∧ Hid ((∀ (m : Nat) y, m < c → hv[m]? = some y → nmLt y.name n1) ∧ Below w6.heap.size w6 wr)) (fun q _ => hv.length - (Go.RowKit.intOf q).toNat)
                  case atStart => exact ⟨0, Nat.zero_le _, rfl, Lib.hid ⟨fun m y hm => by omega, Below.refl _ _⟩⟩
                  case round =>
                    obtain ⟨c, hcl, rfl, HI⟩ := hrel
                    subst hu9
                    have x0 : wr.cell? ⟨bd, 0, none⟩ = some (.string n1) := (HI.out.2.cell (p := ⟨bd, 0, none⟩) hbd6).trans (HD6.out.cell 0)
                    have hj0' : (0 : Int) ≤ (c : Int) := by omega
                    by_cases hlt2 : c < hv.length
                    case' neg =>
                      have hd1 : decide ((c : Int) < hv.length) = false := by simp; omega
                      have HHI : Hid (∀ y, hv[c]? = some y → ¬ nmLt y.name n1) := Lib.hid (fun y hy => by rw [List.getElem?_eq_none (by omega)] at hy; cases hy)
                      go_wp2_with fail
                      try go_quiet (fail)
                    case' pos =>
                      obtain ⟨h2, off2, hsq, hh2, hc2⟩ := elCells HSL6.out hlt2
                      subst hsq
                      have c0 : wr.cell? ⟨h2, off2 + c * 3, none⟩ = some (.string (hv[c]).name) := by
                        have := hc2 0 (by omega)
                        rw [HI.out.2.cell (p := ⟨h2, off2 + c * 3, none⟩) hh2]
                        simp only [Nat.add_zero] at this
                        exact this
                      have HF : Hid (nmLt hv[c].name n1 → ∀ (m : Nat) y, m < c + 1 → hv[m]? = some y → nmLt y.name n1) := Lib.hid (by
                        intro hne m y hm hy
                        rcases Nat.lt_or_ge m c with h | h
                        · exact HI.out.1 m y h hy
                        · obtain rfl : m = c := by omega
                          rw [List.getElem?_eq_getElem hlt2] at hy
                          injection hy with hy
                          rw [← hy]; exact hne)
                      have HHI0 : Hid (¬ nmLt hv[c].name n1 → ∀ y, hv[c]? = some y → ¬ nmLt y.name n1) := Lib.hid (fun hn y hy => by
                        rw [List.getElem?_eq_getElem hlt2] at hy
                        injection hy with hy
                        rw [← hy]; exact hn)
                      have hj1' : (c : Int) < (hv.length : Int) := by omega
                      have hd1 : decide ((c : Int) < hv.length) = true := by simp; omega
                      generalize hv[c].name = y at *
                      clear hc2
                      by_cases hy : nmLt y n1
                      case pos =>
                        have hd2 : Op.bytesLess y.toList n1.toList = true := by rw [bytesLess_eq, Lib.toList_data, Lib.toList_data]; exact decide_eq_true (show y.data.toList < n1.data.toList from hy)
                        go_wp2_with fail
                        go_quiet (fail)
                        go_wp2
                        go_roundw
                        case rel => exact ⟨c + 1, by omega, by first | go_num | exact congrArg (Value.int .i64) (wrapE_step hlt2 (by omega)), Lib.hid ⟨HF.out hy, HI.out.2.trans ((drewN_below wr _).mono HI.out.2.size)⟩⟩
                        case measure => simp [Go.RowKit.intOf]; omega
                      have hd2 : Op.bytesLess y.toList n1.toList = false := by rw [bytesLess_eq, Lib.toList_data, Lib.toList_data]; exact decide_eq_false (show ¬ y.data.toList < n1.data.toList from hy)
                      have HHI : Hid (∀ y, hv[c]? = some y → ¬ nmLt y.name n1) := Lib.hid (HHI0.out hy)
                      clear HF HHI0
                      go_wp2_with fail
                      go_quiet (fail)
                    all_goals
                      as_aux_lemma =>
                        go_wp2_with fail
                        refine wp_fromB wr ?hb ?_
                        case hb => exact ⟨rfl, rfl, rfl, Nat.le_refl _, fun _ _ => rfl⟩
                        intro wz hz
                        have HBZ := Lib.hid (HI.out.2.trans (hz.mono HI.out.2.size))
                        have HRZ := Lib.hid (HSL6.out.below HBZ.out)
                        have HXZ := Lib.hid (HD6.out.below HBZ.out)
                        have HLO := Lib.hid HI.out.1
                        have hjc : c ≤ cq := by omega
                        have HJT : Hid ((hv.take c).length = c) := Lib.hid (by rw [List.length_take]; omega)
                        have S : ∀ w', Below wz.heap.size wz w' → w'.cell? ⟨bd, 0, none⟩ = some (.string n1) ∧ w'.cell? ⟨bd, 1, none⟩ = some (.int .i64 n2) ∧ w'.cell? ⟨bd, 2, none⟩ = some (.int .i64 n3) := by
                          intro w' hb
                          have hr := HXZ.out.below hb
                          exact ⟨hr.cell 0, hr.cell 1, hr.cell 2⟩
                        clear hz x0 HI
                        go_wp2_with fail
                        apply wp_region_tail 6 _ (by kernel_rfl) (by kernel_rfl) (by kernel_rfl) (by decide) (fun w' => Below wz.heap.size wz w') (fun w' w'' => Below w'.heap.size w' w'') (fun w' w'' h1 h2 => bl_trans h1 h2) (Below.refl _ _).drew
                        simp only [List.take_succ_cons, List.take_zero, List.drop_succ_cons, List.drop_zero]
                        repeat (first
                          | (apply wpRel_skip (by rfl)
                             simp only [Act.put, List.setIfInBounds_toArray, List.set_cons_zero, List.set_cons_succ])
                          | (apply wpRel_fix (by rfl)
                             · intro w' hC hf R hR
                               have hS := S w' hC
                               go_simp
                               exact hR _ (Below.refl _ _)
                             simp only [Act.put, List.setIfInBounds_toArray, List.set_cons_zero, List.set_cons_succ]))
                        apply wpRel_rel (fun v w => SlEn w wz.heap.size v (hv.take c)) (by rfl) (fun v w w' h hb => h.below hb)
                        · intro w' hC hf R hR
                          go_simp
                          refine (entrys_any ((RdE.taken HRZ.out hcl).below hC) (by rw [HJT.out]; omega)).mono ?_
                          rintro e w'' ⟨⟨u, rfl, hs⟩, hb⟩
                          exact ⟨_, rfl, hR _ _ (hs.mono hC.size) hb⟩
                        intro v1
                        simp only [Act.put, List.setIfInBounds_toArray, List.set_cons_zero, List.set_cons_succ]
                        repeat (first
                          | (apply wpRel_skip (by rfl)
                             simp only [Act.put, List.setIfInBounds_toArray, List.set_cons_zero, List.set_cons_succ])
                          | (apply wpRel_fix (by rfl)
                             · intro w' hC hf R hR
                               have hS := S w' hC
                               go_simp
                               exact hR _ (Below.refl _ _)
                             simp only [Act.put, List.setIfInBounds_toArray, List.set_cons_zero, List.set_cons_succ]))
                        apply wpRel_rel (fun v w => RdEn w v [⟨n1, n2, n3⟩]) (by rfl) (fun v w w' h hb => h.below hb)
                        · intro w' hC hf R hR
                          have hS := S w' hC
                          go_simp
                          exact hR _ _ (RdE.one (x := (⟨n1, n2, n3⟩ : En)) (Row.new w' 84 (encEl ⟨n1, n2, n3⟩))) (bl_alloc (Below.refl _ _) _)
                        intro v2
                        simp only [Act.put, List.setIfInBounds_toArray, List.set_cons_zero, List.set_cons_succ]
                        refine wpRel_nil (fun w7 hC hf => ?_)
                        have f2 := hf _ (List.mem_cons_self ..)
                        have f1 := hf _ (List.mem_cons_of_mem _ (List.mem_cons_self ..))
                        clear hf
                        have hlm := HJT.out
                        apply wpList_app entT rfl _ _ rfl rfl f1 rfl f2 (by rw [hlm]; exact smallE (by simp; omega)) (by rw [hlm]; simp; omega) hC.size
                        intro v5 w8 hs8 ht8
                        have hb8 : Below wz.heap.size wz w8 := hC.trans (ht8.below hC.size (fun y hy => (SlE.lt f1 y hy).1))
                        have HS8 := Lib.hid hs8
                        have HB8 := Lib.hid hb8
                        have HR8 := Lib.hid (HRZ.out.below hb8)
                        have HBS8 : Hid (wz.heap.size ≤ w8.heap.size) := Lib.hid hb8.size
                        have HL8 : Hid ((hv.take c ++ [(⟨n1, n2, n3⟩ : En)]).length + (hv.drop c).length ≤ 3000) := Lib.hid (by rw [List.length_append, hlm, List.length_drop]; simp; omega)
                        clear hs8 ht8 hb8 f1 f2 hC S hlm
                        by_cases hcc : cq = c
                        case' neg =>
                          have hcl2 : (cq = c) = False := by simp [hcc]
                          try (obtain ⟨a, rfl⟩ : ∃ a, sq = some a := by
                                cases sq with
                                | none => have := RdE.nosp HR8.out; omega
                                | some a => exact ⟨a, rfl⟩)
                          have HRT : Hid (RdEn w8 _ (hv.drop c)) := Lib.hid (by first | exact RdE.droppedF HR8.out hcl hcc | exact RdE.dropped HR8.out hcl hcc)
                        case' pos =>
                          have HRT : Hid (∀ sp, RdEn w8 (.slice sp 0 0) (hv.drop c)) := Lib.hid (fun sp => by rw [List.drop_of_length_le (by omega)]; exact RdE.empty _ _ _ _)
                          have hq0 : hv.length - c = 0 := by omega
                          subst hcc
                        all_goals
                          go_wp2_with (at_builtin; refine wpList_app entT rfl _ _ rfl rfl HS8.out rfl (by first | exact HRT.out | exact HRT.out _) (by have := HL8.out; exact smallE (by omega)) (by have := HL8.out; omega) HBS8.out ?_; intro v6 w9 hs9 ht9; have HS9 := Lib.hid hs9; have HB9 := Lib.hid (ht9.below HBS8.out (fun y hy => (SlE.lt HS8.out y hy).1)); clear hs9 ht9)
                          have hb59 := ((HB6.out.trans (HBZ.out.mono HB6.out.size)).trans (HB8.out.mono (Nat.le_trans HB6.out.size HBZ.out.size))).trans (HB9.out.mono (Nat.le_trans HB6.out.size HBZ.out.size))
                          have HPN := Lib.hid (HPf.out.set hsub1.out HNB5.out HKP.out hb59 (SlE.mono HS9.out (Nat.le_trans HB6.out.size HBZ.out.size)) (HPC.out.have'.ins HGA.out HLO.out HHI.out) (by rw [List.length_append, List.length_append, List.length_take, List.length_drop]; simp; omega) (by rw [List.length_append, List.length_append, List.length_take, List.length_drop]; have := HPC.out.len; simp; omega) (mem_upd_sz HPC.out.sz HMX.out))
                          have HCN := Lib.hid (HC5.out.below hb59)
                          clear hb59
                          go_wp2_with fail
                          go_meet
                          case rel => exact ⟨_, _, Lib.hid ⟨HPN.out, HCN.out⟩⟩
        -- END add
      by_cases hk2 : dk = 2
      case pos =>
        -- ARM del
        subst hk2
        cases hga : g n1
        case none =>
          as_aux_lemma =>
            have hat : at' = -1 := by rw [← HAT.out]; exact HPC.out.have'.find_none hga
            subst hat
            go_wp2_with fail
            refine (db_del HNC.out HMX.out).mono ?_
            rintro e w4 ⟨rfl, hd, kp⟩
            rw [hga, delD_none hga] at hd
            simp only [Option.isSome_none, Bool.false_eq_true, if_false] at hd
            rw [hga]
            simp only [Option.isSome_none, Option.getD_none, encE, noEn]
            have HP4 := Lib.hid (HPC.out.stay hsub1.out hd kp)
            have HC4 := Lib.hid (cop_keepD HCP.out hsub2.out kp)
            clear hd kp e0 e1 e2
            have HP5 := Lib.hid (HP4.out.below (bl_alloc (Below.refl w4.heap.size w4) (.cells #[.string { data := #[] }, .int .i64 0, .int .i64 0] 84)))
            have HC5 := Lib.hid (HC4.out.below (bl_alloc (Below.refl w4.heap.size w4) (.cells #[.string { data := #[] }, .int .i64 0, .int .i64 0] 84)))
            clear HP4 HC4
            go_wp2_with fail
            generalize w4.alloc (.cells #[.string { data := #[] }, .int .i64 0, .int .i64 0] 84) = wz at *
            have S : ∀ w', Below wz.heap.size wz w' → True := fun _ _ => trivial
            apply wp_region_rel _ (by kernel_rfl) (by kernel_rfl) (fun w' => Below wz.heap.size wz w') (fun w' w'' => Below w'.heap.size w' w'') (fun w' w'' h1 h2 => bl_trans h1 h2) (Below.refl _ _).drew
            repeat (first
              | (apply wpRel_skip (by rfl)
                 simp only [Act.put, List.setIfInBounds_toArray, List.set_cons_zero, List.set_cons_succ])
              | (apply wpRel_fix (by rfl)
                 · intro w' hC hf R hR
                   have hS := S w' hC
                   go_simp
                   exact hR _ (Below.refl _ _)
                 simp only [Act.put, List.setIfInBounds_toArray, List.set_cons_zero, List.set_cons_succ]))
            refine wpRel_nil (fun w6 hC hf => ?_)
            have HP6 := Lib.hid (HP5.out.below hC)
            have HC6 := Lib.hid (HC5.out.below hC)
            clear hC hf S
            go_wp2_with fail
            go_meet
            case rel => exact ⟨hv, g, Lib.hid ⟨HP6.out.next, HC6.out⟩⟩
        case some x =>
          obtain ⟨jj, hat, hjx, hjl⟩ := HPC.out.have'.find_some hga
          have hjat : at' = (jj : Int) := by rw [← HAT.out]; exact hat
          subst hjat
          have hj0' : (0 : Int) ≤ (jj : Int) := by omega
          have hj1' : (jj : Int) < (hv.length : Int) := by omega
          have HGA := Lib.hid hga
          have HJX := Lib.hid hjx
          clear hga hjx hat
          go_wp2_with fail
          refine (db_del HNC.out HMX.out).mono ?_
          rintro e w4 ⟨rfl, hd, kp⟩
          rw [HGA.out] at hd
          simp only [Option.isSome_some, if_true] at hd
          rw [HGA.out]
          simp only [Option.isSome_some, Option.getD_some]
          have HNB4 := Lib.hid hd
          have HKP := Lib.hid kp
          have HSL4 := Lib.hid (SlE.rd (HPC.out.turn hsub1.out hd kp).2.1 encEl_len)
          have HC4 := Lib.hid (cop_keepD HCP.out hsub2.out kp)
          clear hd kp e0 e1 e2
          obtain ⟨sq, cq, hu9, hcq⟩ := RdE.shape HSL4.out
          obtain ⟨l, hl⟩ : ∃ l, l = jj + 1 := ⟨_, rfl⟩
          have hcast : IntKind.i64.wrap ((jj : Int) + 1) = (l : Int) := by rw [IntWalk.i64_in _ (by omega)]; omega
          have hl0 : (0 : Int) ≤ (l : Int) := by omega
          have hl1 : (l : Int) ≤ (hv.length : Int) := by omega
          have hl2 : l ≤ hv.length := by omega
          have hjq : jj ≤ cq := by omega
          have hjn : jj ≤ hv.length := by omega
          have HL := Lib.hid hl
          have HJT : Hid ((hv.take jj).length = jj) := Lib.hid (by rw [List.length_take]; omega)
          subst hu9
          obtain ⟨h2, off2, hsq, hh2, hc2⟩ := elCells HSL4.out hjl
          subst hsq
          have hgx : hv[jj] = x := by have := HJX.out; rw [List.getElem?_eq_getElem hjl] at this; exact Option.some.inj this
          rw [hgx] at hc2
          have HXN := Lib.hid (HPC.out.have'.name HGA.out)
          obtain ⟨x1, x2, x3⟩ := x
          unfold encE
          have HBX : Hid (Row (w4.alloc (.cells #[.string x1, .int .i64 x2, .int .i64 x3] 84)) w4.heap.size 84 (encEl ⟨x1, x2, x3⟩)) := Lib.hid (Row.new w4 84 (encEl ⟨x1, x2, x3⟩))
          have HBA := Lib.hid (bl_alloc (Below.refl w4.heap.size w4) (.cells #[.string x1, .int .i64 x2, .int .i64 x3] 84))
          go_wp2_with fail
          generalize w4.alloc (.cells #[.string x1, .int .i64 x2, .int .i64 x3] 84) = wz at *
          have S : ∀ w', Below wz.heap.size wz w' → (w'.cell? ⟨w4.heap.size, 0, none⟩ = some (.string x1) ∧ w'.cell? ⟨w4.heap.size, 1, none⟩ = some (.int .i64 x2) ∧ w'.cell? ⟨w4.heap.size, 2, none⟩ = some (.int .i64 x3)) ∧
              (w'.cell? ⟨h2, off2 + jj * 3, none⟩ = some (.string x1) ∧ w'.cell? ⟨h2, off2 + jj * 3 + 1, none⟩ = some (.int .i64 x2) ∧ w'.cell? ⟨h2, off2 + jj * 3 + 2, none⟩ = some (.int .i64 x3)) := by
            intro w' hb
            have hr := HBX.out.below hb
            refine ⟨⟨hr.cell 0, hr.cell 1, hr.cell 2⟩, ?_⟩
            have hb4 : Below w4.heap.size w4 w' := HBA.out.trans (hb.mono HBA.out.size)
            have hk : ∀ i, i < 3 → w'.cell? ⟨h2, off2 + jj * 3 + i, none⟩ = (encEl ⟨x1, x2, x3⟩)[i]? := fun i hi => (hb4.cell (p := ⟨h2, off2 + jj * 3 + i, none⟩) hh2).trans (hc2 i hi)
            exact ⟨hk 0 (by omega), hk 1 (by omega), hk 2 (by omega)⟩
          clear hc2 hgx hl
          apply wp_region_rel _ (by kernel_rfl) (by kernel_rfl) (fun w' => Below wz.heap.size wz w') (fun w' w'' => Below w'.heap.size w' w'') (fun w' w'' h1 h2 => bl_trans h1 h2) (Below.refl _ _).drew
          repeat (first
            | (apply wpRel_skip (by rfl)
               simp only [Act.put, List.setIfInBounds_toArray, List.set_cons_zero, List.set_cons_succ])
            | (apply wpRel_fix (by rfl)
               · intro w' hC hf R hR
                 have hS := S w' hC
                 go_simp
                 exact hR _ (Below.refl _ _)
               simp only [Act.put, List.setIfInBounds_toArray, List.set_cons_zero, List.set_cons_succ]))
          apply wpRel_fix (by rfl)
          · intro w' hC hf R hR
            go_simp
            refine (sameentry_any ⟨x1, x2, x3⟩ ⟨x1, x2, x3⟩ _).mono ?_
            rintro e w'' ⟨rfl, hb⟩
            exact ⟨.bool true, by simp, hR _ hb⟩
          simp only [Act.put, List.setIfInBounds_toArray, List.set_cons_zero, List.set_cons_succ]
          repeat (first
            | (apply wpRel_skip (by rfl)
               simp only [Act.put, List.setIfInBounds_toArray, List.set_cons_zero, List.set_cons_succ])
            | (apply wpRel_fix (by rfl)
               · intro w' hC hf R hR
                 have hS := S w' hC
                 go_simp
                 exact hR _ (Below.refl _ _)
               simp only [Act.put, List.setIfInBounds_toArray, List.set_cons_zero, List.set_cons_succ]))
          refine wpRel_nil (fun w7 hC hf => ?_)
          have HB7 := Lib.hid (HBA.out.trans (hC.mono HBA.out.size))
          have HSL7 := Lib.hid (HSL4.out.below HB7.out)
          clear hC hf S
          by_cases hcl : cq = l
          case' pos =>
            subst hcl
            have RDT : Hid (RdEn w7 (.slice (some ⟨h2, off2, none⟩) 0 0) (hv.drop cq)) := Lib.hid (by rw [List.drop_of_length_le (by omega)]; exact RdE.empty _ _ _ _)
          case' neg =>
            have hcl2 : (cq = l) = False := by simp [hcl]
            have RDT := Lib.hid (RdE.droppedF HSL7.out hl2 hcl)
          all_goals
            as_aux_lemma =>
              have S : ∀ w', Below w7.heap.size w7 w' → True := fun _ _ => trivial
              go_wp2_with fail
              apply wp_region_tail 8 _ (by kernel_rfl) (by kernel_rfl) (by kernel_rfl) (by decide) (fun w' => Below w7.heap.size w7 w') (fun w' w'' => Below w'.heap.size w' w'') (fun w' w'' h1 h2 => bl_trans h1 h2) (Below.refl _ _).drew
              simp only [List.take_succ_cons, List.take_zero, List.drop_succ_cons, List.drop_zero]
              repeat (first
                | (apply wpRel_skip (by rfl)
                   simp only [Act.put, List.setIfInBounds_toArray, List.set_cons_zero, List.set_cons_succ])
                | (apply wpRel_fix (by rfl)
                   · intro w' hC hf R hR
                     have hS := S w' hC
                     go_simp
                     exact hR _ (Below.refl _ _)
                   simp only [Act.put, List.setIfInBounds_toArray, List.set_cons_zero, List.set_cons_succ]))
              apply wpRel_rel (fun v w => SlEn w w7.heap.size v (hv.take jj)) (by rfl) (fun v w w' h hb => h.below hb)
              · intro w' hC hf R hR
                go_simp
                refine (entrys_any ((RdE.taken HSL7.out hjn).below hC) (by rw [HJT.out]; omega)).mono ?_
                rintro e w'' ⟨⟨u, rfl, hs⟩, hb⟩
                exact ⟨_, rfl, hR _ _ (hs.mono hC.size) hb⟩
              intro v1
              simp only [Act.put, List.setIfInBounds_toArray, List.set_cons_zero, List.set_cons_succ]
              repeat (first
                | (apply wpRel_skip (by rfl)
                   simp only [Act.put, List.setIfInBounds_toArray, List.set_cons_zero, List.set_cons_succ])
                | (apply wpRel_fix (by rfl)
                   · intro w' hC hf R hR
                     have hS := S w' hC
                     go_simp
                     exact hR _ (Below.refl _ _)
                   simp only [Act.put, List.setIfInBounds_toArray, List.set_cons_zero, List.set_cons_succ]))
              refine wpRel_nil (fun w5 hC hf => ?_)
              have f1 := hf _ (List.mem_cons_self ..)
              clear hf S
              apply wpList_app entT rfl _ _ rfl rfl f1 rfl (RDT.out.below hC) (by rw [HJT.out, List.length_drop]; exact smallE (by omega)) (by rw [HJT.out, List.length_drop]; omega) hC.size
              intro v6 w6 hs6 ht6
              have hb6 : Below w7.heap.size w7 w6 := hC.trans (ht6.below hC.size (fun y hy => (SlE.lt f1 y hy).1))
              have hb46 := HB7.out.trans (hb6.mono HB7.out.size)
              have hu6 : SlEn w6 w4.heap.size v6 (hv.take jj ++ hv.drop (jj + 1)) := by have := hs6; rw [HL.out] at this; exact this.mono HB7.out.size
              have hln : (hv.take jj ++ hv.drop (jj + 1)).length = hv.length - 1 := by rw [List.length_append, List.length_take, List.length_drop]; omega
              have HPN := Lib.hid (HPC.out.set hsub1.out HNB4.out HKP.out hb46 hu6 (HPC.out.have'.del HJX.out HXN.out) hln (by rw [hln]; have := HPC.out.len; omega) (mem_del_sz HPC.out.sz))
              have HCN := Lib.hid (HC4.out.below hb46)
              clear hb6 hb46 hu6 hln hs6 ht6 f1 hC
              go_wp2_with fail
              go_meet
              case rel => exact ⟨_, _, Lib.hid ⟨HPN.out, HCN.out⟩⟩
        -- END del
      -- ARM set
      cases hga : g n1
      case none =>
        as_aux_lemma =>
          have hat : at' = -1 := by rw [← HAT.out]; exact HPC.out.have'.find_none hga
          subst hat
          go_wp2_with fail
          refine (db_set_no HNC.out HMX.out ⟨n1, n2, n3⟩ (.inl hga)).mono ?_
          rintro e w4 ⟨rfl, hd, kp⟩
          have HP4 := Lib.hid (HPC.out.stay hsub1.out hd kp)
          have HC4 := Lib.hid (cop_keepD HCP.out hsub2.out kp)
          clear hd kp e0 e1 e2
          go_wp2_with fail
          go_meet
          case rel => exact ⟨hv, g, Lib.hid ⟨HP4.out.next, HC4.out⟩⟩
      case some x =>
        obtain ⟨jj, hat, hjx, hjl⟩ := HPC.out.have'.find_some hga
        have hjat : at' = (jj : Int) := by rw [← HAT.out]; exact hat
        subst hjat
        have hj0' : (0 : Int) ≤ (jj : Int) := by omega
        have hj1' : (jj : Int) < (hv.length : Int) := by omega
        have HGA := Lib.hid hga
        have HJX := Lib.hid hjx
        clear hga hjx hat
        cases hmb : mayB ⟨n1, n2, n3⟩
        case' false =>
          have HMB := Lib.hid hmb
          clear hmb
          go_wp2_with fail
          refine (right_any ⟨n1, n2, n3⟩ _).mono ?_
          rintro e w4 ⟨rfl, hb4⟩
          rw [HMB.out]
          have e0' := (hb4.cell (p := ⟨bd, 0, none⟩) HDC.out.lt).trans e0
          have e1' := (hb4.cell (p := ⟨bd, 1, none⟩) HDC.out.lt).trans e1
          have e2' := (hb4.cell (p := ⟨bd, 2, none⟩) HDC.out.lt).trans e2
          have HN4 := Lib.hid (HNC.out.below hb4).1
          have HP4 := Lib.hid (HPC.out.below hb4)
          have HC4 := Lib.hid (HCP.out.below hb4)
          clear hb4 e0 e1 e2
          go_wp2_with fail
          refine (db_set_no HN4.out HMX.out ⟨n1, n2, n3⟩ (.inr HMB.out)).mono ?_
          rintro e w5 ⟨rfl, hd, kp⟩
          have HP5 := Lib.hid (HP4.out.stay hsub1.out hd kp)
          have HC5 := Lib.hid (cop_keepD HC4.out hsub2.out kp)
          clear hd kp e0' e1' e2'
          go_wp2_with fail
          go_meet
          case' rel => exact ⟨hv, g, Lib.hid ⟨HP5.out.next, HC5.out⟩⟩
        case' true =>
          have HMB := Lib.hid hmb
          clear hmb
          go_wp2_with fail
          refine (right_any ⟨n1, n2, n3⟩ _).mono ?_
          rintro e w4 ⟨rfl, hb4⟩
          rw [HMB.out]
          have hbl := HDC.out.lt
          have e0' := (hb4.cell (p := ⟨bd, 0, none⟩) hbl).trans e0
          have e1' := (hb4.cell (p := ⟨bd, 1, none⟩) hbl).trans e1
          have e2' := (hb4.cell (p := ⟨bd, 2, none⟩) hbl).trans e2
          have HN4 := Lib.hid (HNC.out.below hb4).1
          have HP4 := Lib.hid (HPC.out.below hb4)
          have HC4 := Lib.hid (HCP.out.below hb4)
          clear hb4 e0 e1 e2 hbl
          go_wp2_with fail
          refine (db_set HN4.out HMX.out ⟨n1, n2, n3⟩ (by rw [HGA.out]; rfl) HMB.out).mono ?_
          rintro e w5 ⟨rfl, hd, kp⟩
          have hdr := HDC.out
          have e1'' : w5.cell? ⟨bd, 1, none⟩ = some (.int .i64 n2) := (World.cell?_of_block (w := w4) (kp.loc bd hsub3.out)).trans e1'
          have e2'' : w5.cell? ⟨bd, 2, none⟩ = some (.int .i64 n3) := (World.cell?_of_block (w := w4) (kp.loc bd hsub3.out)).trans e2'
          have hsl := (HP4.out.turn hsub1.out hd kp).2.1
          have HC5 := Lib.hid (cop_keepD HC4.out hsub2.out kp)
          rcases hsl.cases with ⟨_, rfl⟩ | ⟨gb, cq, hu9, -⟩
          · simp at hjl
          have hob : u9.ownBlock = some gb := by rw [hu9]; rfl
          have HPW := Lib.hid (HP4.out.write hsub1.out hd kp hob HJX.out (HPC.out.have'.name HGA.out) HMX.out)
          obtain ⟨hgd, hgs⟩ := HSEP.out gb hob
          have HCW := Lib.hid (cop_setD (cop_setD HC5.out (p := ⟨gb, jj * 3 + 1, none⟩) hgs (.int .i64 n2)) (p := ⟨gb, jj * 3 + 2, none⟩) hgs (.int .i64 n3))
          have f1 := hsl.froz hob (jj * 3 + 1)
          have f2 := hsl.froz hob (jj * 3 + 2)
          have hrd := hsl.rd encEl_len
          rw [hu9] at hrd
          obtain ⟨h2, off2, hs2, hh2, hc2⟩ := elCells hrd hjl
          injection hs2 with hs2
          injection hs2 with t1 t2
          subst t1 t2
          have q1 := hc2 1 (by omega)
          have q2 := hc2 2 (by omega)
          simp only [encEl, List.getElem?_cons_zero, List.getElem?_cons_succ, Nat.zero_add] at q1 q2
          have hdg : ¬ bd = gb := fun h => hgd h.symm
          have hgd' : ¬ gb = bd := hgd
          subst hu9
          clear hd kp e0' e1' e2' hc2 hrd hsl hgs hdr hgd
          go_wp2_with fail
          go_meet
          case' rel => exact ⟨_, _, Lib.hid ⟨HPW.out, HCW.out⟩⟩
      -- END set
    case rest =>
      as_aux_lemma =>
        obtain ⟨hv', g', HH⟩ := hcut
        have hvl2 : hv'.length ≤ 50 := by have := HH.out.1.len; omega
        have hnn : ((hv'.length : Int) != (hv'.length : Int)) = false := by simp
        have hnn2 : ((hv.length : Int) != (hv.length : Int)) = false := by simp
        go_wp2_with fail
        refine (dlen_any HH.out.2).mono ?_
        rintro e w4 ⟨rfl, rfl⟩
        obtain ⟨sq, cq, hu9, hcq⟩ := RdE.shape (SlE.rd HH.out.1.sl encEl_len)
        subst hu9
        go_wp2_with fail
        refine (db_len HH.out.1.db).mono ?_
        rintro e w4 ⟨rfl, rfl⟩
        go_wp2_with fail
        refine (db_all' HH.out.1.db (by omega) HH.out.1.sz).mono ?_
        rintro e w5 ⟨⟨va, ks, rfl, hva, hks, -⟩, hb5⟩
        rw [HH.out.1.have'.ents hks] at hva
        have HVA := Lib.hid (hva.rd encEl_len)
        have HP5 := Lib.hid (HH.out.1.below hb5)
        clear hva hks hb5
        go_wp2_with fail
        refine (sameentrys_any HVA.out (SlE.rd HP5.out.sl encEl_len) (by omega)).mono ?_
        rintro e w6 ⟨rfl, hb6⟩
        have HP6 := Lib.hid (HP5.out.below hb6)
        clear hb6 HP5 HVA HH
        simp only [decide_true]
        go_wp2
        go_roundw
        case rel => exact ⟨j + 1, hv', g', by omega, by go_num, HP6⟩
        case measure => first | omega | (show ds.length - ((j : Int) + 1).toNat < ds.length - (j : Int).toNat; omega) | (simp [Go.RowKit.intOf]; omega)
end Go.Proofs.YthominkfjfnkbaaDoor
