/- The walk of the law NodePlays. -/
import Derived.Test.YthominkfjfnkbaaDoorNodePlay
import Derived.Deep.DeepCutAuto
import Derived.Deep.CutBlock
namespace Go.Proofs.YthominkfjfnkbaaDoor
open Go Go.RowKit
set_option maxRecDepth 100000
set_option linter.unusedSimpArgs false
attribute [local go_sem] giv
variable {E : Nat → Addr} {B : Nat}

theorem Env.wide {B' : Nat} {w : World} (h : Env E B w) (hB : B ≤ B') (hs : B' ≤ w.heap.size) : Env E B' w :=
  ⟨hs, fun g hg => Nat.lt_of_lt_of_le (h.glt g hg) hB, fun g hg => Nat.lt_of_lt_of_le (h.elt g hg) hB, h.cell, h.blk, h.inj⟩

theorem new_put {hv : List Nd} {g : Int → Option Nd} {i : Int} (hh : HaveOk hv g) (nd : Nd) (hid : nd.id = i) (hg : g i = none) : HaveOk (putL hv nd) (upd g i nd) ∧ (putL hv nd).length = hv.length + 1 := by
  subst hid
  refine ⟨hh.put nd, ?_⟩
  rw [hh.put_len, hg]
  rfl

theorem vals_read {w : World} {base : Nat} {v : Value} {hv : List Nd} (h : SlVals w base v ((hv.map (·.id)).map (Value.int .i64))) : ∃ sa ca, v = .slice sa hv.length ca ∧ hv.length ≤ ca ∧
    ∀ i (hi : i < hv.length), ∃ h, sa = some ⟨h, 0, none⟩ ∧ h < w.heap.size ∧ w.cell? ⟨h, i, none⟩ = some (.int .i64 hv[i].id) := by
  rcases h with ⟨rfl, hn⟩ | ⟨h, cap, rfl, _, h3, h4, h5⟩
  · have : hv = [] := by
      cases hv with
      | nil => rfl
      | cons a b => simp at hn
    subst this
    exact ⟨none, 0, rfl, Nat.le_refl _, fun i hi => by simp at hi⟩
  · refine ⟨_, cap, by simp only [List.length_map], by simpa using h4, fun i hi => ⟨h, rfl, h3, ?_⟩⟩
    rw [h5 i (by simpa using hi)]
    simp [hi]

set_option maxHeartbeats 8000000 in
theorem nodeplays_any {w : World} {v : Value} {ds : List Do15} (r : RdE w 8 encDo v ds) (hok : ∀ d ∈ ds, okDo d) (ask : Int) (hask : in64 ask) (hE : Env E B w) :
    Calls Tryd.prog 9 #[v, .int .i64 ask] w fun e w' => e = .returned (.bool true) ∧ Below w.heap.size w w' := by
  obtain ⟨sp, cap, rfl, hcap⟩ := RdE.shape r
  have HE := Lib.hid hE
  have HR := Lib.hid r
  have HOK := Lib.hid hok
  have HBW := Lib.hid hE.size
  have HASK := Lib.hid hask
  clear hE r hok hask
  go_enter Tryd.func9, Tryd.ntmps9
  go_wp2_with fail
  refine (first15 _ HE.out).mono ?_
  rintro e w1 ⟨rfl, hb1⟩
  have HR1 := Lib.hid (RdE.below HR.out hb1)
  have HE1 := Lib.hid (HE.out.below hb1)
  have HB1 := Lib.hid hb1
  clear hb1
  by_cases h50 : (ds.length : Int) ≤ 50
  case neg =>
    go_wp2
    go_ret
    exact ⟨rfl, HB1.out⟩
  go_wp2_with fail
  have HP0 : Hid (Play E B w (w1.alloc (.cells #[.map none, .int .i64 0] 41)) (.slice none 0 0) w1.heap.size 0 0 [] (fun _ => none)) := Lib.hid (by
    have hnb : NB w.heap.size [] (w1.alloc (.cells #[.map none, .int .i64 0] 41)) w1.heap.size (fun _ => none) 0 0 := NB.new w1 HB1.out.size (by simp)
    exact Play.start hnb (HE1.out.alloc _) (HB1.out.trans ((bl_alloc (Below.refl _ _) _).mono HB1.out.size)) HBW.out)
  clear HE1 HB1 HR1
  generalize w1.heap.size = bt at *
  go_loopw [7, 8, 9, 10, 11, 12, 13, 14, 15, 16, 17, 18, 19, 20, 21, 22] (fun v7 v8 v9 _ _ _ _ _ _ _ _ _ _ _ _ _ wr => ∃ (j : Nat) (last : Int) (hv : List Nd) (g : Int → Option Nd), j ≤ ds.length ∧ v9 = .int .i64 j ∧ v8 = .int .i64 last ∧ Hid (Play E B w wr v7 bt last j hv g)) (fun _ _ v9 _ _ _ _ _ _ _ _ _ _ _ _ _ _ => ds.length - (intOf v9).toNat)
  case atStart => exact ⟨0, 0, [], _, Nat.zero_le _, rfl, rfl, HP0⟩
  case round =>
    obtain ⟨j, last, hv, g, hj, rfl, rfl, HP⟩ := hrel
    by_cases hlt : j < ds.length
    case neg =>
      obtain rfl : j = ds.length := by omega
      go_wp2
      go_ret
      exact ⟨rfl, HP.out.bel⟩
    obtain ⟨h, off, hsp, hh, hc⟩ := HR.out.cells hlt
    have hdk := HOK.out ds[j] (List.getElem_mem _)
    have HDK := Lib.hid hdk
    clear hdk
    generalize ds[j] = d at *
    obtain ⟨dk, dn, ⟨n1, n2, n3, n4, n5, n6⟩⟩ := d
    have hj0 : (0 : Int) ≤ (j : Int) := by omega
    have hj1 : (j : Int) < (ds.length : Int) := by omega
    have c0 : ∀ i, i < 8 → wr.cell? ⟨h, off + j * 8 + i, none⟩ = (encDo ⟨dk, dn, ⟨n1, n2, n3, n4, n5, n6⟩⟩)[i]? := fun i hi => (HP.out.bel.cell (p := ⟨h, off + j * 8 + i, none⟩) hh).trans (hc i hi)
    have e0 := c0 0 (by omega)
    have e1 := c0 1 (by omega)
    have e2 := c0 2 (by omega)
    have e3 := c0 3 (by omega)
    have e4 := c0 4 (by omega)
    have e5 := c0 5 (by omega)
    have e6 := c0 6 (by omega)
    have e7 := c0 7 (by omega)
    simp only [encDo, List.getElem?_cons_zero, List.getElem?_cons_succ, Nat.add_zero] at e0 e1 e2 e3 e4 e5 e6 e7
    clear c0 hc
    subst hsp
    by_cases h300 : (n5.size : Int) ≤ 300
    case neg =>
      go_wp2
      go_ret
      exact ⟨rfl, bl_alloc HP.out.bel _⟩
    have HD : Hid (Row (wr.alloc (.cells #[.int .i64 dk, .int .i64 dn, .int .i64 n1, .int .i64 n2, .int .i64 n3, .int .i64 n4, .string n5, .int .i64 n6] 72)) wr.heap.size 72 (encDo ⟨dk, dn, ⟨n1, n2, n3, n4, n5, n6⟩⟩)) := Lib.hid (Row.new wr 72 (encDo ⟨dk, dn, ⟨n1, n2, n3, n4, n5, n6⟩⟩))
    have HPD := Lib.hid (HP.out.below (bl_alloc (Below.refl wr.heap.size wr) (.cells #[.int .i64 dk, .int .i64 dn, .int .i64 n1, .int .i64 n2, .int .i64 n3, .int .i64 n4, .string n5, .int .i64 n6] 72)))
    have HNB : Hid (NB w.heap.size (wr.heap.size :: u7.ownBlock.toList) (wr.alloc (.cells #[.int .i64 dk, .int .i64 dn, .int .i64 n1, .int .i64 n2, .int .i64 n3, .int .i64 n4, .string n5, .int .i64 n6] 72)) bt g hv.length last) := Lib.hid (HP.out.nb.loc (.cells #[.int .i64 dk, .int .i64 dn, .int .i64 n1, .int .i64 n2, .int .i64 n3, .int .i64 n4, .string n5, .int .i64 n6] 72))
    go_wp2_with fail
    clear e0 e1 e2 e3 e4 e5 e6 e7 HP
    generalize wr.alloc (.cells #[.int .i64 dk, .int .i64 dn, .int .i64 n1, .int .i64 n2, .int .i64 n3, .int .i64 n4, .string n5, .int .i64 n6] 72) = wd at *
    generalize wr.heap.size = bd at *
    refine (nb_clone HPD.out.nb).mono ?_
    rintro e wc ⟨⟨b', m', rfl, hcp, hcb⟩, hbc⟩
    have HNC := Lib.hid (HNB.out.add hbc (ownL b' m') hcb)
    have HPC := Lib.hid (HPD.out.below hbc)
    have HDC := Lib.hid (HD.out.below hbc)
    have HCP := Lib.hid hcp
    clear hbc hcb hcp HNB HPD HD
    go_wp2_with fail
    refine (nlen_any HCP.out).mono ?_
    rintro e w2 ⟨rfl, rfl⟩
    have hl : ∀ i, wc.cell? ⟨bd, i, none⟩ = (encDo ⟨dk, dn, ⟨n1, n2, n3, n4, n5, n6⟩⟩)[i]? := fun i => HDC.out.cell i
    have e0 := hl 0
    have e1 := hl 1
    have e2 := hl 2
    have e3 := hl 3
    have e4 := hl 4
    have e5 := hl 5
    have e6 := hl 6
    have e7 := hl 7
    simp only [encDo, List.getElem?_cons_zero, List.getElem?_cons_succ] at e0 e1 e2 e3 e4 e5 e6 e7
    clear hl
    go_upto_block 2 with fail
    go_cut [7, 8] (fun s7 s8 wx => ∃ (last' : Int) (hv' : List Nd) (g' : Int → Option Nd), s8 = .int .i64 last' ∧ Hid (Play E B w wx s7 bt last' (j + 1) hv' g' ∧ NodesAt wx b' m' g hv.length last))
    case first =>
      have hvl : hv.length ≤ 50 := by have := HPC.out.len; omega
      have hlo := HPC.out.lo
      have hsub1 : Hid (∀ x ∈ u7.ownBlock.toList, x ∈ ownL b' m' ++ (bd :: u7.ownBlock.toList)) := Lib.hid (fun x hx => List.mem_append_right _ (List.mem_cons_of_mem _ hx))
      have hsub2 : Hid (∀ x ∈ ownL b' m', x ∈ ownL b' m' ++ (bd :: u7.ownBlock.toList)) := Lib.hid (fun x hx => List.mem_append_left _ hx)
      have hsub3 : Hid (bd ∈ ownL b' m' ++ (bd :: u7.ownBlock.toList)) := Lib.hid (List.mem_append_right _ (List.mem_cons_self ..))
      have hsl := Lib.hid (SlE.rd HPC.out.sl encNs_len)
      have HDN := Lib.hid HDK.out
      have HEW := Lib.hid (HPC.out.env.wide HPC.out.bl HPC.out.bel.size)
      by_cases hk1 : dk = 1
      · subst hk1
        have hcode : (codeOf 3 == (103 : Int)) = true := by decide
        have hcode4 : (codeOf 4 == (104 : Int)) = true := by decide
        have HC3 := Lib.hid hcode
        have HC4 := Lib.hid hcode4
        clear hcode hcode4
        cases hkb : kindB dn
        case false =>
          as_aux_lemma =>
            have hkb2 : ¬ (1 ≤ dn ∧ dn ≤ 3) := by
              rintro ⟨h1, h2⟩
              simp [kindB, h1, h2] at hkb
            by_cases hd1 : dn < 1
            all_goals
              go_wp2_with fail
              refine (nb_new_bad HNC.out hkb HEW.out).mono ?_
              rintro e w3 ⟨rfl, hnb, kp⟩
              have HP3 := Lib.hid (HPC.out.stay hsub1.out hnb kp)
              have e1' : w3.cell? ⟨bd, 1, none⟩ = some (.int .i64 dn) := (World.cell?_of_block (w := wc) (kp.loc bd hsub3.out)).trans e1
              clear hnb kp e0 e1 e2 e3 e4 e5 e6 e7
              try have hd3 : 3 < dn := by omega
              clear hkb2
              go_wp2_with fail
              refine (is_err (g := 3) (by decide) 103 _ HP3.out.env).mono ?_
              rintro e w4 ⟨rfl, hb4⟩
              rw [HC3.out]
              have HP4 := Lib.hid (HP3.out.below hb4)
              clear hb4 HP3
              go_wp2
              go_roundw
              case rel => exact ⟨j + 1, last, hv, g, by omega, by go_num, rfl, Lib.hid HP4.out.next⟩
              case measure => first | omega | (show ds.length - ((j : Int) + 1).toNat < ds.length - (j : Int).toNat; omega) | (simp [Go.RowKit.intOf]; omega)
        case true =>
          have hkb2 : 1 ≤ dn ∧ dn ≤ 3 := by simpa [kindB] using hkb
          by_cases hfull : 16777215 ≤ last
          case pos =>
            as_aux_lemma =>
              have hkb3 := hkb2.1
              have hkb4 := hkb2.2
              go_wp2_with fail
              refine (nb_new_full HNC.out hkb (.inr hfull) HEW.out).mono ?_
              rintro e w3 ⟨rfl, hnb, kp⟩
              have HP3 := Lib.hid (HPC.out.stay hsub1.out hnb kp)
              have e1' : w3.cell? ⟨bd, 1, none⟩ = some (.int .i64 dn) := (World.cell?_of_block (w := wc) (kp.loc bd hsub3.out)).trans e1
              clear hnb kp e0 e1 e2 e3 e4 e5 e6 e7 hkb2
              go_wp2_with fail
              refine (is_err (g := 4) (by decide) 104 _ HP3.out.env).mono ?_
              rintro e w4 ⟨rfl, hb4⟩
              rw [HC4.out]
              have HP4 := Lib.hid (HP3.out.below hb4)
              clear hb4 HP3
              go_wp2
              go_roundw
              case rel => exact ⟨j + 1, last, hv, g, by omega, by go_num, rfl, Lib.hid HP4.out.next⟩
              case measure => first | omega | (show ds.length - ((j : Int) + 1).toNat < ds.length - (j : Int).toNat; omega) | (simp [Go.RowKit.intOf]; omega)
          have hlt2 : last < 16777215 := by omega
          have HGN := Lib.hid (HPC.out.far (last + 1) (by omega))
          have hk3 : dn = 1 ∨ dn = 2 ∨ dn = 3 := by omega
          rcases hk3 with rfl | rfl | rfl
          case' inl =>
            have HND : Hid (newNd (last + 1) 1 = ⟨last + 1, 1, 0, 0, { data := #[] }, 0⟩) := Lib.hid (by simp [newNd])
            have HPUT := Lib.hid (new_put HPC.out.have' ⟨last + 1, 1, 0, 0, { data := #[] }, 0⟩ rfl HGN.out)
          case' inr.inl =>
            have HND : Hid (newNd (last + 1) 2 = ⟨last + 1, 2, 0, 0, { data := #[] }, 1⟩) := Lib.hid (by simp [newNd])
            have HPUT := Lib.hid (new_put HPC.out.have' ⟨last + 1, 2, 0, 0, { data := #[] }, 1⟩ rfl HGN.out)
          case' inr.inr =>
            have HND : Hid (newNd (last + 1) 3 = ⟨last + 1, 3, 0, 0, { data := #[47] }, 0⟩) := Lib.hid (by simp [newNd])
            have HPUT := Lib.hid (new_put HPC.out.have' ⟨last + 1, 3, 0, 0, { data := #[47] }, 0⟩ rfl HGN.out)
          all_goals
            as_aux_lemma =>
              go_wp2_with fail
              refine (nb_new HNC.out hkb (by omega) ⟨hlo.1, hlt2⟩ HGN.out HEW.out).mono ?_
              rintro e w3 ⟨rfl, hnb, kp⟩
              have e1' := (World.cell?_of_block (w := wc) (a := ⟨bd, 1, none⟩) (kp.loc bd hsub3.out)).trans e1
              rw [HND.out] at hnb
              have HNB3 := Lib.hid hnb
              have HKP := Lib.hid kp
              have HS3 := Lib.hid (SlE.rd (HPC.out.turn hsub1.out hnb kp).2.1 encNs_len)
              have hbd3 : bd < w3.heap.size := (HDC.out.keep (kp.loc bd hsub3.out)).lt
              clear hnb kp e0 e1 e2 e3 e4 e5 e6 e7 hkb2 HND
              go_wp2_with fail
              refine (put_any (RdE.below HS3.out ?hb) ?hl ⟨last + 1, _, 0, 0, _, _⟩).mono ?_
              case hb => first | exact bl_alloc (Below.refl _ _) _ | exact (bl_alloc (Below.refl _ _) _).setCell (Nat.le_refl _) _
              case hl => omega
              rintro e w5 ⟨⟨u, rfl, hu⟩, hb5⟩
              have hbW : Below w3.heap.size w3 w5 := Below.trans (by first | exact bl_alloc (Below.refl _ _) _ | exact (bl_alloc (Below.refl _ _) _).setCell (Nat.le_refl _) _) (hb5.mono (by simp))
              have hu3 := SlE.mono hu (base' := w3.heap.size) (by simp)
              have HPN := Lib.hid (HPC.out.set hsub1.out HNB3.out HKP.out hbW hu3 HPUT.out.1 HPUT.out.2 (by rw [HPUT.out.2]; have := HPC.out.len; omega) ⟨by omega, by omega⟩ (fun k hk => by unfold upd; rw [if_neg (by omega)]; exact HPC.out.far k (by omega)))
              have HCN := Lib.hid ((cop_keep HCP.out hsub2.out HKP.out).below hbW)
              clear hbW hu3 hu hb5
              go_wp2_with fail
              go_meet
              case rel => exact ⟨last + 1, _, _, rfl, Lib.hid ⟨HPN.out, HCN.out⟩⟩
      · by_cases hk2 : dk = 2
        case pos =>
          subst hk2
          cases hvb : validB ⟨n1, n2, n3, n4, n5, n6⟩
          case false =>
            as_aux_lemma =>
              go_wp2_with fail
              refine (nb_put_bad HNC.out ⟨n1, n2, n3, n4, n5, n6⟩ hvb HEW.out).mono ?_
              rintro e w3 ⟨rfl, hnb, kp⟩
              have HDR := Lib.hid (HDC.out.keep (kp.loc bd hsub3.out))
              have S : ∀ w', Below w3.heap.size w3 w' → w'.cell? ⟨bd, 2, none⟩ = some (.int .i64 n1) ∧ w'.cell? ⟨bd, 3, none⟩ = some (.int .i64 n2) ∧ w'.cell? ⟨bd, 4, none⟩ = some (.int .i64 n3) ∧ w'.cell? ⟨bd, 5, none⟩ = some (.int .i64 n4) ∧ w'.cell? ⟨bd, 6, none⟩ = some (.string n5) ∧ w'.cell? ⟨bd, 7, none⟩ = some (.int .i64 n6) := by
                intro w' hb
                have hr := HDR.out.below hb
                exact ⟨hr.cell 2, hr.cell 3, hr.cell 4, hr.cell 5, hr.cell 6, hr.cell 7⟩
              have HNB3 := Lib.hid hnb
              have HKP := Lib.hid kp
              have HVB := Lib.hid hvb
              clear hnb kp e0 e1 e2 e3 e4 e5 e6 e7 hvb
              go_wp2_with fail
              apply wp_region_rel _ (by kernel_rfl) (by kernel_rfl) (fun w' => Below w3.heap.size w3 w') (fun w' w'' => Below w'.heap.size w' w'') (fun w' w'' h1 h2 => bl_trans h1 h2) (Below.refl _ _).drew
              repeat (first
                | (apply wpRel_skip (by rfl)
                   simp only [Act.put, List.setIfInBounds_toArray, List.set_cons_zero, List.set_cons_succ])
                | (apply wpRel_fix (by rfl)
                   · intro w' hC hf R hR
                     have hS := S w' hC
                     go_simp
                     exact hR _ (Below.refl _ _)
                   simp only [Act.put, List.setIfInBounds_toArray, List.set_cons_zero, List.set_cons_succ]))
              apply wpRel_fix (by rfl)
              · intro w' hC hf R hR
                go_simp
                refine (fits_any ⟨n1, n2, n3, n4, n5, n6⟩ _).mono ?_
                rintro e w'' ⟨rfl, hb⟩
                exact ⟨.bool false, by rw [HVB.out], hR _ hb⟩
              simp only [Act.put, List.setIfInBounds_toArray, List.set_cons_zero, List.set_cons_succ]
              repeat (first
                | (apply wpRel_skip (by rfl)
                   simp only [Act.put, List.setIfInBounds_toArray, List.set_cons_zero, List.set_cons_succ])
                | (apply wpRel_fix (by rfl)
                   · intro w' hC hf R hR
                     have hS := S w' hC
                     go_simp
                     exact hR _ (Below.refl _ _)
                   simp only [Act.put, List.setIfInBounds_toArray, List.set_cons_zero, List.set_cons_succ]))
              refine wpRel_nil (fun w4 hC hf => ?_)
              have HB4 := Lib.hid hC
              clear hf
              have HP3 := Lib.hid ((HPC.out.stay hsub1.out HNB3.out HKP.out).below hC)
              have HCN := Lib.hid ((cop_keep HCP.out hsub2.out HKP.out).below hC)
              clear hC S
              go_wp2_with fail
              go_meet
              case rel => exact ⟨last, hv, g, rfl, Lib.hid ⟨HP3.out.next, HCN.out⟩⟩
          case true =>
            as_aux_lemma =>
              have HID := Lib.hid (valid_id hvb)
              go_wp2_with fail
              refine (nb_put HNC.out ⟨n1, n2, n3, n4, n5, n6⟩ hvb (fun _ => by omega) HEW.out).mono ?_
              rintro e w3 ⟨rfl, hnb, kp⟩
              have HDR := Lib.hid (HDC.out.keep (kp.loc bd hsub3.out))
              have S : ∀ w', Below w3.heap.size w3 w' → w'.cell? ⟨bd, 2, none⟩ = some (.int .i64 n1) ∧ w'.cell? ⟨bd, 3, none⟩ = some (.int .i64 n2) ∧ w'.cell? ⟨bd, 4, none⟩ = some (.int .i64 n3) ∧ w'.cell? ⟨bd, 5, none⟩ = some (.int .i64 n4) ∧ w'.cell? ⟨bd, 6, none⟩ = some (.string n5) ∧ w'.cell? ⟨bd, 7, none⟩ = some (.int .i64 n6) := by
                intro w' hb
                have hr := HDR.out.below hb
                exact ⟨hr.cell 2, hr.cell 3, hr.cell 4, hr.cell 5, hr.cell 6, hr.cell 7⟩
              have HNB3 := Lib.hid hnb
              have HKP := Lib.hid kp
              have HVB := Lib.hid hvb
              clear hnb kp e0 e1 e2 e3 e4 e5 e6 e7 hvb
              go_wp2_with fail
              apply wp_region_rel _ (by kernel_rfl) (by kernel_rfl) (fun w' => Below w3.heap.size w3 w') (fun w' w'' => Below w'.heap.size w' w'') (fun w' w'' h1 h2 => bl_trans h1 h2) (Below.refl _ _).drew
              repeat (first
                | (apply wpRel_skip (by rfl)
                   simp only [Act.put, List.setIfInBounds_toArray, List.set_cons_zero, List.set_cons_succ])
                | (apply wpRel_fix (by rfl)
                   · intro w' hC hf R hR
                     have hS := S w' hC
                     go_simp
                     exact hR _ (Below.refl _ _)
                   simp only [Act.put, List.setIfInBounds_toArray, List.set_cons_zero, List.set_cons_succ]))
              apply wpRel_fix (by rfl)
              · intro w' hC hf R hR
                go_simp
                refine (fits_any ⟨n1, n2, n3, n4, n5, n6⟩ _).mono ?_
                rintro e w'' ⟨rfl, hb⟩
                exact ⟨.bool true, by rw [HVB.out], hR _ hb⟩
              simp only [Act.put, List.setIfInBounds_toArray, List.set_cons_zero, List.set_cons_succ]
              repeat (first
                | (apply wpRel_skip (by rfl)
                   simp only [Act.put, List.setIfInBounds_toArray, List.set_cons_zero, List.set_cons_succ])
                | (apply wpRel_fix (by rfl)
                   · intro w' hC hf R hR
                     have hS := S w' hC
                     go_simp
                     exact hR _ (Below.refl _ _)
                   simp only [Act.put, List.setIfInBounds_toArray, List.set_cons_zero, List.set_cons_succ]))
              refine wpRel_nil (fun w4 hC hf => ?_)
              have HB4 := Lib.hid hC
              clear hf
              have HS4 := Lib.hid (RdE.below (SlE.rd (HPC.out.turn hsub1.out HNB3.out HKP.out).2.1 encNs_len) hC)
              have hS4 := S w4 hC
              clear hC S
              go_wp2_with fail
              refine (put_any HS4.out ?hl ⟨n1, n2, n3, n4, n5, n6⟩).mono ?_
              case hl => omega
              rintro e w5 ⟨⟨u, rfl, hu⟩, hb5⟩
              have hbW : Below w3.heap.size w3 w5 := HB4.out.trans (hb5.mono HB4.out.size)
              have hu3 := SlE.mono hu HB4.out.size
              have hplen := HPC.out.have'.put_len ⟨n1, n2, n3, n4, n5, n6⟩
              have HPN := Lib.hid (HPC.out.set hsub1.out HNB3.out HKP.out hbW hu3 (HPC.out.have'.put ⟨n1, n2, n3, n4, n5, n6⟩) hplen (by rw [hplen]; have := HPC.out.len; split <;> omega)
                ⟨by have := HID.out; omega, by have := HID.out; omega⟩ (fun k hk => by unfold upd; rw [if_neg (by omega)]; exact HPC.out.far k (by omega)))
              have HCN := Lib.hid ((cop_keep HCP.out hsub2.out HKP.out).below hbW)
              have c2 : w5.cell? ⟨bd, 2, none⟩ = some (.int .i64 n1) := (HDR.out.below hbW).cell 2
              clear hbW hu3 hu hb5 hplen hS4
              go_wp2_with fail
              all_goals
                go_meet
                case rel => exact ⟨max last n1, _, _, congrArg (Value.int .i64) (by omega), Lib.hid ⟨HPN.out, HCN.out⟩⟩
        case neg =>
          have HK3 := hk2
          have q1 : (dk == 1) = false := by simpa using hk1
          have q2 : (dk == 2) = false := by simpa using hk2
          cases hgd : g dn
          case none =>
            as_aux_lemma =>
              have hat := HPC.out.have'.at_none hgd
              have HGD := Lib.hid hgd
              clear hgd
              go_wp2_with fail
              refine (at_any hsl.out (by omega) dn).mono ?_
              rintro e w3 ⟨rfl, hb3⟩
              rw [hat]
              have HN3 := Lib.hid (HNC.out.below hb3).1
              have HP3 := Lib.hid (HPC.out.below hb3)
              have HC3 := Lib.hid (HCP.out.below hb3)
              have e1' := (HDC.out.below hb3).cell 1
              simp only [encDo, List.getElem?_cons_zero, List.getElem?_cons_succ] at e1'
              clear hb3 e0 e1 e2 e3 e4 e5 e6 e7 hat
              go_wp2_with fail
              refine (nb_del HN3.out HDN.out.1).mono ?_
              rintro e w4 ⟨rfl, hnb, kp⟩
              rw [HGD.out, del_none HGD.out] at hnb
              simp only [Option.isSome_none, Bool.false_eq_true, if_false] at hnb
              rw [HGD.out]
              simp only [Option.isSome_none]
              have HP4 := Lib.hid (HP3.out.stay hsub1.out hnb kp)
              have HC4 := Lib.hid (cop_keep HC3.out hsub2.out kp)
              clear hnb kp
              go_wp2_with fail
              go_meet
              case rel => exact ⟨last, hv, g, rfl, Lib.hid ⟨HP4.out.next, HC4.out⟩⟩
          case some x =>
            obtain ⟨jj, hat, hjx, hjl⟩ := HPC.out.have'.at_some hgd
            have HGD := Lib.hid hgd
            have HJX := Lib.hid hjx
            have hj0' : (0 : Int) ≤ (jj : Int) := by omega
            clear hgd hjx
            go_wp2_with fail
            refine (at_any hsl.out (by omega) dn).mono ?_
            rintro e w3 ⟨rfl, hb3⟩
            rw [hat]
            have HN3 := Lib.hid (HNC.out.below hb3).1
            have HP3 := Lib.hid (HPC.out.below hb3)
            have HC3 := Lib.hid (HCP.out.below hb3)
            have e1' := (HDC.out.below hb3).cell 1
            simp only [encDo, List.getElem?_cons_zero, List.getElem?_cons_succ] at e1'
            clear hb3 e0 e1 e2 e3 e4 e5 e6 e7 hat
            go_wp2_with fail
            refine (nb_del HN3.out HDN.out.1).mono ?_
            rintro e w4 ⟨rfl, hnb, kp⟩
            rw [HGD.out] at hnb
            simp only [Option.isSome_some, if_true] at hnb
            rw [HGD.out]
            simp only [Option.isSome_some]
            have HNB4 := Lib.hid hnb
            have HKP := Lib.hid kp
            have HSL4 := Lib.hid (SlE.rd (HP3.out.turn hsub1.out hnb kp).2.1 encNs_len)
            have HC4 := Lib.hid (cop_keep HC3.out hsub2.out kp)
            clear hnb kp
            obtain ⟨sq, cq, hu7, hcq⟩ := RdE.shape HSL4.out
            obtain ⟨l, hl⟩ : ∃ l, l = jj + 1 := ⟨_, rfl⟩
            have hcast : IntKind.i64.wrap ((jj : Int) + 1) = (l : Int) := by rw [IntWalk.i64_in _ (by omega)]; omega
            have hl0 : (0 : Int) ≤ (l : Int) := by omega
            have hl1 : (l : Int) ≤ (hv.length : Int) := by omega
            have hl2 : l ≤ hv.length := by omega
            have hjq : jj ≤ cq := by omega
            have hjn : jj ≤ hv.length := by omega
            have HL := Lib.hid hl
            have HJT : Hid ((hv.take jj).length = jj) := Lib.hid (by rw [List.length_take]; omega)
            subst hu7
            obtain ⟨h2, off2, hsq, hh2, _⟩ := HSL4.out.cells hjl
            subst hsq
            clear hl
            by_cases hcl : cq = l
            case' pos =>
              subst hcl
              have RDT : Hid (RdN w4 (.slice (some ⟨h2, off2, none⟩) 0 0) (hv.drop cq)) := Lib.hid (by rw [List.drop_of_length_le (by omega)]; exact RdE.empty _ _ _ _)
            case' neg =>
              have hcl2 : (cq = l) = False := by simp [hcl]
              have RDT := Lib.hid (RdE.droppedF HSL4.out hl2 hcl)
            all_goals
              as_aux_lemma =>
                have S : ∀ w', Below w4.heap.size w4 w' → True := fun _ _ => trivial
                go_wp2_with fail
                apply wp_region_tail 9 _ (by kernel_rfl) (by kernel_rfl) (by kernel_rfl) (by decide) (fun w' => Below w4.heap.size w4 w') (fun w' w'' => Below w'.heap.size w' w'') (fun w' w'' h1 h2 => bl_trans h1 h2) (Below.refl _ _).drew
                simp only [List.take_succ_cons, List.take_zero, List.drop_succ_cons, List.drop_zero]
                apply wpRel_rel (fun v w => ∃ c, v = .slice (some ⟨c, 0, none⟩) 0 0 ∧ w4.heap.size ≤ c ∧ Row w c 44 []) (by rfl) (fun v w w' h hb => by obtain ⟨c, h1, h2, h3⟩ := h; exact ⟨c, h1, h2, h3.below hb⟩)
                · intro w' hC hf R hR
                  go_simp
                  exact hR _ _ ⟨_, rfl, hC.size, Row.new w' 44 []⟩ (bl_alloc (Below.refl _ _) _)
                intro v0
                simp only [Act.put, List.setIfInBounds_toArray, List.set_cons_zero, List.set_cons_succ]
                repeat (first
                  | (apply wpRel_skip (by rfl)
                     simp only [Act.put, List.setIfInBounds_toArray, List.set_cons_zero, List.set_cons_succ])
                  | (apply wpRel_fix (by rfl)
                     · intro w' hC hf R hR
                       have hS := S w' hC
                       go_simp
                       exact hR _ (Below.refl _ _)
                     simp only [Act.put, List.setIfInBounds_toArray, List.set_cons_zero, List.set_cons_succ]))
                apply wpRel_rel (fun v w => SlN w w4.heap.size v (hv.take jj)) (by rfl) (fun v w w' h hb => h.below hb)
                · intro w' hC hf R hR
                  obtain ⟨c, hv0, hc, hrow⟩ := hf _ (List.mem_cons_self ..) (by kernel_rfl)
                  exact giv_app_full nodT _ _ rfl (xs := []) rfl hv0 (emptyRow hrow) hc rfl ((RdE.taken HSL4.out hjn).below hC) (by rw [HJT.out]; exact sm_max (by simp; omega)) (by rw [HJT.out]; simp; omega) fun v' w'' h1 h2 => hR _ _ h1 h2
                intro v1
                simp only [Act.put, List.setIfInBounds_toArray, List.set_cons_zero, List.set_cons_succ]
                repeat (first
                  | (apply wpRel_skip (by rfl)
                     simp only [Act.put, List.setIfInBounds_toArray, List.set_cons_zero, List.set_cons_succ])
                  | (apply wpRel_fix (by rfl)
                     · intro w' hC hf R hR
                       have hS := S w' hC
                       go_simp
                       exact hR _ (Below.refl _ _)
                     simp only [Act.put, List.setIfInBounds_toArray, List.set_cons_zero, List.set_cons_succ]))
                refine wpRel_nil (fun w5 hC hf => ?_)
                have f1 := hf _ (List.mem_cons_self ..)
                clear hf S
                apply wpList_app nodT rfl _ _ rfl rfl f1 rfl (RDT.out.below hC) (by rw [HJT.out, List.length_drop]; exact sm_max (by omega)) (by rw [HJT.out, List.length_drop]; omega) hC.size
                intro v6 w6 hs6 ht6
                have hb6 : Below w4.heap.size w4 w6 := hC.trans (ht6.below hC.size (fun y hy => (SlE.lt f1 y hy).1))
                have hu6 : SlN w6 w4.heap.size v6 (hv.take jj ++ hv.drop (jj + 1)) := by have := hs6; rw [HL.out] at this; exact this
                have hln : (hv.take jj ++ hv.drop (jj + 1)).length = hv.length - 1 := by rw [List.length_append, List.length_take, List.length_drop]; omega
                have hid : x.id = dn := ((HPC.out.have'.get dn x).1 HGD.out).2
                have HPN := Lib.hid (HP3.out.set hsub1.out HNB4.out HKP.out hb6 hu6 (HPC.out.have'.del HJX.out hid) hln (by rw [hln]; have := HPC.out.len; omega) HPC.out.lo (fun k hk => by unfold del; split <;> first | rfl | exact HPC.out.far k hk))
                have HCN := Lib.hid (HC4.out.below hb6)
                clear hb6 hu6 hln hid hs6 ht6 f1 hC
                go_wp2_with fail
                go_meet
                case rel => exact ⟨last, _, _, rfl, Lib.hid ⟨HPN.out, HCN.out⟩⟩
    case rest =>
      as_aux_lemma =>
        clear e0 e1 e2 e3 e4 e5 e6 e7
        obtain ⟨last', hv', g', rfl, HH⟩ := hcut
        have hvl : hv'.length ≤ 50 := by have := HH.out.1.len; omega
        go_wp2_with fail
        refine (at_any (SlE.rd HH.out.1.sl encNs_len) (by omega) ask).mono ?_
        rintro e w3 ⟨rfl, hb3⟩
        have HP3 := Lib.hid (HH.out.1.below hb3)
        have HC3 := Lib.hid (HH.out.2.below hb3)
        clear hb3 HH
        generalize hat : atL hv' ask = at' at *
        have HAT := Lib.hid hat
        clear hat
        go_wp2_with fail
        refine (nb_get' HP3.out.nb HASK.out).mono ?_
        rintro e w4 ⟨rfl, hb4⟩
        generalize hx : (g' ask).getD noNd = x at *
        have HX := Lib.hid hx
        clear hx
        obtain ⟨a1, a2, a3, a4, a5, a6⟩ := x
        unfold encN
        have HBX : Hid (Row (w4.alloc (.cells #[.int .i64 a1, .int .i64 a2, .int .i64 a3, .int .i64 a4, .string a5, .int .i64 a6] 44)) w4.heap.size 44 (encNs ⟨a1, a2, a3, a4, a5, a6⟩)) := Lib.hid (Row.new w4 44 (encNs ⟨a1, a2, a3, a4, a5, a6⟩))
        have HP4 := Lib.hid ((HP3.out.below hb4).below (bl_alloc (Below.refl w4.heap.size w4) (.cells #[.int .i64 a1, .int .i64 a2, .int .i64 a3, .int .i64 a4, .string a5, .int .i64 a6] 44)))
        have HC4 := Lib.hid ((HC3.out.below hb4).below (bl_alloc (Below.refl w4.heap.size w4) (.cells #[.int .i64 a1, .int .i64 a2, .int .i64 a3, .int .i64 a4, .string a5, .int .i64 a6] 44)))
        clear hb4 HP3 HC3
        go_wp2_with fail
        generalize w4.alloc (.cells #[.int .i64 a1, .int .i64 a2, .int .i64 a3, .int .i64 a4, .string a5, .int .i64 a6] 44) = wb at *
        generalize w4.heap.size = nb at *
        refine (nb_all HP4.out.nb (by omega)).mono ?_
        rintro e w5 ⟨⟨va, ks, rfl, hvs, hks, -⟩, hb5⟩
        obtain rfl := HP4.out.have'.keys hks
        obtain ⟨sa, ca, rfl, hca, hcells⟩ := vals_read hvs
        have HCS := Lib.hid hcells
        have HBX5 := Lib.hid (HBX.out.below hb5)
        have HP5 := Lib.hid (HP4.out.below hb5)
        have HC5 := Lib.hid (HC4.out.below hb5)
        clear hvs hks hcells hb5 HBX HP4 HC4
        obtain ⟨sq, cq, hu7, hcq⟩ := RdE.shape (SlE.rd HP5.out.sl encNs_len)
        subst hu7
        have HRV := Lib.hid (SlE.rd HP5.out.sl encNs_len)
        have hnn : ((hv'.length : Int) != (hv'.length : Int)) = false := by simp
        have hnn2 : ((hv.length : Int) != (hv.length : Int)) = false := by simp
        cases hga : g' ask
        case' none =>
          have hat : at' = -1 := by rw [← HAT.out]; exact HP5.out.have'.at_none hga
          subst hat
          have S : ∀ w', Below w5.heap.size w5 w' → True := fun _ _ => trivial
          have hsm : ∀ w : World, True := fun _ => trivial
        case' some x =>
          obtain ⟨jj, hat, hjx, hjl⟩ := HP5.out.have'.at_some hga
          have hjat : at' = (jj : Int) := by rw [← HAT.out]; exact hat
          subst hjat
          have hxx : x = ⟨a1, a2, a3, a4, a5, a6⟩ := by have := HX.out; rw [hga] at this; exact this
          subst hxx
          have hj0' : (0 : Int) ≤ (jj : Int) := by omega
          have hj1' : (jj : Int) < (hv'.length : Int) := by omega
          obtain ⟨h2, off2, hsq, hh2, hc2⟩ := HRV.out.cells hjl
          subst hsq
          have hgx : hv'[jj] = ⟨a1, a2, a3, a4, a5, a6⟩ := by rw [List.getElem?_eq_getElem hjl] at hjx; exact Option.some.inj hjx
          rw [hgx] at hc2
          have S : ∀ w', Below w5.heap.size w5 w' → (w'.cell? ⟨nb, 0, none⟩ = some (.int .i64 a1) ∧ w'.cell? ⟨nb, 1, none⟩ = some (.int .i64 a2) ∧ w'.cell? ⟨nb, 2, none⟩ = some (.int .i64 a3) ∧ w'.cell? ⟨nb, 3, none⟩ = some (.int .i64 a4) ∧ w'.cell? ⟨nb, 4, none⟩ = some (.string a5) ∧ w'.cell? ⟨nb, 5, none⟩ = some (.int .i64 a6)) ∧
              (w'.cell? ⟨h2, off2 + jj * 6, none⟩ = some (.int .i64 a1) ∧ w'.cell? ⟨h2, off2 + jj * 6 + 1, none⟩ = some (.int .i64 a2) ∧ w'.cell? ⟨h2, off2 + jj * 6 + 2, none⟩ = some (.int .i64 a3) ∧ w'.cell? ⟨h2, off2 + jj * 6 + 3, none⟩ = some (.int .i64 a4) ∧ w'.cell? ⟨h2, off2 + jj * 6 + 4, none⟩ = some (.string a5) ∧ w'.cell? ⟨h2, off2 + jj * 6 + 5, none⟩ = some (.int .i64 a6)) := by
            intro w' hb
            have hr := HBX5.out.below hb
            refine ⟨⟨hr.cell 0, hr.cell 1, hr.cell 2, hr.cell 3, hr.cell 4, hr.cell 5⟩, ?_⟩
            have hk : ∀ i, i < 6 → w'.cell? ⟨h2, off2 + jj * 6 + i, none⟩ = (encNs ⟨a1, a2, a3, a4, a5, a6⟩)[i]? := fun i hi => (hb.cell (p := ⟨h2, off2 + jj * 6 + i, none⟩) hh2).trans (hc2 i hi)
            exact ⟨hk 0 (by omega), hk 1 (by omega), hk 2 (by omega), hk 3 (by omega), hk 4 (by omega), hk 5 (by omega)⟩
          clear hc2 hjx hgx hat
        all_goals
          as_aux_lemma =>
            clear hga HX HAT HBX5
            go_wp2_with fail
            apply wp_region_rel _ (by kernel_rfl) (by kernel_rfl) (fun w' => Below w5.heap.size w5 w') (fun w' w'' => Below w'.heap.size w' w'') (fun w' w'' h1 h2 => bl_trans h1 h2) (Below.refl _ _).drew
            repeat (first
              | (apply wpRel_skip (by rfl)
                 simp only [Act.put, List.setIfInBounds_toArray, List.set_cons_zero, List.set_cons_succ])
              | (apply wpRel_fix (by rfl)
                 · intro w' hC hf R hR
                   have hS := S w' hC
                   go_simp
                   exact hR _ (Below.refl _ _)
                 simp only [Act.put, List.setIfInBounds_toArray, List.set_cons_zero, List.set_cons_succ]))
            try
              apply wpRel_fix (by rfl)
              · intro w' hC hf R hR
                go_simp
                refine (same_any ⟨a1, a2, a3, a4, a5, a6⟩ ⟨a1, a2, a3, a4, a5, a6⟩ _).mono ?_
                rintro e w'' ⟨rfl, hb⟩
                exact ⟨.bool true, by simp, hR _ hb⟩
              simp only [Act.put, List.setIfInBounds_toArray, List.set_cons_zero, List.set_cons_succ]
              repeat (first
                | (apply wpRel_skip (by rfl)
                   simp only [Act.put, List.setIfInBounds_toArray, List.set_cons_zero, List.set_cons_succ])
                | (apply wpRel_fix (by rfl)
                   · intro w' hC hf R hR
                     have hS := S w' hC
                     go_simp
                     exact hR _ (Below.refl _ _)
                   simp only [Act.put, List.setIfInBounds_toArray, List.set_cons_zero, List.set_cons_succ]))
            apply wpRel_fix (by rfl)
            · intro w' hC hf R hR
              go_simp
              refine (nb_len (HP5.out.below hC).nb).mono ?_
              rintro e w'' ⟨rfl, rfl⟩
              exact ⟨_, rfl, hR _ (Below.refl _ _)⟩
            simp only [Act.put, List.setIfInBounds_toArray, List.set_cons_zero, List.set_cons_succ]
            repeat (first
              | (apply wpRel_skip (by rfl)
                 simp only [Act.put, List.setIfInBounds_toArray, List.set_cons_zero, List.set_cons_succ])
              | (apply wpRel_fix (by rfl)
                 · intro w' hC hf R hR
                   have hS := S w' hC
                   go_simp
                   exact hR _ (Below.refl _ _)
                 simp only [Act.put, List.setIfInBounds_toArray, List.set_cons_zero, List.set_cons_succ]))
            apply wpRel_fix (by rfl)
            · intro w' hC hf R hR
              go_simp
              refine (nlen_any (HC5.out.below hC)).mono ?_
              rintro e w'' ⟨rfl, rfl⟩
              exact ⟨_, rfl, hR _ (Below.refl _ _)⟩
            simp only [Act.put, List.setIfInBounds_toArray, List.set_cons_zero, List.set_cons_succ]
            repeat (first
              | (apply wpRel_skip (by rfl)
                 simp only [Act.put, List.setIfInBounds_toArray, List.set_cons_zero, List.set_cons_succ])
              | (apply wpRel_fix (by rfl)
                 · intro w' hC hf R hR
                   have hS := S w' hC
                   go_simp
                   exact hR _ (Below.refl _ _)
                 simp only [Act.put, List.setIfInBounds_toArray, List.set_cons_zero, List.set_cons_succ]))
            refine wpRel_nil (fun w6 hC hf => ?_)
            have HPW := Lib.hid (HP5.out.below hC)
            have HRW := Lib.hid (HRV.out.below hC)
            have HCW : Hid (∀ i (hi : i < hv'.length), ∃ h, sa = some ⟨h, 0, none⟩ ∧ h < w6.heap.size ∧ w6.cell? ⟨h, i, none⟩ = some (.int .i64 hv'[i].id)) := Lib.hid (fun i hi => by
              obtain ⟨h, h1, h2, h3⟩ := HCS.out i hi
              exact ⟨h, h1, Nat.lt_of_lt_of_le h2 hC.size, (hC.cell (p := ⟨h, i, none⟩) h2).trans h3⟩)
            clear hC hf S HP5 HRV HCS HC5
            go_wp2_with fail
            go_loopw [22] (fun q wr => ∃ m : Nat, m ≤ hv'.length ∧ q = .int .i64 m ∧ Hid (Below w6.heap.size w6 wr)) (fun q _ => hv'.length - (Go.RowKit.intOf q).toNat)
            case atStart => exact ⟨0, Nat.zero_le _, rfl, Lib.hid (Below.refl _ _)⟩
            case round =>
              obtain ⟨m, hm, rfl, HI⟩ := hrel
              by_cases hmt : m < hv'.length
              · obtain ⟨ha, hsa, hla, hca0⟩ := HCW.out m hmt
                subst hsa
                obtain ⟨h3, off3, hs3, hh3, hc3⟩ := HRW.out.cells hmt
                first
                  | (injection hs3 with hs3; injection hs3 with t1 t2 t3; obtain rfl := t1.symm; obtain rfl := t2.symm)
                  | subst hs3
                have d1 : wr.cell? ⟨ha, m, none⟩ = some (.int .i64 hv'[m].id) := (HI.out.cell (p := ⟨ha, m, none⟩) hla).trans hca0
                have d2 : wr.cell? ⟨h3, off3 + m * 6, none⟩ = some (.int .i64 hv'[m].id) := by
                  have t := hc3 0 (by omega)
                  rw [HI.out.cell (p := ⟨h3, off3 + m * 6, none⟩) hh3]
                  simp only [encNs, Nat.add_zero, List.getElem?_cons_zero] at t
                  exact t
                have hm0 : (0 : Int) ≤ (m : Int) := by omega
                have hm1 : (m : Int) < (hv'.length : Int) := by omega
                clear hc3 hca0
                generalize hv'[m].id = y at *
                have hq : (y != y) = false := by simp
                go_wp2_with fail
                go_quiet (fail)
                go_wp2
                go_roundw
                case rel => exact ⟨m + 1, by omega, by go_num, Lib.hid (HI.out.trans ((drewN_below _ _).mono HI.out.size))⟩
                case measure => first | omega | (show ds.length - ((j : Int) + 1).toNat < ds.length - (j : Int).toNat; omega) | (simp [Go.RowKit.intOf]; omega)
              · obtain rfl : m = hv'.length := by omega
                have HPF := Lib.hid (HPW.out.below HI.out)
                clear hmt hm HI HPW HRW HCW
                go_wp2
                go_roundw
                case rel => exact ⟨j + 1, last', hv', g', by omega, by go_num, rfl, HPF⟩
                case measure => first | omega | (show ds.length - ((j : Int) + 1).toNat < ds.length - (j : Int).toNat; omega) | (simp [Go.RowKit.intOf]; omega)
end Go.Proofs.YthominkfjfnkbaaDoor
