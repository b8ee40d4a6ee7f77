/- PROVED: Rows.TreeLinksCardSaid: for every input the law TreeLinks returns true, and each argument reads as before. Conditions: none beyond the listed package variables, which the card ties to the program's text. -/
import Derived.Test.YtnkcbogikaebfaaGreatDoorBase41
import Derived.Test.YtnkcbogikaebfaaGreatDoorRows
import Derived.Test.YtnkcbogikaebfaaGreatDoorCards
import Derived.Test.YtnkcbogikaebfaaGreatDoorTie
import Derived.Test.YtnkcbogikaebfaaGreatDoorBase05
import Derived.Test.YtnkcbogikaebfaaGreatDoorBase06
import Derived.Test.YtnkcbogikaebfaaGreatDoorBase35
import Derived.Test.YtnkcbogikaebfaaGreatDoorBase36
import Derived.ProofKit
import Derived.OpenShut
import Derived.ChangeOld
import Derived.LaidMore
import Derived.ChangeSame
import Derived.ChangeVars
import Derived.JoinedOf
import Derived.Lay
import Derived.MakeChecks
import Derived.SevenTiedAt
import Derived.Stop.Joined
import Derived.ChangeMaps5
import Derived.Test.YtnkcbogikaebfaaGreatDoorBase42
section
/- The walk of the law TreeLinks. -/
namespace Go.Proofs.YtnkcbogikaebfaaGreatDoor
open Go Go.RowKit
set_option maxRecDepth 100000
set_option linter.unusedSimpArgs false
set_option linter.unusedVariables false
attribute [local go_sem] giv
variable {E : Nat → Addr} {B : Nat}
/-- The links of the first i nodes. -/
def lnkN (st : St) (l : List NR) : Nat := (l.map fun r => st.names r.nd.id + if r.nd.id = 1 then 1 else 0).sum
theorem lnk_take {st : St} {l : List NR} {i : Nat} {r : NR} (h : l[i]? = some r) : lnkN st (l.take (i + 1)) = lnkN st (l.take i) + (st.names r.nd.id + if r.nd.id = 1 then 1 else 0) := by
  obtain ⟨hi, rfl⟩ := List.getElem?_eq_some_iff.1 h
  unfold lnkN
  rw [List.take_succ_eq_append_getElem hi, List.map_append, List.sum_append]
  simp
theorem sumOneL (g : Int → Nat) : ∀ l : List Int, (l.map fun k => g k + if k = 1 then 1 else 0).sum = (l.map g).sum + l.count 1
  | [] => rfl
  | k :: l => by
    rw [List.map_cons, List.sum_cons, List.map_cons, List.sum_cons, sumOneL g l, List.count_cons]
    by_cases h : k = 1 <;> simp [h] <;> omega
theorem lnk_all {st : St} (f : Full st) : lnkN st st.ns = cntL st.ns + 1 := by
  have h1 : lnkN st st.ns = ((st.ns.map fun r => r.nd.id).map fun k => st.names k + if k = 1 then 1 else 0).sum := by
    unfold lnkN
    rw [List.map_map]
    rfl
  obtain ⟨r, hr, _⟩ := f.root
  have hm : (1 : Int) ∈ st.ns.map fun r => r.nd.id := List.mem_map.2 ⟨r, findN_mem hr, findN_id hr⟩
  rw [h1, sumOneL, ← cnt_names f, (rise_nodup f.rise).count, if_pos hm]
theorem lnk_le (st : St) (l : List NR) (i : Nat) : lnkN st (l.take i) ≤ lnkN st l := by
  conv => rhs; rw [← List.take_append_drop i l]
  unfold lnkN
  rw [List.map_append, List.sum_append]
  omega
theorem namesN_take {id : Int} {l : List NR} {k : Nat} {r : NR} (h : l[k]? = some r) : namesN id (l.take (k + 1)) = namesN id (l.take k) + namesL id r.ents := by
  obtain ⟨hi, rfl⟩ := List.getElem?_eq_some_iff.1 h
  unfold namesN
  rw [List.take_succ_eq_append_getElem hi, List.map_append, List.sum_append]
  simp
theorem namesN_le (id : Int) (l : List NR) (k : Nat) : namesN id (l.take k) ≤ namesN id l := by
  conv => rhs; rw [← List.take_append_drop k l]
  unfold namesN
  rw [List.map_append, List.sum_append]
  omega
theorem namesL_take {id : Int} {l : List En} {k : Nat} {e : En} (h : l[k]? = some e) : namesL id (l.take (k + 1)) = namesL id (l.take k) + if e.node = id then 1 else 0 := by
  obtain ⟨hi, rfl⟩ := List.getElem?_eq_some_iff.1 h
  unfold namesL
  rw [List.take_succ_eq_append_getElem hi, List.countP_append]
  by_cases hh : l[k].node = id <;> simp [hh]
theorem namesL_le (id : Int) (l : List En) (k : Nat) : namesL id (l.take k) ≤ namesL id l := by
  conv => rhs; rw [← List.take_append_drop k l]
  unfold namesL
  rw [List.countP_append]
  omega
theorem namesL_len (id : Int) (l : List En) : namesL id l ≤ l.length := List.countP_le_length
set_option maxHeartbeats 8000000 in
theorem treelinks_any {w : World} {v : Value} {acs : List Ac} (hr : ∀ w', Below B w w' → RdE w' 4 encAc v acs) (hin : ∀ c ∈ acs, -9223372036854775808 ≤ c.n ∧ c.n ≤ 9223372036854775807) (hml : acs.length ≤ maxLen) (hE : EnvM E B w) :
    Calls Tryz.prog 3 #[v] w fun e w' => e = .returned (.bool true) ∧ Below B w w' := by
  have HR := Lib.hid hr
  have HE := Lib.hid hE
  have HIN := Lib.hid hin
  have HML := Lib.hid hml
  generalize hP : (fun (e : Ending) (w' : World) => e = .returned (.bool true) ∧ Below B w w') = Post
  have HP := Lib.hid hP
  clear hr hE hin hml hP
  go_enter Tryz.func3, Tryz.ntmps3
  go_wp2_with fail
  refine (first_any HE.out).mono ?_
  rintro e w1 ⟨rfl, hb1⟩
  have HE1 := Lib.hid (HE.out.keep hb1)
  have HB1 := Lib.hid hb1
  have HR1 := Lib.hid (HR.out w1 hb1)
  clear hb1
  go_wp2_with fail
  refine (light_any HR1.out HML.out 50).mono ?_
  rintro e w2 ⟨bl, rfl, hb2, _⟩
  have HB2 := Lib.hid (HB1.out.trans (hb2.mono HE1.out.size))
  have HE2 := Lib.hid (HE1.out.below hb2)
  clear hb2 HB1 HE1 HR1
  cases bl
  case false =>
    go_wp2
    first | go_ret | skip
    rw [← HP.out]
    exact ⟨by first | rfl | simp, HB2.out⟩
  go_wp2_with fail
  refine (made_any HE2.out (fun w' hb => HR.out w' (HB2.out.trans hb)) HIN.out HML.out).mono ?_
  rintro e w3 ⟨a, b, t, dm, m, T, wx, rfl, hTM⟩
  obtain ⟨st, hst⟩ : ∃ st, playT acs = st := ⟨_, rfl⟩
  rw [hst] at hTM
  obtain ⟨L0, hts⟩ : ∃ L0, TS E B L0 a b t dm w2 st w3 := ⟨_, hTM.ts⟩
  have HTS := Lib.hid hts
  have HF := Lib.hid hts.full
  have HLEN := Lib.hid hts.full.len
  obtain ⟨nn, hnn⟩ : ∃ nn, st.ns.length = nn := ⟨_, rfl⟩
  have HNN := Lib.hid hnn
  have HB3 := Lib.hid (HB2.out.trans hts.bel)
  obtain ⟨a0, al⟩ := hts.ta
  have b0 := hts.wb.c0
  have bl0 := hts.wb.lt.1
  clear hst hTM hts hnn
  go_wp2_with fail
  refine (wl_all HTS.out.wb HF.out).mono ?_
  rintro e w4 ⟨⟨sp, cap, rfl, hs⟩, hb⟩
  rw [HNN.out] at hs ⊢
  obtain ⟨L3, hL3⟩ : ∃ L3 : Nat → Prop, L3 = fun x => (w3.heap.size ≤ x ∧ x < w4.heap.size) ∨ L0 x := ⟨_, rfl⟩
  have HTS4 : Hid (TS E B L3 a b t dm w2 st w4) := Lib.hid (by
    have h' := HTS.out.below hb
    refine ⟨h'.ta, by rw [hL3]; exact .inr h'.la, HTS.out.wb.loc' hb (fun x hx => ?_), h'.full, h'.env, h'.bel⟩
    rw [hL3] at hx
    rcases hx with hx | hx
    · exact .inr hx
    · exact .inl hx)
  have HLA : Hid (L3 a) := Lib.hid HTS4.out.la
  have HIDS : Hid (∀ j r, st.ns[j]? = some r → ∃ hh, sp = some ⟨hh, 0, none⟩ ∧ w4.cell? ⟨hh, j, none⟩ = some (.int .i64 r.nd.id) ∧ L3 hh) := Lib.hid (fun j r hr => by
    rcases hs with ⟨h1, h2⟩ | ⟨hh, cp, h1, h2, h3, _, h5⟩
    · have : st.ns = [] := by simpa using h2
      rw [this] at hr; cases hr
    · injection h1 with e1 e2 e3
      have hjl := (List.getElem?_eq_some_iff.1 hr).1
      have h6 := h5 j (by simpa using hjl)
      rw [List.getElem?_map, hr] at h6
      refine ⟨hh, e1, by rw [h6]; rfl, by rw [hL3]; exact .inl ⟨h2, h3⟩⟩)
  have HCN := Lib.hid (lnk_all HF.out)
  have HCL := Lib.hid (cnt_le HF.out)
  clear hs hb a0 al b0 bl0 hL3
  go_wp2_with fail
  go_loopw [8, 9] (fun n i wr => ∃ j : Nat, j ≤ nn ∧ i = .int .i64 j ∧ n = .int .i64 (lnkN st (st.ns.take j) : Nat) ∧ Hid (TS E B L3 a b t dm w2 st wr ∧ KeptP B L3 w4 wr)) (fun _ i _ => nn - (intOf i).toNat)
  case atStart => exact ⟨0, Nat.zero_le _, rfl, rfl, Lib.hid ⟨HTS4.out, KeptP.refl _ _ _⟩⟩
  case round =>
    obtain ⟨i, hi, rfl, rfl, HI⟩ := hrel
    have hlen := HLEN.out
    rw [HNN.out] at hlen
    obtain ⟨ln, hln⟩ : ∃ ln, lnkN st (st.ns.take i) = ln := ⟨_, rfl⟩
    have HLN := Lib.hid hln
    have hlnb : ln ≤ 8193 := by
      have h1 := lnk_le st st.ns i
      rw [HCN.out, hln] at h1
      have := HCL.out
      omega
    rw [hln]
    clear hln
    by_cases hlt : i < nn
    · obtain ⟨r, hr⟩ : ∃ r, st.ns[i]? = some r := ⟨_, List.getElem?_eq_getElem (by rw [HNN.out]; exact hlt)⟩
      have hmem : r ∈ st.ns := List.mem_of_getElem? hr
      have hget := HF.out.get_mem hmem
      have hid : 1 ≤ r.nd.id ∧ r.nd.id ≤ 16777215 := valid_ids (HF.out.val r hmem)
      have hlk := valid_lk (HF.out.val r hmem)
      have hcnt := HF.out.cnt _ r hget
      obtain ⟨hh, hsp, cI, hLh⟩ := HIDS.out i r hr
      subst hsp
      have hnd : st.nd r.nd.id = some r.nd := by unfold St.nd; rw [hget]; rfl
      have hts := lnk_take (st := st) hr
      rw [HLN.out] at hts
      obtain ⟨⟨q1, q2, q3, q4, q5, q6⟩, es0⟩ := r
      simp only at hid hlk hcnt hnd cI hts hget
      have HTSUM := Lib.hid hts
      have HCNT := Lib.hid hcnt
      have HND := Lib.hid hnd
      have HLH := Lib.hid hLh
      have HGET := Lib.hid hget
      have HLK := Lib.hid hlk
      have HCI := Lib.hid cI
      have hcI : wr.cell? ⟨hh, i, none⟩ = some (.int .i64 q1) := by rw [HI.out.2.cell hLh, cI]
      have hhh : hh < wr.heap.size := HI.out.1.wb.2.1 hh hLh
      clear hr hmem hget hcnt cI hLh hnd hts hlk
      obtain ⟨a0, al⟩ := HI.out.1.ta
      have b0 := HI.out.1.wb.c0
      have bl0 := HI.out.1.wb.lt.1
      have hi0 : (0 : Int) ≤ (i : Int) := by omega
      have hi1 : (i : Int) < (nn : Int) := by omega
      go_wp2_with fail
      have S : ∀ w', ShH wr.heap.size (ndC ⟨q1, q2, q3, q4, q5, q6⟩) 39 wr w' → w'.cell? ⟨a, 0, none⟩ = some (.pointer (some ⟨b, 0, none⟩)) ∧ w'.cell? ⟨b, 0, none⟩ = some (.pointer (some ⟨t, 0, none⟩)) ∧ w'.cell? ⟨hh, i, none⟩ = some (.int .i64 q1) := fun w' hs =>
        ⟨(hs.bel.cell (p := ⟨a, 0, none⟩) al).trans a0, (hs.bel.cell (p := ⟨b, 0, none⟩) bl0).trans b0, (hs.bel.cell (p := ⟨hh, i, none⟩) hhh).trans hcI⟩
      have HG : Hid (∀ w', ShH wr.heap.size (ndC ⟨q1, q2, q3, q4, q5, q6⟩) 39 wr w' → Calls Tryz.prog 11 #[.pointer (some ⟨t, 0, none⟩), .int .i64 q1] w' fun e w'' => e = .returned (.tuple #[.agg #[.int .i64 q1, .int .i64 q2, .int .i64 q3, .int .i64 q4, .string q5, .int .i64 q6], .bool true]) ∧ Below w'.heap.size w' w'') := Lib.hid fun w' hs => by
        have := wl_get (HI.out.1.wb.below hs.bel) (k := q1) (by omega)
        rw [HND.out] at this
        exact this
      clear a0 al b0 bl0 hcI
      apply wp_region_rel _ (by kernel_rfl) (by kernel_rfl) (fun w' => ShH wr.heap.size (ndC ⟨q1, q2, q3, q4, q5, q6⟩) 39 wr w') (fun w' w'' => ShH wr.heap.size (ndC ⟨q1, q2, q3, q4, q5, q6⟩) 39 w' w'') (fun w' w'' h1 h2 => h1.trans h2) (ShH.refl _ _ _ _).drew
      repeat (first
        | (apply wpRel_fix (by rfl)
           · intro w' hC hf R hR
             have hS := S w' hC
             go_simp
             exact hR _ (ShH.refl _ _ _ _)
           simp only [Act.put, List.setIfInBounds_toArray, List.set_cons_zero, List.set_cons_succ])
        | (apply wpRel_fix (by rfl)
           · intro w' hC hf R hR
             have hS := S w' hC
             go_simp
             refine (HG.out w' hC).mono ?_
             rintro e w'' ⟨rfl, hb⟩
             exact ⟨_, rfl, hR _ (ShH.of_below hb (Nat.le_trans hC.bel.size (Nat.le_refl _)))⟩
           simp only [Act.put, List.setIfInBounds_toArray, List.set_cons_zero, List.set_cons_succ]))
      apply wpRel_rel (PtTy wr.heap.size ((ndC ⟨q1, q2, q3, q4, q5, q6⟩) : List Value).length 39) (by rfl) ptTy_keep
      · intro w' hC hf R hR
        go_simp
        exact hR _ _ ⟨_, rfl, hC.bel.size, TyB.new _ _ _ rfl⟩ (ShH.of_below (bl_alloc (Below.refl _ _) _) hC.bel.size)
      intro vptr
      simp only [Act.put, List.setIfInBounds_toArray, List.set_cons_zero, List.set_cons_succ]
      apply wpRel_dep 10 (PtRow wr.heap.size (ndC ⟨q1, q2, q3, q4, q5, q6⟩) 39) (by rfl) (by rfl) ptRow_keep
      · intro w' hC hf R hR
        obtain ⟨c, rfl, hc, hk⟩ := hf _ (List.mem_cons_self ..) (by kernel_rfl)
        obtain ⟨u0, e0⟩ := hk.cell (i := 0) (Nat.lt_of_lt_of_eq (by decide : 0 < 6) rfl)
        have f0 := hk.froz 0
        obtain ⟨u1, e1⟩ := hk.cell (i := 1) (Nat.lt_of_lt_of_eq (by decide : 1 < 6) rfl)
        have f1 := hk.froz 1
        obtain ⟨u2, e2⟩ := hk.cell (i := 2) (Nat.lt_of_lt_of_eq (by decide : 2 < 6) rfl)
        have f2 := hk.froz 2
        obtain ⟨u3, e3⟩ := hk.cell (i := 3) (Nat.lt_of_lt_of_eq (by decide : 3 < 6) rfl)
        have f3 := hk.froz 3
        obtain ⟨u4, e4⟩ := hk.cell (i := 4) (Nat.lt_of_lt_of_eq (by decide : 4 < 6) rfl)
        have f4 := hk.froz 4
        obtain ⟨u5, e5⟩ := hk.cell (i := 5) (Nat.lt_of_lt_of_eq (by decide : 5 < 6) rfl)
        have f5 := hk.froz 5
        have hN := Lib.hid hk
        clear hk
        go_simp
        exact hR _ _ (ptRow_mk hN.out hc) (ShH.setAll hN.out hc)
      intro vst
      simp only [Act.put, List.setIfInBounds_toArray, List.set_cons_zero, List.set_cons_succ]
      repeat (first
        | (apply wpRel_fix (by rfl)
           · intro w' hC hf R hR
             have hS := S w' hC
             go_simp
             exact hR _ (ShH.refl _ _ _ _)
           simp only [Act.put, List.setIfInBounds_toArray, List.set_cons_zero, List.set_cons_succ]))
      refine wpRel_nil (fun w5 hC hf => ?_)
      obtain ⟨c, rfl, hc0, rw5⟩ : PtRow wr.heap.size (ndC ⟨q1, q2, q3, q4, q5, q6⟩) 39 vptr w5 := hf _ (List.mem_cons_self ..)
      obtain ⟨L4, hL4⟩ : ∃ L4 : Nat → Prop, L4 = fun x => x = c ∨ L3 x := ⟨_, rfl⟩
      have HW5 : Hid (WB B L4 w5 b t dm st) := Lib.hid (HI.out.1.wb.loc' hC.bel (fun x hx => by
        rw [hL4] at hx
        rcases hx with hx | hx
        · subst hx; exact .inr ⟨hc0, rw5.lt⟩
        · exact .inl hx))
      have HLC : Hid (L4 c) := Lib.hid (by rw [hL4]; exact .inl rfl)
      have HL34 : Hid (∀ x, L3 x → L4 x) := Lib.hid (fun x hx => by rw [hL4]; exact .inr hx)
      have HR5 := Lib.hid rw5
      have HT5 := Lib.hid (HI.out.1.below hC.bel)
      have HK5 := Lib.hid (HI.out.2.trans (HI.out.1.wb.kept hC.bel))
      clear hf hC S HG rw5 hL4 hc0 hhh HI
      obtain ⟨wo, rfl⟩ : ∃ wo, wo = wr := ⟨_, rfl⟩
      go_wp2_with fail
      go_loopw [12, 13] (fun s k wr => ∃ j : Nat, j ≤ nn ∧ k = .int .i64 j ∧ s = .int .i64 (namesN q1 (st.ns.take j) : Nat) ∧ Hid (WB B L4 wr b t dm st ∧ KeptP B L4 w5 wr)) (fun _ k _ => nn - (intOf k).toNat)
      case atStart => exact ⟨0, Nat.zero_le _, rfl, rfl, Lib.hid ⟨HW5.out, KeptP.refl _ _ _⟩⟩
      case round =>
        obtain ⟨k, hk, rfl, rfl, HJ⟩ := hrel
        obtain ⟨sk, hsk⟩ : ∃ sk, namesN q1 (st.ns.take k) = sk := ⟨_, rfl⟩
        have HSK := Lib.hid hsk
        have hskb : sk ≤ 16 := by
          have h1 := namesN_le q1 st.ns k
          rw [hsk] at h1
          have h2 := HCNT.out
          have h3 := HLK.out
          unfold St.names at h2
          omega
        rw [hsk]
        clear hsk
        by_cases hkn : k < nn
        · obtain ⟨r, hr⟩ : ∃ r, st.ns[k]? = some r := ⟨_, List.getElem?_eq_getElem (by rw [HNN.out]; exact hkn)⟩
          have hmem : r ∈ st.ns := List.mem_of_getElem? hr
          have hgetk := HF.out.get_mem hmem
          have hpid : 1 ≤ r.nd.id ∧ r.nd.id ≤ 16777215 := valid_ids (HF.out.val r hmem)
          obtain ⟨hh', hsp', cK, hLh'⟩ := HIDS.out k r hr
          injection hsp' with e1
          injection e1 with e1 _ _
          subst e1
          have hrise := HF.out.erise r hmem
          have hfew := HF.out.tidy.few r hmem
          have hents : st.ents r.nd.id = r.ents := by unfold St.ents; rw [hgetk]; rfl
          have hsz : ∀ e ∈ r.ents, e.name.size ≤ maxLen := fun e he => Nat.le_trans (nmCode_size (HF.out.ent r hmem e he).code) (by decide)
          have hdk : st.isDir r.nd.id = decide (r.nd.kind = 2) := by unfold St.isDir; rw [hgetk]; exact (decide_eq_decide.2 Iff.rfl)
          have hflat := HF.out.flat r hmem
          have hnk := namesN_take (id := q1) hr
          rw [HSK.out] at hnk
          have hnb17 : sk + namesL q1 r.ents ≤ 17 := by
            rw [← hnk]
            have h1 := namesN_le q1 st.ns (k + 1)
            have h2 := HCNT.out
            have h3 := HLK.out
            unfold St.names at h2
            omega
          have hEK : ∀ e ∈ r.ents, e.node = q1 → e.kind = q2 ∧ (q2 = 2 → q6 = r.nd.id) := fun e he heq => by
            obtain ⟨y, hy1, hy2⟩ := (HF.out.ent r hmem e he).node
            have hp := HF.out.par _ r hgetk e he y hy1
            rw [heq, HGET.out] at hy1
            injection hy1 with hy1
            subst hy1
            exact ⟨hy2.symm, fun h => hp h⟩
          have HEK := Lib.hid hEK
          have HRISE := Lib.hid hrise
          have HFEW := Lib.hid hfew
          have HENTS := Lib.hid hents
          have HSZ := Lib.hid hsz
          have HDK := Lib.hid hdk
          have HFLAT := Lib.hid hflat
          have HNK := Lib.hid hnk
          have HNB := Lib.hid hnb17
          have HLH4 := Lib.hid (HL34.out _ HLH.out)
          have cIk : wr.cell? ⟨hh, k, none⟩ = some (.int .i64 r.nd.id) := by rw [HJ.out.2.cell (HL34.out _ HLH.out), (HK5.out.cell HLH.out), cK]
          have HCK := Lib.hid cIk
          clear hr hmem hgetk cK hLh' hrise hfew hents hsz hdk hflat hnk hnb17 hEK cIk
          obtain ⟨⟨p1, p2, p3, p4, p5, p6⟩, es⟩ := r
          simp only at hpid HEK HRISE HFEW HENTS HSZ HDK HFLAT HNK HNB HCK
          have HTA : Hid (wr.cell? ⟨a, 0, none⟩ = some (.pointer (some ⟨b, 0, none⟩))) := Lib.hid (by rw [HJ.out.2.cell (HL34.out _ HLA.out)]; exact HT5.out.ta.1)
          have hk0 : (0 : Int) ≤ (k : Int) := by omega
          have hk1 : (k : Int) < (nn : Int) := by omega
          have HW0 := Lib.hid HJ.out.1
          have S : ∀ w', (WB B L4 w' b t dm st ∧ KeptP B L4 wr w') → w'.cell? ⟨a, 0, none⟩ = some (.pointer (some ⟨b, 0, none⟩)) ∧ w'.cell? ⟨hh, k, none⟩ = some (.int .i64 p1) := fun w' hC =>
            ⟨(hC.2.cell (HL34.out _ HLA.out) 0).trans HTA.out, (hC.2.cell HLH4.out k).trans HCK.out⟩
          by_cases hpk : p2 = 2
          · have HD := Lib.hid (show st.isDir p1 = true by rw [HDK.out]; simp [hpk])
            clear hpk
            go_upto_region 17 with fail
            apply wp_region_rel _ (by kernel_rfl) (by kernel_rfl) (fun w' => WB B L4 w' b t dm st ∧ KeptP B L4 wr w') (fun w' w'' => ShD B L4 b t dm st p1 w' w'') (fun w' w'' h1 h2 => ⟨(h2.1 h1.1).1, h1.2.trans (h2.1 h1.1).2⟩) ⟨HW0.out.below (Below.refl _ _).drew, HW0.out.kept (Below.refl _ _).drew⟩
            repeat (first
              | (apply wpRel_skip (by rfl)
                 simp only [Act.put, List.setIfInBounds_toArray, List.set_cons_zero, List.set_cons_succ])
              | (apply wpRel_fix (by rfl)
                 · intro w' hC hf R hR
                   have hS := S w' hC
                   go_simp
                   exact hR _ (ShD.refl _)
                 simp only [Act.put, List.setIfInBounds_toArray, List.set_cons_zero, List.set_cons_succ]))
            apply wpRel_rel (DirT B L4 b t dm st p1) (by rfl) dirT_keep
            · intro w' hC hf R hR
              go_simp
              refine (wDir_keep hC.1 (by omega) HD.out).mono ?_
              rintro e w'' ⟨x, rfl, h1, h2, h3⟩
              exact ⟨_, rfl, hR _ _ ⟨x, rfl, h1⟩ ⟨fun _ => ⟨h1.wb, h2⟩, h3⟩⟩
            intro v1
            simp only [Act.put, List.setIfInBounds_toArray, List.set_cons_zero, List.set_cons_succ]
            apply wpRel_rel (DirT B L4 b t dm st p1) (by rfl) dirT_keep
            · intro w' hC hf R hR
              have h1 := hf _ (List.mem_cons_self ..) (by kernel_rfl)
              go_simp
              exact hR _ _ h1 (ShD.refl _)
            intro v2
            simp only [Act.put, List.setIfInBounds_toArray, List.set_cons_zero, List.set_cons_succ]
            apply wpRel_rel (DirP B L4 b t dm st p1) (by rfl) dirP_keep
            · intro w' hC hf R hR
              obtain ⟨x, rfl, h1⟩ := hf _ (List.mem_cons_self ..) (by kernel_rfl)
              go_simp
              exact hR _ _ ⟨x, rfl, h1⟩ (ShD.refl _)
            intro v3
            simp only [Act.put, List.setIfInBounds_toArray, List.set_cons_zero, List.set_cons_succ]
            apply wpRel_fix (by rfl)
            · intro w' hC hf R hR
              obtain ⟨x, rfl, h1⟩ := hf _ (List.mem_cons_of_mem _ (List.mem_cons_self ..)) (by kernel_rfl)
              go_simp
              exact hR _ (ShD.refl _)
            simp only [Act.put, List.setIfInBounds_toArray, List.set_cons_zero, List.set_cons_succ]
            apply wpRel_rel (DirP B L4 b t dm st p1) (by rfl) dirP_keep
            · intro w' hC hf R hR
              have h1 := hf _ (List.mem_cons_self ..) (by kernel_rfl)
              go_simp
              exact hR _ _ h1 (ShD.refl _)
            intro v4
            simp only [Act.put, List.setIfInBounds_toArray, List.set_cons_zero, List.set_cons_succ]
            repeat (first
              | (apply wpRel_skip (by rfl)
                 simp only [Act.put, List.setIfInBounds_toArray, List.set_cons_zero, List.set_cons_succ])
              | (apply wpRel_fix (by rfl)
                 · intro w' hC hf R hR
                   go_simp
                   exact hR _ (ShD.refl _)
                 simp only [Act.put, List.setIfInBounds_toArray, List.set_cons_zero, List.set_cons_succ]))
            refine wpRel_nil (fun w6 hC hf => ?_)
            obtain ⟨y, rfl, hwd⟩ := hf _ (List.mem_cons_self ..)
            have HWD := Lib.hid hwd
            have HK6 := Lib.hid hC.2
            clear hf hC S hwd
            obtain ⟨wq, rfl⟩ : ∃ wq, wq = wr := ⟨_, rfl⟩
            have HELB : Hid (es.length ≤ 1000000) := Lib.hid (Nat.le_trans HFEW.out (by decide))
            go_wp2_with fail
            refine (wl_dall HWD.out (by rw [HENTS.out]; exact HRISE.out) (by rw [HENTS.out]; exact HELB.out) (by rw [HENTS.out]; exact HSZ.out)).mono ?_
            rw [HENTS.out]
            rintro e w7 ⟨⟨v7, rfl, hv7⟩, hb7⟩
            have HRD := Lib.hid (SlE.rd hv7 encEl_len)
            obtain ⟨zp, zcap, hz7, hzc⟩ := RdE.shape HRD.out
            subst hz7
            have HW7 := Lib.hid (HWD.out.wb.below hb7)
            have HK7 := Lib.hid ((HJ.out.2.trans HK6.out).trans (HWD.out.wb.kept hb7))
            clear hv7 hb7
            go_wp2_with fail
            go_loopw [12, 17] (fun s v wr => ∃ j : Nat, j ≤ es.length ∧ v = .int .i64 j ∧ s = .int .i64 ((sk + namesL q1 (es.take j) : Nat) : Int) ∧ Hid (Below w7.heap.size w7 wr)) (fun _ v _ => es.length - (intOf v).toNat)
            case atStart => exact ⟨0, Nat.zero_le _, rfl, rfl, Lib.hid (Below.refl _ _)⟩
            case round =>
              obtain ⟨j, hj, rfl, rfl, HB⟩ := hrel
              obtain ⟨sj, hsj⟩ : ∃ sj, sk + namesL q1 (es.take j) = sj := ⟨_, rfl⟩
              have HSJ := Lib.hid hsj
              have hsjb : sj ≤ 17 := by have h1 := namesL_le q1 es j; have h2 := HNB.out; omega
              have hel := HELB.out
              rw [hsj]
              clear hsj
              by_cases hjl : j < es.length
              · obtain ⟨g, off, hzp, hgl, hec⟩ := elCells HRD.out hjl
                subst hzp
                obtain ⟨e, he⟩ : ∃ e, es[j] = e := ⟨_, rfl⟩
                have heg : es[j]? = some e := by rw [List.getElem?_eq_getElem hjl, he]
                have HEE := Lib.hid (HEK.out e (List.mem_of_getElem? heg))
                have HNT := Lib.hid (namesL_take (id := q1) heg)
                rw [he] at hec
                obtain ⟨en, eo, ek⟩ := e
                simp only at HEE HNT
                have d1 : wr.cell? ⟨g, off + j * 3 + 1, none⟩ = some (.int .i64 eo) := (HB.out.cell (p := ⟨g, off + j * 3 + 1, none⟩) hgl).trans (hec 1 (by omega))
                have d2 : wr.cell? ⟨g, off + j * 3 + 2, none⟩ = some (.int .i64 ek) := (HB.out.cell (p := ⟨g, off + j * 3 + 2, none⟩) hgl).trans (hec 2 (by omega))
                have hgw : g < wr.heap.size := Nat.lt_of_lt_of_le hgl HB.out.size
                have hKc : ∀ y o, L4 y → wr.cell? ⟨y, o, none⟩ = w5.cell? ⟨y, o, none⟩ := fun y o hy => by
                  rw [HB.out.cell (p := ⟨y, o, none⟩) (HW7.out.2.1 y hy), HK7.out.cell hy o]
                have n0 : wr.cell? ⟨c, 0, none⟩ = some (.int .i64 q1) := (hKc c 0 HLC.out).trans ((HR5.out.cell 0).trans rfl)
                have n1 : wr.cell? ⟨c, 1, none⟩ = some (.int .i64 q2) := (hKc c 1 HLC.out).trans ((HR5.out.cell 1).trans rfl)
                have n5 : wr.cell? ⟨c, 5, none⟩ = some (.int .i64 q6) := (hKc c 5 HLC.out).trans ((HR5.out.cell 5).trans rfl)
                have nK : wr.cell? ⟨hh, k, none⟩ = some (.int .i64 p1) := by
                  rw [hKc hh k HLH4.out, ← HJ.out.2.cell HLH4.out k]
                  exact HCK.out
                have ncl : c < wr.heap.size := Nat.lt_of_lt_of_le (HW7.out.2.1 c HLC.out) HB.out.size
                have nhl : hh < wr.heap.size := Nat.lt_of_lt_of_le (HW7.out.2.1 hh HLH4.out) HB.out.size
                have hj0 : (0 : Int) ≤ (j : Int) := by omega
                have hj1 : (j : Int) < (es.length : Int) := by omega
                clear hec he heg hKc
                by_cases hq : eo = q1
                · have heb : (eo == q1) = true := by simp [hq]
                  obtain ⟨hek, hpar⟩ := HEE.out hq
                  have hkb : (ek != q2) = false := by rw [hek]; simp
                  have HNT2 : Hid (namesL q1 (es.take (j + 1)) = namesL q1 (es.take j) + 1) := Lib.hid (by rw [HNT.out, if_pos hq])
                  clear hq hek
                  by_cases hq2 : q2 = 2
                  · have hq2b : (q2 == 2) = true := by simp [hq2]
                    have hpb : (q6 != p1) = false := by rw [hpar hq2]; simp
                    clear hpar hq2
                    as_aux_lemma =>
                      go_wp2_with fail
                      go_quiet (fail)
                      go_wp2_with fail
                      go_quiet (fail)
                      go_wp2
                      go_roundw
                      case rel => exact ⟨j + 1, by omega, by go_num, by rw [HNT2.out, ← Nat.add_assoc, HSJ.out]; go_num, Lib.hid (bl_trans HB.out (by first | exact (drewN_below _ _) | exact Below.refl _ _))⟩
                      case measure => simp [intOf]; omega
                  · have hq2b : (q2 == 2) = false := by simp [hq2]
                    clear hpar hq2
                    as_aux_lemma =>
                      go_wp2_with fail
                      go_quiet (fail)
                      go_wp2_with fail
                      go_quiet (fail)
                      go_wp2
                      go_roundw
                      case rel => exact ⟨j + 1, by omega, by go_num, by rw [HNT2.out, ← Nat.add_assoc, HSJ.out]; go_num, Lib.hid (bl_trans HB.out (by first | exact (drewN_below _ _) | exact Below.refl _ _))⟩
                      case measure => simp [intOf]; omega
                · have heb : (eo == q1) = false := by simp [hq]
                  have HNT2 : Hid (namesL q1 (es.take (j + 1)) = namesL q1 (es.take j)) := Lib.hid (by rw [HNT.out, if_neg hq]; rfl)
                  clear hq
                  as_aux_lemma =>
                    go_wp2_with fail
                    go_quiet (fail)
                    go_wp2
                    go_roundw
                    case rel => exact ⟨j + 1, by omega, by go_num, by rw [HNT2.out, HSJ.out], Lib.hid (bl_trans HB.out (by first | exact (drewN_below _ _) | exact Below.refl _ _))⟩
                    case measure => simp [intOf]; omega
              · obtain rfl : j = es.length := by omega
                have HS9 : Hid (namesN q1 (st.ns.take (k + 1)) = sj) := Lib.hid (by rw [HNK.out, ← HSJ.out, List.take_length])
                have HW9 := Lib.hid (HW7.out.below HB.out)
                have HK9 := Lib.hid (HK7.out.trans (HW7.out.kept HB.out))
                go_wp2
                go_roundw
                case rel => exact ⟨k + 1, by omega, by go_num, by rw [HS9.out], Lib.hid ⟨HW9.out, HK9.out⟩⟩
                case measure => simp [intOf]; omega
          · have HD := Lib.hid (show st.isDir p1 = false by rw [HDK.out]; simp [hpk])
            have HS9 : Hid (namesN q1 (st.ns.take (k + 1)) = sk) := Lib.hid (by rw [HNK.out, HFLAT.out hpk]; rfl)
            clear hpk
            have HT : Hid (∀ w', (WB B L4 w' b t dm st ∧ KeptP B L4 wr w') → Calls Tryz.prog 12 #[.pointer (some ⟨b, 0, none⟩), .int .i64 p1] w' fun e w'' => e = .returned (.tuple #[.pointer none, .bool false]) ∧ WB B (fun x => L4 x ∨ (x < w'.heap.size ∧ Plain w' x)) w'' b t dm st ∧ KeptP B (fun x => L4 x ∨ (x < w'.heap.size ∧ Plain w' x)) w' w'') := Lib.hid (fun w' hC => by
              refine (wDir_no hC.1 (by omega) HD.out).mono ?_
              rintro e w'' ⟨rfl, hb⟩
              exact ⟨rfl, hC.1.wide.below hb, hC.1.wide.kept hb⟩)
            go_upto_region 17 with fail
            apply wp_region_rel _ (by kernel_rfl) (by kernel_rfl) (fun w' => WB B L4 w' b t dm st ∧ KeptP B L4 wr w') (fun w' w'' => ShT B L4 b t dm st wr.heap.size ([] : List Value) 0 w' w'') (fun w' w'' h1 h2 => ⟨h2.tree h1.1, h1.2.trans (h2.kept h1.1)⟩) ⟨HW0.out.below (Below.refl _ _).drew, HW0.out.kept (Below.refl _ _).drew⟩
            repeat (first
              | (apply wpRel_fix (by rfl)
                 · intro w' hC hf R hR
                   have hS := S w' hC
                   go_simp
                   exact hR _ (ShT.refl _ _ _ _ _ _ _ _ _ _)
                 simp only [Act.put, List.setIfInBounds_toArray, List.set_cons_zero, List.set_cons_succ])
              | (apply wpRel_fix (by rfl)
                 · intro w' hC hf R hR
                   have hS := S w' hC
                   go_simp
                   refine (HT.out w' hC).mono ?_
                   rintro e w'' ⟨rfl, hw9, hk9⟩
                   exact ⟨_, rfl, hR _ (ShT.call hw9 hk9)⟩
                 simp only [Act.put, List.setIfInBounds_toArray, List.set_cons_zero, List.set_cons_succ]))
            refine wpRel_nil (fun w6 hC hf => ?_)
            have HW6 := Lib.hid hC.1
            have HK6 := Lib.hid (HJ.out.2.trans hC.2)
            clear hf hC S HT
            go_wp2
            go_roundw
            case rel => exact ⟨k + 1, by omega, by go_num, by rw [HS9.out], Lib.hid ⟨HW6.out, HK6.out⟩⟩
            case measure => simp [intOf]; omega
        · obtain rfl : k = nn := by omega
          have HSN : Hid (q3 = (sk : Int) + if q1 = 1 then 1 else 0) := Lib.hid (by
            have h1 := HSK.out
            rw [← HNN.out, List.take_length] at h1
            have h2 := HCNT.out
            unfold St.names at h2
            rw [h1] at h2
            exact h2)
          have HTOT : Hid (lnkN st (st.ns.take (i + 1)) = ln + (sk + if q1 = 1 then 1 else 0)) := Lib.hid (by
            have h1 := HSK.out
            rw [← HNN.out, List.take_length] at h1
            have h2 := HTSUM.out
            unfold St.names at h2
            rw [h1] at h2
            exact h2)
          have HKE : Hid (TS E B L3 a b t dm w2 st wr ∧ KeptP B L3 w4 wr) := Lib.hid ⟨HT5.out.kept HF.out (HJ.out.1.less HL34.out) (HJ.out.2.mono HL34.out), HK5.out.trans (HJ.out.2.mono HL34.out)⟩
          have n0 : wr.cell? ⟨c, 0, none⟩ = some (.int .i64 q1) := (HJ.out.2.cell HLC.out 0).trans ((HR5.out.cell 0).trans rfl)
          have n2 : wr.cell? ⟨c, 2, none⟩ = some (.int .i64 q3) := (HJ.out.2.cell HLC.out 2).trans ((HR5.out.cell 2).trans rfl)
          have ncl : c < wr.heap.size := HJ.out.1.2.1 c HLC.out
          have hlk3 := HLK.out
          by_cases hq : q1 = 1
          · have hqb : (q1 == 1) = true := by simp [hq]
            have h3 : q3 = (sk : Int) + 1 := by rw [HSN.out, if_pos hq]
            have hnb : (q3 != (sk : Int) + 1) = false := by rw [h3]; simp
            have hg : decide ((16 : Int) < (sk : Int) + 1) = false := decide_eq_false (by omega)
            have HT2 : Hid (lnkN st (st.ns.take (i + 1)) = ln + (sk + 1)) := Lib.hid (by rw [HTOT.out, if_pos hq])
            have HH3 := Lib.hid h3
            clear h3 hq
            go_wp2
            go_roundw
            case rel => exact ⟨i + 1, by omega, by go_num, by rw [HT2.out]; go_num, HKE⟩
            case measure => simp [intOf]; omega
          · have hqb : (q1 == 1) = false := by simp [hq]
            have h3 : q3 = (sk : Int) := by rw [HSN.out, if_neg hq]; omega
            have hnb : (q3 != (sk : Int)) = false := by rw [h3]; simp
            have hg : decide ((16 : Int) < (sk : Int)) = false := decide_eq_false (by omega)
            have HT2 : Hid (lnkN st (st.ns.take (i + 1)) = ln + sk) := Lib.hid (by rw [HTOT.out, if_neg hq]; omega)
            have HH3 := Lib.hid h3
            clear h3 hq
            go_wp2
            go_roundw
            case rel => exact ⟨i + 1, by omega, by go_num, by rw [HT2.out]; go_num, HKE⟩
            case measure => simp [intOf]; omega
    · obtain rfl : i = nn := by omega
      have HLN2 : Hid (ln = cntL st.ns + 1) := Lib.hid (by rw [← HLN.out, ← HCN.out, ← HNN.out, List.take_length])
      go_wp2_with fail
      refine (ts_entries HI.out.1 (count_cntL st)).mono ?_
      rintro e w9 ⟨rfl, h9, _⟩
      have H9 := Lib.hid (HB2.out.trans h9.bel)
      obtain ⟨ct, hct⟩ : ∃ ct, cntL st.ns = ct := ⟨_, rfl⟩
      rw [hct]
      have hcb : ct ≤ 8192 := hct ▸ HCL.out
      have hl2 : ln = ct + 1 := by rw [HLN2.out, hct]
      subst hl2
      clear h9 hct
      have hwr : IntKind.i64.wrap ((ct : Int) + 1) = (ct : Int) + 1 := IntWalk.i64_in _ (by omega)
      have hdc : (((ct + 1 : Nat) : Int) == (ct : Int) + 1) = true := by simp
      go_wp2
      first | go_ret | skip
      rw [← HP.out]
      exact ⟨by first | rfl | simp, H9.out⟩
end Go.Proofs.YtnkcbogikaebfaaGreatDoor
end

section
/- What the card of TreeLinks asks beside the walk. -/
namespace Go.Proofs.YtnkcbogikaebfaaGreatDoor.treeLinks
open Go.ChangeShapes Go.WideShapes Go.ChangeAt Go.RowKit
set_option maxRecDepth 100000

theorem own : ownKnob Tryz.prog.godebug = none := by kernel_rfl

theorem door_met (os : Os) (args : Array Value) : laidMetH Tryz.prog Rows.treeLinksRow.laid ((World.laidAll Tryz.prog os Rows.treeLinksRow.laid).forCall (fun _ _ => 0) ⟨#[], args, []⟩).memory := by
  rw [MakeChecks.laidMetH_plain _ _ _ (by kernel_rfl)]
  exact laidMet_laidAll _ (by kernel_rfl) (by kernel_rfl)

theorem joined : joinedFacts Tryz.prog 3 Tryz.f3 Rows.treeLinksSpec Rows.treeLinksRow = true := by
  unfold joinedFacts
  rw [seat_laidOut, seat_mapsRowed, seat_stopsHeard, seat_mayEnter, seat_plainKeys, seat_lifted, seat_make]
  kernel_rfl
theorem inst : Tryz.f3.isInstance Tryz.prog Rows.treeLinksRow.origin Rows.treeLinksRow.targs := of_decide_eq_true (by kernel_rfl)
theorem wrap : Tryz.f3.isWrapper Tryz.prog Rows.treeLinksRow.wrapper Rows.treeLinksRow.mainSum := by
  unfold Func.isWrapper
  first | (rw [if_pos (by decide +kernel)]; kernel_rfl) | (rw [if_neg (by decide +kernel)]; exact ⟨rfl, rfl⟩)

end Go.Proofs.YtnkcbogikaebfaaGreatDoor.treeLinks
end

section
namespace Go.Proofs.YtnkcbogikaebfaaGreatDoor.treeLinks
open Go.ChangeShapes Go.WideShapes Go.ChangeAt Go.RowKit
set_option maxRecDepth 100000

theorem lifted (os : Os) (started : os.Started) (H : Type) (enc : TypeId × Value → H) :
    ReturnsInHanded {} Tryz.checked os 3 .any (fun w args => (Rows.treeLinksSpec.pre enc Tryz.prog Tryz.f3 [] false w args ∧ laidMetH Tryz.prog Rows.treeLinksRow.laid w) ∧ sizedMet enc Tryz.prog Tryz.f3 (OpenSpec.ofChange Rows.treeLinksSpec) false w args)
      (Rows.treeLinksSpec.post enc Tryz.prog Tryz.f3 false true false false) := by
  refine handed_and_shaped (C := Tryz.checked) (X := fun w _ => laidMetH Tryz.prog Rows.treeLinksRow.laid w) (fun _ _ _ hh h => h.of_heap hh) own started (by kernel_rfl) Tryz.func3
    (ChangeSpec.witness_shaped (enc := enc) (C := Tryz.checked) (os := os) (X := fun w _ => laidMetH Tryz.prog Rows.treeLinksRow.laid w) false (World.laidAll Tryz.prog os Rows.treeLinksRow.laid) #[.slice none 0 0] 8 (World.laidAll_os _ _ _) (World.shaped_of_ZipB (by kernel_rfl) (by kernel_rfl)) (by kernel_rfl) (by kernel_rfl) (by kernel_rfl) (door_met os _)) ?_
  intro W base args ds gs before hval0 hW _ _ hL hSh _
  have hval : ∀ (j : Nat) t v, Tryz.f3.params[j]? = some t → args[j]? = some v → Value.okWide Tryz.prog W .any base t v := hval0
  have hW' := hW
  obtain ⟨p, q, hA0, hV, rfl, hfz, hnd⟩ := hW
  have hA : DataW.TrodAll enc Tryz.prog W 0 (fun _ => true) true Tryz.f3.params.toList args.toList ds p := hA0
  rw [Tryz.params3] at hA hval
  obtain ⟨v0, vs0, d0, ds0, p0, q0, hargs, rfl, rfl, h0, r0⟩ := trodAll_cons hA
  obtain ⟨rfl, rfl, rfl⟩ := trodAll_nil r0
  obtain rfl : args = #[v0] := by cases args; simp_all
  obtain ⟨rfl, rfl⟩ := trodVars_none hV
  have hW0 := hW'
  simp only [List.append_nil] at hW0
  have hlt := fun x hx => by simpa using hW0.lt x hx
  have hl0 : ∀ x ∈ p0, x.block < W.heap.size := fun x hx => hlt x (by simp [hx])
  have k0 : ∀ (W' : World), Below W.heap.size W W' → DataW.Trod enc Tryz.prog W' 0 (fun b => decide (b < W.heap.size)) true 22 v0 d0 p0 := fun W' hn => Below.trod seat_laidOut (by kernel_rfl) (of_decide_eq_true (by kernel_rfl)) h0 hn hl0
  obtain ⟨a0, rd0, ok0, ln0, sp0, n0, cap0, rfl⟩ := open_dos19_arg (hval 0 22 v0 rfl rfl) h0 hl0
  obtain ⟨E, hE0⟩ := env_of_laid_mid 1 24 hL (by kernel_rfl) (by kernel_rfl) (by kernel_rfl)
  have hE := envM_of hE0 hSh

  clear hA0 hval0
  simp only [List.append_nil] at hW'
  refine (treelinks_any (fun _ hb => rd0.below hb) ok0 ln0 hE).mono fun e W' ⟨he, bel⟩ => ?_
  subst he
  refine ⟨_, rfl, _, _, _, [], p0 ++ ([]), [], hW', trodAll_mk1 (shut_bool Tryz.underlying4 _), ?_, rfl, bel.frame _, fun h => by cases h⟩
  exact trodAll_cons_mk (k0 _ bel) (trodAll_mk0)

theorem over : Rows.treeLinksRow.holds Tryz.pinned (OpenSpec.ofChange Rows.treeLinksSpec) :=
  OpenClaim.holds_of_wide 3 Tryz.f3 rfl rfl rfl rfl rfl rfl rfl ⟨rfl, rfl, rfl, rfl, rfl⟩ rfl rfl rfl rfl rfl (by kernel_rfl) Tryz.func3 joined inst wrap
    (fun os started H enc _ => lifted os started H enc)

theorem proved : Rows.TreeLinksCardSaid :=
  Claim7.holds_tied_plain_at .later [] Rows.treeLinksCard.laidKinds true Rows.treeLinksCard.stood.harness true
    over (fun _ h => by cases h) (by kernel_rfl) (fun _ h => by cases h) treeLinks_row_tie rfl ⟨rfl, rfl⟩ (by kernel_rfl) rfl
    (fun f fn hf hfn => by
      obtain rfl : f = 3 := Option.some.inj ((show Tryz.prog.funcNamed "breviary/breviarylaw19.TreeLinks" = some 3 by kernel_rfl).symm.trans hf) |>.symm
      obtain rfl : fn = Tryz.f3 := (Option.some.inj (Tryz.func3.symm.trans hfn)).symm
      exact ⟨by kernel_rfl, fun j t ht => by
        rw [Tryz.params3] at ht
        have hm : t ∈ [22] := by
          have := Array.mem_of_getElem? ht
          simpa using this
        have hall : [22].all (fun t => !(Tryz.prog.wantsStandIn t)) = true := by kernel_rfl
        have h := (List.all_eq_true.1 hall) t hm
        simp only [Bool.not_eq_true'] at h
        exact h⟩)
    (by kernel_rfl)
#print axioms proved
end Go.Proofs.YtnkcbogikaebfaaGreatDoor.treeLinks
end
