/- Merged texts: TreeEnt. -/
import Derived.Test.YtnkcbogikaebfaaGreatDoorBase30
import Derived.Test.YtnkcbogikaebfaaGreatDoorBase27
import Derived.Test.YtnkcbogikaebfaaGreatDoorBase23
import Derived.IntWalk
section
/- The walks of package tree: Entries, Within. -/
namespace Go.Proofs.YtnkcbogikaebfaaGreatDoor
open Go Go.RowKit
set_option maxRecDepth 100000
set_option linter.unusedSimpArgs false
set_option linter.unusedVariables false
attribute [local go_sem] giv
variable {E : Nat → Addr} {B : Nat}

theorem SortedKeys.uniq {V : Type} {g : Int → Option V} {l m : List Int} (h1 : SortedKeys g l) (h2 : l.Pairwise (· < ·)) (h3 : m.Pairwise (· < ·)) (h4 : ∀ k, k ∈ m ↔ (g k).isSome = true) : l = m := by
  have key : ∀ {l m : List Int}, l.Pairwise (· < ·) → m.Pairwise (· < ·) → (∀ k, k ∈ l ↔ k ∈ m) → l = m := by
    intro l
    induction l with
    | nil =>
      intro m _ _ h
      cases m with
      | nil => rfl
      | cons b m => exact absurd ((h b).2 (List.mem_cons_self ..)) (by simp)
    | cons a l ih =>
      intro m h1 h2 h
      cases m with
      | nil => exact absurd ((h a).1 (List.mem_cons_self ..)) (by simp)
      | cons b m =>
        obtain ⟨h3, h4⟩ := List.pairwise_cons.1 h1
        obtain ⟨h5, h6⟩ := List.pairwise_cons.1 h2
        have hab : a = b := by
          have h7 := (h a).1 (List.mem_cons_self ..)
          have h8 := (h b).2 (List.mem_cons_self ..)
          rcases List.mem_cons.1 h7 with h7 | h7
          · exact h7
          · rcases List.mem_cons.1 h8 with h8 | h8
            · exact h8.symm
            · have := h5 a h7; have := h3 b h8; omega
        subst hab
        rw [ih h4 h6 fun k => ⟨fun hk => ?_, fun hk => ?_⟩]
        · have h9 := h3 k hk
          rcases List.mem_cons.1 ((h k).1 (List.mem_cons_of_mem _ hk)) with rfl | h7
          · omega
          · exact h7
        · have h9 := h5 k hk
          rcases List.mem_cons.1 ((h k).2 (List.mem_cons_of_mem _ hk)) with rfl | h7
          · omega
          · exact h7
  exact key h2 h3 fun k => (h1.mem k).trans (h4 k).symm
section
variable {L : Nat → Prop} {w : World} {a b t dm : Nat} {st : St}
theorem valid_parent {n : Nd} (h : validB n = true) : 0 ≤ n.parent ∧ n.parent ≤ 16777215 := by
  simp only [validB, idB, Bool.and_eq_true, decide_eq_true_eq] at h
  by_cases hk : n.kind = 2
  · simp [hk] at h; omega
  · simp [hk] at h; omega
theorem ids_sorted (f : Full st) {ks : List Int} (h : SortedKeys st.nd ks) : ks = st.ns.map fun r => r.nd.id := by
  refine h.uniq h.rise ?_ fun k => ?_
  · rw [List.pairwise_map]; exact f.rise
  · constructor
    · intro hk
      obtain ⟨r, hr, rfl⟩ := List.mem_map.1 hk
      unfold St.nd
      rw [f.get_mem hr]; rfl
    · intro hk
      unfold St.nd at hk
      cases hg : st.get k with
      | none => rw [hg] at hk; cases hk
      | some r => exact List.mem_map.2 ⟨r, findN_mem hg, findN_id hg⟩
theorem wl_all (h : WB B L w b t dm st) (f : Full st) : Calls Tryz.prog 10 #[.pointer (some ⟨t, 0, none⟩)] w fun e w' =>
    (∃ sp cap, e = .returned (.slice sp st.ns.length cap) ∧ SlVals w' w.heap.size (.slice sp st.ns.length cap) (st.ns.map fun r => .int .i64 r.nd.id)) ∧ Below w.heap.size w w' := by
  obtain ⟨h1, h2, nm, dirs, pn, lab, h3, h4, h5⟩ := h
  refine (nall_any h3.nodes (Nat.le_trans f.len (by decide))).mono ?_
  rintro e w' ⟨⟨v, ks, rfl, hs, hk, hn⟩, hb⟩
  have hks := ids_sorted f hk
  subst hks
  rw [List.map_map] at hs
  refine ⟨?_, hb⟩
  rcases hs with ⟨rfl, hx⟩ | ⟨h, cap, rfl, hx⟩
  · have : st.ns = [] := by simpa using hx
    exact ⟨none, 0, by rw [this]; rfl, .inl ⟨by rw [this]; rfl, by rw [this]; rfl⟩⟩
  · refine ⟨some ⟨h, 0, none⟩, cap, by simp, .inr ⟨h, cap, by simp, hx.1, hx.2.1, by have := hx.2.2.1; simpa using this, fun i hi => ?_⟩⟩
    exact hx.2.2.2 i (by simpa using hi)
set_option maxHeartbeats 1000000 in
theorem tentries_any (ha : TA w a b) (hl : L a) (h : WB B L w b t dm st) (f : Full st) :
    Calls Tryz.prog 14 #[.pointer (some ⟨a, 0, none⟩)] w fun e w' => e = .returned (.int .i64 st.count) ∧ WB B L w' b t dm st ∧ KeptP B L w w' := by
  have H := Lib.hid h
  have HF := Lib.hid f
  have HA := Lib.hid ha
  have HLA := Lib.hid hl
  have hcl := cnt_le f
  have hlen := f.len
  rw [count_cntL]
  generalize hP : (fun (e : Ending) (w' : World) => e = .returned (.int .i64 (cntL st.ns : Nat)) ∧ WB B L w' b t dm st ∧ KeptP B L w w') = Post
  have HP := Lib.hid hP
  have HCL := Lib.hid hcl
  have HLEN := Lib.hid hlen
  obtain ⟨a0, al⟩ := HA.out
  have b0 := H.out.c0
  have bl0 := H.out.lt.1
  clear hP h f ha hl hcl hlen
  go_enter Tryz.func14, Tryz.ntmps14
  go_wp2_with fail
  refine (wl_all H.out HF.out).mono ?_
  rintro e w1 ⟨⟨sp, cap, rfl, hs⟩, hb⟩
  obtain ⟨L1, hL1⟩ : ∃ L1 : Nat → Prop, L1 = fun x => (Value.slice sp st.ns.length cap).ownBlock = some x ∨ L x := ⟨_, rfl⟩
  have hown : ∀ x, (Value.slice sp st.ns.length cap).ownBlock = some x → w.heap.size ≤ x ∧ x < w1.heap.size := by
    intro x hx
    rcases hs with ⟨h1, _⟩ | ⟨h, c, h1, h2, h3, _⟩
    · rw [h1] at hx; cases hx
    · rw [h1] at hx; cases hx; exact ⟨h2, h3⟩
  have G1 : Hid (Gd B L L1 w b t dm st (fun x => (Value.slice sp st.ns.length cap).ownBlock = some x) w1) := Lib.hid (by rw [hL1]; exact Gd.first H.out hb hown)
  have HLs : Hid (L1 a) := Lib.hid (by rw [hL1]; exact .inr HLA.out)
  have HLo : Hid (∀ x, (Value.slice sp st.ns.length cap).ownBlock = some x → L1 x) := Lib.hid (fun x hx => by rw [hL1]; exact .inl hx)
  have HS := Lib.hid hs
  have HA1 := Lib.hid (HA.out.below hb)
  clear hs hb hL1 hown a0 al b0 bl0
  go_wp2_with fail
  go_loopw [3, 17] (fun s v wr => ∃ j : Nat, j ≤ st.ns.length ∧ v = .int .i64 j ∧ s = .int .i64 (cntL (st.ns.take j) : Nat) ∧ Hid (Gd B L L1 w b t dm st (fun _ => False) wr ∧ KeptP B L1 w1 wr)) (fun _ v _ => st.ns.length - (intOf v).toNat)
  case atStart => exact ⟨0, Nat.zero_le _, rfl, rfl, Lib.hid ⟨G1.out.less (fun _ h => h.elim), KeptP.refl _ _ _⟩⟩
  case round =>
    obtain ⟨j, hj, rfl, rfl, HI⟩ := hrel
    have hlen := HLEN.out
    have hct : cntL (st.ns.take j) ≤ 8192 := Nat.le_trans (cntL_take_le _ _) HCL.out
    have HAr := Lib.hid (HA1.out.kept HLs.out HI.out.2)
    by_cases hlt : j < st.ns.length
    · obtain ⟨r, hr⟩ : ∃ r, st.ns[j] = r := ⟨_, rfl⟩
      have hmem : r ∈ st.ns := hr ▸ List.getElem_mem hlt
      obtain ⟨hh, c2, hsp, -, hhl, -, hcell⟩ : ∃ h c, (Value.slice sp st.ns.length cap) = .slice (some ⟨h, 0, none⟩) st.ns.length c ∧ w.heap.size ≤ h ∧ h < w1.heap.size ∧ True ∧ ∀ i, i < st.ns.length → w1.cell? ⟨h, i, none⟩ = (st.ns.map fun r => Value.int .i64 r.nd.id)[i]? := by
        rcases HS.out with ⟨_, h2⟩ | ⟨h, c, h1, h2, h3, _, h5⟩
        · have : st.ns = [] := by simpa using h2
          rw [this] at hlt; cases hlt
        · exact ⟨h, c, by simpa using h1, h2, h3, trivial, fun i hi => h5 i (by simpa using hi)⟩
      injection hsp with e1 e2 e3
      subst e1 e3
      have hLh : L1 hh := HLo.out hh rfl
      have cj : wr.cell? ⟨hh, j, none⟩ = some (.int .i64 r.nd.id) := by
        rw [HI.out.2.cell hLh j, hcell j hlt]
        simp [hr, hlt]
      have hhw : hh < wr.heap.size := HI.out.1.tree.2.1 _ hLh
      have hid : 1 ≤ r.nd.id ∧ r.nd.id ≤ 16777215 := by have := valid_ids (HF.out.val r hmem); omega
      have hcs := cntL_take st.ns j hlt
      rw [hr] at hcs
      have hct2 : cntL (st.ns.take (j + 1)) ≤ 8192 := Nat.le_trans (cntL_take_le _ _) HCL.out
      obtain ⟨a0, al⟩ := HAr.out
      have HG := Lib.hid (HF.out.get_mem hmem)
      have HCS := Lib.hid hcs
      obtain ⟨ct, hct0⟩ : ∃ ct, cntL (st.ns.take j) = ct := ⟨_, rfl⟩
      rw [hct0] at hct hcs
      have HCT := Lib.hid hct0
      rw [hct0]
      have hel : r.ents.length ≤ 8192 := by omega
      clear hcell hr hcs hmem hct0
      generalize hri : r.nd.id = id at *
      have HRI := Lib.hid hri
      clear hri
      by_cases hk : r.nd.kind = 2
      · have hd : st.isDir id = true := by unfold St.isDir; rw [HG.out]; simp [hk]
        have HD := Lib.hid hd
        have HEN : Hid ((st.ents id).length = r.ents.length) := Lib.hid (by unfold St.ents; rw [HG.out]; rfl)
        clear hd hk
        go_wp2_with fail
        refine (wDir_yes HI.out.1.tree (by omega) HD.out).mono ?_
        rintro e w2 ⟨x, rfl, h2, k2⟩
        have H2 := Lib.hid h2
        have G2 := Lib.hid (HI.out.1.then h2.wb k2)
        have K2 := Lib.hid (HI.out.2.trans k2)
        clear h2 k2 a0 al cj
        go_wp2_with fail
        refine (wl_dlen H2.out (fun d hd => hd.2)).mono ?_
        rw [HEN.out]
        rintro e w3 ⟨rfl, rfl⟩
        go_wp2
        go_roundw
        case rel => exact ⟨j + 1, by omega, by go_num, by rw [HCS.out, HCT.out]; go_num, Lib.hid ⟨G2.out, K2.out⟩⟩
        case measure => simp [intOf]; omega
      · have hd : st.isDir id = false := by unfold St.isDir; rw [HG.out]; simp [hk]
        have HD := Lib.hid hd
        have HEN : Hid (r.ents.length = 0) := Lib.hid (by rw [HF.out.flat r (findN_mem HG.out) hk]; rfl)
        clear hd hk
        go_wp2_with fail
        refine (wDir_no HI.out.1.tree (by omega) HD.out).mono ?_
        rintro e w2 ⟨rfl, hb2⟩
        have G2 := Lib.hid (HI.out.1.below hb2)
        have K2 := Lib.hid (HI.out.2.trans (HI.out.1.tree.kept hb2))
        clear hb2 a0 al cj
        go_wp2
        go_roundw
        case rel => exact ⟨j + 1, by omega, by go_num, by rw [HCS.out, HCT.out, HEN.out]; rfl, Lib.hid ⟨G2.out, K2.out⟩⟩
        case measure => simp [intOf]; omega
    · obtain rfl : j = st.ns.length := by omega
      go_wp2
      rw [← HP.out]
      refine ⟨?_, HI.out.1.out.1, HI.out.1.out.2⟩
      rw [List.take_length]
      rfl
set_option maxHeartbeats 1000000 in
theorem twithin_any (ha : TA w a b) (hl : L a) (h : WB B L w b t dm st) (f : Full st) {k c : Int} (hk : -9223372036854775808 ≤ k ∧ k ≤ 9223372036854775807) (hc : -9223372036854775808 ≤ c ∧ c ≤ 9223372036854775807) :
    Calls Tryz.prog 31 #[.pointer (some ⟨a, 0, none⟩), .int .i64 k, .int .i64 c] w fun e w' => e = .returned (.bool (st.within k c)) ∧ WB B L w' b t dm st ∧ KeptP B L w w' := by
  have H := Lib.hid h
  have HF := Lib.hid f
  have HA := Lib.hid ha
  have HLA := Lib.hid hl
  have hlen := f.len
  obtain ⟨R, hR⟩ : ∃ R, st.within k c = R := ⟨_, rfl⟩
  rw [hR]
  have HR := Lib.hid hR
  generalize hP : (fun (e : Ending) (w' : World) => e = .returned (.bool R) ∧ WB B L w' b t dm st ∧ KeptP B L w w') = Post
  have HP := Lib.hid hP
  have HLEN := Lib.hid hlen
  obtain ⟨a0, al⟩ := HA.out
  have b0 := H.out.c0
  have bl0 := H.out.lt.1
  clear hP h f ha hl hR
  go_enter Tryz.func31, Tryz.ntmps31
  go_wp2_with fail
  refine (wl_len H.out).mono ?_
  rintro e w1 ⟨rfl, rfl⟩
  clear a0 al b0 bl0
  go_wp2_with fail
  go_loopw [1, 18] (fun u v wr => ∃ (j : Nat) (id : Int), j ≤ st.ns.length + 1 ∧ v = .int .i64 j ∧ u = .int .i64 id ∧ (-9223372036854775808 ≤ id ∧ id ≤ 9223372036854775807) ∧ Hid (withinK st c (st.ns.length + 1 - j) id = R ∧ WB B L wr b t dm st ∧ KeptP B L w wr)) (fun _ v _ => st.ns.length + 1 - (intOf v).toNat)
  case atStart => exact ⟨0, k, Nat.zero_le _, rfl, rfl, hk, Lib.hid ⟨HR.out, H.out, KeptP.refl _ _ _⟩⟩
  case round =>
    obtain ⟨j, id, hj, rfl, rfl, hid, HI⟩ := hrel
    obtain ⟨a0, al⟩ := HA.out.kept HLA.out HI.out.2.2
    have b0 := HI.out.2.1.c0
    have bl0 := HI.out.2.1.lt.1
    have hlen := HLEN.out
    by_cases hlt : j < st.ns.length + 1
    · obtain ⟨m, hm⟩ : ∃ m, st.ns.length + 1 - j = m + 1 := ⟨st.ns.length - j, by omega⟩
      have HM := Lib.hid hm
      clear hm
      obtain ⟨is, his⟩ : ∃ is, (st.nd id).isSome = is := ⟨_, rfl⟩
      obtain ⟨q, hq⟩ : ∃ q, (st.nd id).getD noNd = q := ⟨_, rfl⟩
      have HIS := Lib.hid his
      have HQ := Lib.hid hq
      clear his hq
      obtain ⟨q1, q2, q3, q4, q5, q6⟩ := q
      have HX := HI.out.1
      rw [HM.out, withinK] at HX
      have HXX := Lib.hid HX
      clear HX
      go_wp2_with fail
      refine (wl_get HI.out.2.1 hid).mono ?_
      rw [HIS.out, HQ.out]
      rintro e w2 ⟨rfl, hb⟩
      simp only [encN]
      have bb := bl_trans hb (bl_alloc (Below.refl w2.heap.size w2) (.cells #[.int .i64 q1, .int .i64 q2, .int .i64 q3, .int .i64 q4, .string q5, .int .i64 q6] 39))
      have H2 := Lib.hid (HI.out.2.1.below bb)
      have K2 := Lib.hid (HI.out.2.2.trans (HI.out.2.1.kept bb))
      clear hb bb a0 al b0 bl0
      cases is with
      | false =>
        have HZ : Hid (R = false) := Lib.hid (by
          have h1 := HXX.out
          rw [nd_none (by simpa using HIS.out)] at h1
          exact h1.symm)
        go_wp2
        rw [← HP.out]
        exact ⟨by rw [HZ.out]; rfl, H2.out, K2.out⟩
      | true =>
        obtain ⟨x, hx, hx2⟩ : ∃ x, st.get id = some x ∧ x.nd = ⟨q1, q2, q3, q4, q5, q6⟩ := by
          have h1 := HIS.out
          have h2 := HQ.out
          unfold St.nd at h1 h2
          cases hg : st.get id with
          | none => rw [hg] at h1; cases h1
          | some r => rw [hg] at h2; exact ⟨r, rfl, h2⟩
        have hq6 : -9223372036854775808 ≤ q6 ∧ q6 ≤ 9223372036854775807 := by
          have h1 := HF.out.val x (findN_mem hx)
          rw [hx2] at h1
          have := valid_parent h1
          simp only at this
          omega
        have HX2 : Hid ((if q2 ≠ 2 then false else if id = c then true else if id = 1 then false else withinK st c m q6) = R) := Lib.hid (by
          have h1 := HXX.out
          rw [hx] at h1
          simp only [hx2] at h1
          exact h1)
        clear hx hx2 HXX
        by_cases hk2 : q2 = 2
        · subst hk2
          by_cases hic : id = c
          · have hicb : (id == c) = true := by rw [beq_iff_eq]; exact hic
            have HZ : Hid (R = true) := Lib.hid (by rw [← HX2.out, if_neg (by simp), if_pos hic])
            clear hic
            go_wp2
            rw [← HP.out]
            exact ⟨by rw [HZ.out]; rfl, H2.out, K2.out⟩
          · have hicb : (id == c) = false := by rw [beq_eq_false_iff_ne]; exact hic
            by_cases hi1 : id = 1
            · have hib : (id == 1) = true := by rw [beq_iff_eq]; exact hi1
              have HZ : Hid (R = false) := Lib.hid (by rw [← HX2.out, if_neg (by simp), if_neg hic, if_pos hi1])
              clear hic hi1
              go_wp2
              rw [← HP.out]
              exact ⟨by rw [HZ.out]; rfl, H2.out, K2.out⟩
            · have hib : (id == 1) = false := by rw [beq_eq_false_iff_ne]; exact hi1
              have HZ : Hid (withinK st c m q6 = R) := Lib.hid (by rw [← HX2.out, if_neg (by simp), if_neg hic, if_neg hi1])
              clear hic hi1
              go_wp2
              go_roundw
              case rel => exact ⟨j + 1, q6, by omega, by go_num, rfl, hq6, Lib.hid ⟨by rw [show st.ns.length + 1 - (j + 1) = m by have := HM.out; omega]; exact HZ.out, H2.out, K2.out⟩⟩
              case measure => simp [intOf]; omega
        · have hkb : (q2 == 2) = false := by rw [beq_eq_false_iff_ne]; exact hk2
          have hkc : (q2 != 2) = true := by simp [bne, hkb]
          have HZ : Hid (R = false) := Lib.hid (by rw [← HX2.out, if_pos hk2])
          clear hk2
          go_wp2
          rw [← HP.out]
          exact ⟨by rw [HZ.out]; rfl, H2.out, K2.out⟩
    · obtain rfl : j = st.ns.length + 1 := by omega
      have HZ : Hid (R = false) := Lib.hid (by
        have h1 := HI.out.1
        rw [Nat.sub_self, withinK] at h1
        exact h1.symm)
      clear a0 al b0 bl0
      go_wp2
      rw [← HP.out]
      exact ⟨by rw [HZ.out]; rfl, HI.out.2.1, HI.out.2.2⟩
end
end Go.Proofs.YtnkcbogikaebfaaGreatDoor
end
