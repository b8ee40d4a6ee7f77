/- Merged texts: TreeEnt TreeRen TreeTS TreeOf. -/
import Derived.Test.YtjekpbkmhgfhoaaGreatDoorPBase25
import Derived.Test.YtjekpbkmhgfhoaaGreatDoorPBase28
import Derived.Test.YtjekpbkmhgfhoaaGreatDoorPBase27
import Derived.IntWalk
import Derived.Test.YtjekpbkmhgfhoaaGreatDoorPBase31
import Derived.Test.YtjekpbkmhgfhoaaGreatDoorPBase02
import Derived.Test.YtjekpbkmhgfhoaaGreatDoorPBase18
section
/- The walks of package tree: Entries, Within. -/
namespace Go.Proofs.YtjekpbkmhgfhoaaGreatDoor
open Go Go.RowKit
set_option maxRecDepth 100000
set_option linter.unusedSimpArgs false
set_option linter.unusedVariables false
attribute [local go_sem] giv
variable {E : Nat → Addr} {B : Nat}

theorem SortedKeys.uniq {V : Type} {g : Int → Option V} {l m : List Int} (h1 : SortedKeys g l) (h2 : l.Pairwise (· < ·)) (h3 : m.Pairwise (· < ·)) (h4 : ∀ k, k ∈ m ↔ (g k).isSome = true) : l = m := by
  have key : ∀ {l m : List Int}, l.Pairwise (· < ·) → m.Pairwise (· < ·) → (∀ k, k ∈ l ↔ k ∈ m) → l = m := by
    intro l
    induction l with
    | nil =>
      intro m _ _ h
      cases m with
      | nil => rfl
      | cons b m => exact absurd ((h b).2 (List.mem_cons_self ..)) (by simp)
    | cons a l ih =>
      intro m h1 h2 h
      cases m with
      | nil => exact absurd ((h a).1 (List.mem_cons_self ..)) (by simp)
      | cons b m =>
        obtain ⟨h3, h4⟩ := List.pairwise_cons.1 h1
        obtain ⟨h5, h6⟩ := List.pairwise_cons.1 h2
        have hab : a = b := by
          have h7 := (h a).1 (List.mem_cons_self ..)
          have h8 := (h b).2 (List.mem_cons_self ..)
          rcases List.mem_cons.1 h7 with h7 | h7
          · exact h7
          · rcases List.mem_cons.1 h8 with h8 | h8
            · exact h8.symm
            · have := h5 a h7; have := h3 b h8; omega
        subst hab
        rw [ih h4 h6 fun k => ⟨fun hk => ?_, fun hk => ?_⟩]
        · have h9 := h3 k hk
          rcases List.mem_cons.1 ((h k).1 (List.mem_cons_of_mem _ hk)) with rfl | h7
          · omega
          · exact h7
        · have h9 := h5 k hk
          rcases List.mem_cons.1 ((h k).2 (List.mem_cons_of_mem _ hk)) with rfl | h7
          · omega
          · exact h7
  exact key h2 h3 fun k => (h1.mem k).trans (h4 k).symm
section
variable {L : Nat → Prop} {w : World} {a b t dm : Nat} {st : St}
theorem valid_parent {n : Nd} (h : validB n = true) : 0 ≤ n.parent ∧ n.parent ≤ 16777215 := by
  simp only [validB, idB, Bool.and_eq_true, decide_eq_true_eq] at h
  by_cases hk : n.kind = 2
  · simp [hk] at h; omega
  · simp [hk] at h; omega
theorem ids_sorted (f : Full st) {ks : List Int} (h : SortedKeys st.nd ks) : ks = st.ns.map fun r => r.nd.id := by
  refine h.uniq h.rise ?_ fun k => ?_
  · rw [List.pairwise_map]; exact f.rise
  · constructor
    · intro hk
      obtain ⟨r, hr, rfl⟩ := List.mem_map.1 hk
      unfold St.nd
      rw [f.get_mem hr]; rfl
    · intro hk
      unfold St.nd at hk
      cases hg : st.get k with
      | none => rw [hg] at hk; cases hk
      | some r => exact List.mem_map.2 ⟨r, findN_mem hg, findN_id hg⟩
theorem wl_all (h : WB B L w b t dm st) (f : Full st) : Calls Tryz.prog 44 #[.pointer (some ⟨t, 0, none⟩)] w fun e w' =>
    (∃ sp cap, e = .returned (.slice sp st.ns.length cap) ∧ SlVals w' w.heap.size (.slice sp st.ns.length cap) (st.ns.map fun r => .int .i64 r.nd.id)) ∧ Below w.heap.size w w' := by
  obtain ⟨h1, h2, nm, dirs, pn, lab, h3, h4, h5⟩ := h
  refine (nall_any h3.nodes (Nat.le_trans f.len (by decide))).mono ?_
  rintro e w' ⟨⟨v, ks, rfl, hs, hk, hn⟩, hb⟩
  have hks := ids_sorted f hk
  subst hks
  rw [List.map_map] at hs
  refine ⟨?_, hb⟩
  rcases hs with ⟨rfl, hx⟩ | ⟨h, cap, rfl, hx⟩
  · have : st.ns = [] := by simpa using hx
    exact ⟨none, 0, by rw [this]; rfl, .inl ⟨by rw [this]; rfl, by rw [this]; rfl⟩⟩
  · refine ⟨some ⟨h, 0, none⟩, cap, by simp, .inr ⟨h, cap, by simp, hx.1, hx.2.1, by have := hx.2.2.1; simpa using this, fun i hi => ?_⟩⟩
    exact hx.2.2.2 i (by simpa using hi)
set_option maxHeartbeats 1000000 in
theorem tentries_any (ha : TA w a b) (hl : L a) (h : WB B L w b t dm st) (f : Full st) :
    Calls Tryz.prog 39 #[.pointer (some ⟨a, 0, none⟩)] w fun e w' => e = .returned (.int .i64 st.count) ∧ WB B L w' b t dm st ∧ KeptP B L w w' := by
  have H := Lib.hid h
  have HF := Lib.hid f
  have HA := Lib.hid ha
  have HLA := Lib.hid hl
  have hcl := cnt_le f
  have hlen := f.len
  rw [count_cntL]
  generalize hP : (fun (e : Ending) (w' : World) => e = .returned (.int .i64 (cntL st.ns : Nat)) ∧ WB B L w' b t dm st ∧ KeptP B L w w') = Post
  have HP := Lib.hid hP
  have HCL := Lib.hid hcl
  have HLEN := Lib.hid hlen
  obtain ⟨a0, al⟩ := HA.out
  have b0 := H.out.c0
  have bl0 := H.out.lt.1
  clear hP h f ha hl hcl hlen
  go_enter Tryz.func39, Tryz.ntmps39
  go_wp2_with fail
  refine (wl_all H.out HF.out).mono ?_
  rintro e w1 ⟨⟨sp, cap, rfl, hs⟩, hb⟩
  obtain ⟨L1, hL1⟩ : ∃ L1 : Nat → Prop, L1 = fun x => (Value.slice sp st.ns.length cap).ownBlock = some x ∨ L x := ⟨_, rfl⟩
  have hown : ∀ x, (Value.slice sp st.ns.length cap).ownBlock = some x → w.heap.size ≤ x ∧ x < w1.heap.size := by
    intro x hx
    rcases hs with ⟨h1, _⟩ | ⟨h, c, h1, h2, h3, _⟩
    · rw [h1] at hx; cases hx
    · rw [h1] at hx; cases hx; exact ⟨h2, h3⟩
  have G1 : Hid (Gd B L L1 w b t dm st (fun x => (Value.slice sp st.ns.length cap).ownBlock = some x) w1) := Lib.hid (by rw [hL1]; exact Gd.first H.out hb hown)
  have HLs : Hid (L1 a) := Lib.hid (by rw [hL1]; exact .inr HLA.out)
  have HLo : Hid (∀ x, (Value.slice sp st.ns.length cap).ownBlock = some x → L1 x) := Lib.hid (fun x hx => by rw [hL1]; exact .inl hx)
  have HS := Lib.hid hs
  have HA1 := Lib.hid (HA.out.below hb)
  clear hs hb hL1 hown a0 al b0 bl0
  go_wp2_with fail
  go_loopw [3, 17] (fun s v wr => ∃ j : Nat, j ≤ st.ns.length ∧ v = .int .i64 j ∧ s = .int .i64 (cntL (st.ns.take j) : Nat) ∧ Hid (Gd B L L1 w b t dm st (fun _ => False) wr ∧ KeptP B L1 w1 wr)) (fun _ v _ => st.ns.length - (intOf v).toNat)
  case atStart => exact ⟨0, Nat.zero_le _, rfl, rfl, Lib.hid ⟨G1.out.less (fun _ h => h.elim), KeptP.refl _ _ _⟩⟩
  case round =>
    obtain ⟨j, hj, rfl, rfl, HI⟩ := hrel
    have hlen := HLEN.out
    have hct : cntL (st.ns.take j) ≤ 8192 := Nat.le_trans (cntL_take_le _ _) HCL.out
    have HAr := Lib.hid (HA1.out.kept HLs.out HI.out.2)
    by_cases hlt : j < st.ns.length
    · obtain ⟨r, hr⟩ : ∃ r, st.ns[j] = r := ⟨_, rfl⟩
      have hmem : r ∈ st.ns := hr ▸ List.getElem_mem hlt
      obtain ⟨hh, c2, hsp, -, hhl, -, hcell⟩ : ∃ h c, (Value.slice sp st.ns.length cap) = .slice (some ⟨h, 0, none⟩) st.ns.length c ∧ w.heap.size ≤ h ∧ h < w1.heap.size ∧ True ∧ ∀ i, i < st.ns.length → w1.cell? ⟨h, i, none⟩ = (st.ns.map fun r => Value.int .i64 r.nd.id)[i]? := by
        rcases HS.out with ⟨_, h2⟩ | ⟨h, c, h1, h2, h3, _, h5⟩
        · have : st.ns = [] := by simpa using h2
          rw [this] at hlt; cases hlt
        · exact ⟨h, c, by simpa using h1, h2, h3, trivial, fun i hi => h5 i (by simpa using hi)⟩
      injection hsp with e1 e2 e3
      subst e1 e3
      have hLh : L1 hh := HLo.out hh rfl
      have cj : wr.cell? ⟨hh, j, none⟩ = some (.int .i64 r.nd.id) := by
        rw [HI.out.2.cell hLh j, hcell j hlt]
        simp [hr, hlt]
      have hhw : hh < wr.heap.size := HI.out.1.tree.2.1 _ hLh
      have hid : 1 ≤ r.nd.id ∧ r.nd.id ≤ 16777215 := by have := valid_ids (HF.out.val r hmem); omega
      have hcs := cntL_take st.ns j hlt
      rw [hr] at hcs
      have hct2 : cntL (st.ns.take (j + 1)) ≤ 8192 := Nat.le_trans (cntL_take_le _ _) HCL.out
      obtain ⟨a0, al⟩ := HAr.out
      have HG := Lib.hid (HF.out.get_mem hmem)
      have HCS := Lib.hid hcs
      obtain ⟨ct, hct0⟩ : ∃ ct, cntL (st.ns.take j) = ct := ⟨_, rfl⟩
      rw [hct0] at hct hcs
      have HCT := Lib.hid hct0
      rw [hct0]
      have hel : r.ents.length ≤ 8192 := by omega
      clear hcell hr hcs hmem hct0
      generalize hri : r.nd.id = id at *
      have HRI := Lib.hid hri
      clear hri
      by_cases hk : r.nd.kind = 2
      · have hd : st.isDir id = true := by unfold St.isDir; rw [HG.out]; simp [hk]
        have HD := Lib.hid hd
        have HEN : Hid ((st.ents id).length = r.ents.length) := Lib.hid (by unfold St.ents; rw [HG.out]; rfl)
        clear hd hk
        go_wp2_with fail
        refine (wDir_yes HI.out.1.tree (by omega) HD.out).mono ?_
        rintro e w2 ⟨x, rfl, h2, k2⟩
        have H2 := Lib.hid h2
        have G2 := Lib.hid (HI.out.1.then h2.wb k2)
        have K2 := Lib.hid (HI.out.2.trans k2)
        clear h2 k2 a0 al cj
        go_wp2_with fail
        refine (wl_dlen H2.out (fun d hd => hd.2)).mono ?_
        rw [HEN.out]
        rintro e w3 ⟨rfl, rfl⟩
        go_wp2
        go_roundw
        case rel => exact ⟨j + 1, by omega, by go_num, by rw [HCS.out, HCT.out]; go_num, Lib.hid ⟨G2.out, K2.out⟩⟩
        case measure => simp [intOf]; omega
      · have hd : st.isDir id = false := by unfold St.isDir; rw [HG.out]; simp [hk]
        have HD := Lib.hid hd
        have HEN : Hid (r.ents.length = 0) := Lib.hid (by rw [HF.out.flat r (findN_mem HG.out) hk]; rfl)
        clear hd hk
        go_wp2_with fail
        refine (wDir_no HI.out.1.tree (by omega) HD.out).mono ?_
        rintro e w2 ⟨rfl, hb2⟩
        have G2 := Lib.hid (HI.out.1.below hb2)
        have K2 := Lib.hid (HI.out.2.trans (HI.out.1.tree.kept hb2))
        clear hb2 a0 al cj
        go_wp2
        go_roundw
        case rel => exact ⟨j + 1, by omega, by go_num, by rw [HCS.out, HCT.out, HEN.out]; rfl, Lib.hid ⟨G2.out, K2.out⟩⟩
        case measure => simp [intOf]; omega
    · obtain rfl : j = st.ns.length := by omega
      go_wp2
      rw [← HP.out]
      refine ⟨?_, HI.out.1.out.1, HI.out.1.out.2⟩
      rw [List.take_length]
      rfl
set_option maxHeartbeats 1000000 in
theorem twithin_any (ha : TA w a b) (hl : L a) (h : WB B L w b t dm st) (f : Full st) {k c : Int} (hk : -9223372036854775808 ≤ k ∧ k ≤ 9223372036854775807) (hc : -9223372036854775808 ≤ c ∧ c ≤ 9223372036854775807) :
    Calls Tryz.prog 74 #[.pointer (some ⟨a, 0, none⟩), .int .i64 k, .int .i64 c] w fun e w' => e = .returned (.bool (st.within k c)) ∧ WB B L w' b t dm st ∧ KeptP B L w w' := by
  have H := Lib.hid h
  have HF := Lib.hid f
  have HA := Lib.hid ha
  have HLA := Lib.hid hl
  have hlen := f.len
  obtain ⟨R, hR⟩ : ∃ R, st.within k c = R := ⟨_, rfl⟩
  rw [hR]
  have HR := Lib.hid hR
  generalize hP : (fun (e : Ending) (w' : World) => e = .returned (.bool R) ∧ WB B L w' b t dm st ∧ KeptP B L w w') = Post
  have HP := Lib.hid hP
  have HLEN := Lib.hid hlen
  obtain ⟨a0, al⟩ := HA.out
  have b0 := H.out.c0
  have bl0 := H.out.lt.1
  clear hP h f ha hl hR
  go_enter Tryz.func74, Tryz.ntmps74
  go_wp2_with fail
  refine (wl_len H.out).mono ?_
  rintro e w1 ⟨rfl, rfl⟩
  clear a0 al b0 bl0
  go_wp2_with fail
  go_loopw [1, 18] (fun u v wr => ∃ (j : Nat) (id : Int), j ≤ st.ns.length + 1 ∧ v = .int .i64 j ∧ u = .int .i64 id ∧ (-9223372036854775808 ≤ id ∧ id ≤ 9223372036854775807) ∧ Hid (withinK st c (st.ns.length + 1 - j) id = R ∧ WB B L wr b t dm st ∧ KeptP B L w wr)) (fun _ v _ => st.ns.length + 1 - (intOf v).toNat)
  case atStart => exact ⟨0, k, Nat.zero_le _, rfl, rfl, hk, Lib.hid ⟨HR.out, H.out, KeptP.refl _ _ _⟩⟩
  case round =>
    obtain ⟨j, id, hj, rfl, rfl, hid, HI⟩ := hrel
    obtain ⟨a0, al⟩ := HA.out.kept HLA.out HI.out.2.2
    have b0 := HI.out.2.1.c0
    have bl0 := HI.out.2.1.lt.1
    have hlen := HLEN.out
    by_cases hlt : j < st.ns.length + 1
    · obtain ⟨m, hm⟩ : ∃ m, st.ns.length + 1 - j = m + 1 := ⟨st.ns.length - j, by omega⟩
      have HM := Lib.hid hm
      clear hm
      obtain ⟨is, his⟩ : ∃ is, (st.nd id).isSome = is := ⟨_, rfl⟩
      obtain ⟨q, hq⟩ : ∃ q, (st.nd id).getD noNd = q := ⟨_, rfl⟩
      have HIS := Lib.hid his
      have HQ := Lib.hid hq
      clear his hq
      obtain ⟨q1, q2, q3, q4, q5, q6⟩ := q
      have HX := HI.out.1
      rw [HM.out, withinK] at HX
      have HXX := Lib.hid HX
      clear HX
      go_wp2_with fail
      refine (wl_get HI.out.2.1 hid).mono ?_
      rw [HIS.out, HQ.out]
      rintro e w2 ⟨rfl, hb⟩
      simp only [encN]
      have bb := bl_trans hb (bl_alloc (Below.refl w2.heap.size w2) (.cells #[.int .i64 q1, .int .i64 q2, .int .i64 q3, .int .i64 q4, .string q5, .int .i64 q6] 59))
      have H2 := Lib.hid (HI.out.2.1.below bb)
      have K2 := Lib.hid (HI.out.2.2.trans (HI.out.2.1.kept bb))
      clear hb bb a0 al b0 bl0
      cases is with
      | false =>
        have HZ : Hid (R = false) := Lib.hid (by
          have h1 := HXX.out
          rw [nd_none (by simpa using HIS.out)] at h1
          exact h1.symm)
        go_wp2
        rw [← HP.out]
        exact ⟨by rw [HZ.out]; rfl, H2.out, K2.out⟩
      | true =>
        obtain ⟨x, hx, hx2⟩ : ∃ x, st.get id = some x ∧ x.nd = ⟨q1, q2, q3, q4, q5, q6⟩ := by
          have h1 := HIS.out
          have h2 := HQ.out
          unfold St.nd at h1 h2
          cases hg : st.get id with
          | none => rw [hg] at h1; cases h1
          | some r => rw [hg] at h2; exact ⟨r, rfl, h2⟩
        have hq6 : -9223372036854775808 ≤ q6 ∧ q6 ≤ 9223372036854775807 := by
          have h1 := HF.out.val x (findN_mem hx)
          rw [hx2] at h1
          have := valid_parent h1
          simp only at this
          omega
        have HX2 : Hid ((if q2 ≠ 2 then false else if id = c then true else if id = 1 then false else withinK st c m q6) = R) := Lib.hid (by
          have h1 := HXX.out
          rw [hx] at h1
          simp only [hx2] at h1
          exact h1)
        clear hx hx2 HXX
        by_cases hk2 : q2 = 2
        · subst hk2
          by_cases hic : id = c
          · have hicb : (id == c) = true := by rw [beq_iff_eq]; exact hic
            have HZ : Hid (R = true) := Lib.hid (by rw [← HX2.out, if_neg (by simp), if_pos hic])
            clear hic
            go_wp2
            rw [← HP.out]
            exact ⟨by rw [HZ.out]; rfl, H2.out, K2.out⟩
          · have hicb : (id == c) = false := by rw [beq_eq_false_iff_ne]; exact hic
            by_cases hi1 : id = 1
            · have hib : (id == 1) = true := by rw [beq_iff_eq]; exact hi1
              have HZ : Hid (R = false) := Lib.hid (by rw [← HX2.out, if_neg (by simp), if_neg hic, if_pos hi1])
              clear hic hi1
              go_wp2
              rw [← HP.out]
              exact ⟨by rw [HZ.out]; rfl, H2.out, K2.out⟩
            · have hib : (id == 1) = false := by rw [beq_eq_false_iff_ne]; exact hi1
              have HZ : Hid (withinK st c m q6 = R) := Lib.hid (by rw [← HX2.out, if_neg (by simp), if_neg hic, if_neg hi1])
              clear hic hi1
              go_wp2
              go_roundw
              case rel => exact ⟨j + 1, q6, by omega, by go_num, rfl, hq6, Lib.hid ⟨by rw [show st.ns.length + 1 - (j + 1) = m by have := HM.out; omega]; exact HZ.out, H2.out, K2.out⟩⟩
              case measure => simp [intOf]; omega
        · have hkb : (q2 == 2) = false := by rw [beq_eq_false_iff_ne]; exact hk2
          have hkc : (q2 != 2) = true := by simp [bne, hkb]
          have HZ : Hid (R = false) := Lib.hid (by rw [← HX2.out, if_pos hk2])
          clear hk2
          go_wp2
          rw [← HP.out]
          exact ⟨by rw [HZ.out]; rfl, H2.out, K2.out⟩
    · obtain rfl : j = st.ns.length + 1 := by omega
      have HZ : Hid (R = false) := Lib.hid (by
        have h1 := HI.out.1
        rw [Nat.sub_self, withinK] at h1
        exact h1.symm)
      clear a0 al b0 bl0
      go_wp2
      rw [← HP.out]
      exact ⟨by rw [HZ.out]; rfl, HI.out.2.1, HI.out.2.2⟩
end
end Go.Proofs.YtjekpbkmhgfhoaaGreatDoor
end

section
/- The walk of package tree's Rename. -/
namespace Go.Proofs.YtjekpbkmhgfhoaaGreatDoor
open Go Go.RowKit
set_option maxRecDepth 100000
set_option linter.unusedSimpArgs false
set_option linter.unusedVariables false
attribute [local go_sem] giv
variable {E : Nat → Addr} {B : Nat}
section
variable {L : Nat → Prop} {w : World} {a b t dm : Nat} {st : St}
set_option maxHeartbeats 1500000 in
theorem trename_any (ha : TA w a b) (hl : L a) (h : WB B L w b t dm st) (f : Full st) (x y : ByteArray) (hE : EnvM E B w) :
    Calls Tryz.prog 37 #[.pointer (some ⟨a, 0, none⟩), .string x, .string y] w (UnlR E B L b t dm (renameT st x y) w) := by
  have H := Lib.hid h
  have HF := Lib.hid f
  have HE := Lib.hid hE
  have HA := Lib.hid ha
  have HLA := Lib.hid hl
  obtain ⟨R, hR⟩ : ∃ R, renameT st x y = R := ⟨_, rfl⟩
  rw [hR]
  unfold renameT at hR
  simp only at hR
  have HR := Lib.hid hR
  generalize hP : UnlR E B L b t dm R w = Post
  have HP := Lib.hid hP
  clear hP h hE hR ha hl f
  go_enter Tryz.func37, Tryz.ntmps37
  go_wp2_with fail
  refine (ttwo_any x y w HE.out).mono ?_
  rintro e w2 ⟨⟨sp1, n1, c1, s1, sp2, n2, c2, s2, c, rfl, hcase⟩, hb2⟩
  have HE2 := Lib.hid (HE.out.below hb2)
  have HA2 := Lib.hid (HA.out.below hb2)
  have B2 := Lib.hid hb2
  have HC := Lib.hid hcase
  have hcc : CodeOk c := by
    rcases hcase with ⟨_, h⟩ | ⟨_, h, _⟩ <;> rw [h] <;> exact path_code _
  have HCC := Lib.hid hcc
  clear hcase hb2 hcc
  obtain ⟨w3, hw3⟩ : ∃ w3, w3 = (w2.alloc (.cells #[.slice sp1 n1 c1, .bool s1] 120)).alloc (.cells #[.slice sp2 n2 c2, .bool s2] 120) := ⟨_, rfl⟩
  have b23 : Below w2.heap.size w2 w3 := by rw [hw3]; exact bl_alloc (bl_alloc (Below.refl _ _) _) _
  have z3 : w3.heap.size = w2.heap.size + 2 := by rw [hw3]; simp
  have r13 : Row w3 w2.heap.size 120 [.slice sp1 n1 c1, .bool s1] := by rw [hw3]; exact (Row.new w2 _ [.slice sp1 n1 c1, .bool s1]).alloc _
  have r23 : Row w3 (w2.heap.size + 1) 120 [.slice sp2 n2 c2, .bool s2] := by
    have := Row.new (w2.alloc (.cells #[.slice sp1 n1 c1, .bool s1] 120)) 120 [.slice sp2 n2 c2, .bool s2]
    rw [hw3]
    simpa using this
  have B23 := Lib.hid b23
  have HW3 := Lib.hid hw3
  have HE3 := Lib.hid (HE2.out.below b23)
  have HA3 := Lib.hid (HA2.out.below b23)
  have RP3 := Lib.hid r13
  have RQ3 := Lib.hid r23
  have Z3 := Lib.hid z3
  clear r13 r23 z3 hw3 b23 HE2 HA2
  generalize hC1 : w2.heap.size + 1 = C1 at *
  have HC1 := Lib.hid hC1
  clear hC1
  rcases HCC.out with hz | hz
  · subst hz
    have h2 : (parseP x).1 = 0 ∧ (parseP y).1 = 0 ∧ s1 = (parseP x).2.slash ∧ s2 = (parseP y).2.slash ∧ SlS w2 w.heap.size (.slice sp1 n1 c1) (parseP x).2.parts ∧ SlS w2 w.heap.size (.slice sp2 n2 c2) (parseP y).2.parts := by
      rcases HC.out with ⟨h1, h2⟩ | ⟨h1, h2, h3⟩
      · exact absurd h2.symm h1
      · exact ⟨h1, h2.symm, h3⟩
    have H2 := Lib.hid h2
    clear h2
    obtain ⟨L1, hL1⟩ : ∃ L1 : Nat → Prop, L1 = fun z => (z = w2.heap.size ∨ z = C1 ∨ (Value.slice sp1 n1 c1).ownBlock = some z ∨ (Value.slice sp2 n2 c2).ownBlock = some z) ∨ L z := ⟨_, rfl⟩
    have G3 : Hid (Gd B L L1 w b t dm st (fun _ => False) w3) := Lib.hid (by
      rw [hL1]
      refine (Gd.first H.out (B2.out.trans (B23.out.mono B2.out.size)) (S := fun z => z = w2.heap.size ∨ z = C1 ∨ (Value.slice sp1 n1 c1).ownBlock = some z ∨ (Value.slice sp2 n2 c2).ownBlock = some z) (fun z hz => ?_)).less (fun _ h => h.elim)
      have h1 := B2.out.size
      have h2 := Z3.out
      have h3 := HC1.out
      rcases hz with rfl | rfl | hz | hz
      · omega
      · omega
      · have := H2.out.2.2.2.2.1.lt z hz
        omega
      · have := H2.out.2.2.2.2.2.lt z hz
        omega)
    have HLP : Hid (L1 w2.heap.size ∧ L1 C1 ∧ L1 a ∧ (∀ z, (Value.slice sp1 n1 c1).ownBlock = some z → L1 z) ∧ (∀ z, (Value.slice sp2 n2 c2).ownBlock = some z → L1 z)) := Lib.hid (by
      rw [hL1]
      exact ⟨.inl (.inl rfl), .inl (.inr (.inl rfl)), .inr HLA.out, fun z hz => .inl (.inr (.inr (.inl hz))), fun z hz => .inl (.inr (.inr (.inr hz)))⟩)
    have HRX := Lib.hid ((H2.out.2.2.2.2.1.rd (fun _ => rfl)).below B23.out)
    have HRY := Lib.hid ((H2.out.2.2.2.2.2.rd (fun _ => rfl)).below B23.out)
    clear hL1
    rw [show errOf E 0 = .nilIface from rfl]
    go_wp2_with fail
    rw [← HW3.out]
    obtain ⟨F, hF⟩ : ∃ F, thereP st ⟨(parseP x).2.parts, s1⟩ = F := ⟨_, rfl⟩
    have hF2 : thereP st (parseP x).2 = F := by rw [← hF, H2.out.2.2.1]
    have HR1 := HR.out
    rw [if_neg (by simp [H2.out.1]), if_neg (by simp [H2.out.2.1]), hF2] at HR1
    have HRF := Lib.hid HR1
    have HF2 := Lib.hid hF2
    have hfc := thereP_code st (parseP x).2
    rw [hF2] at hfc
    refine (tthere_any HA3.out HLP.out.2.2.1 G3.out.tree HF.out HRX.out (fun z hz => HLP.out.2.2.2.1 z hz) (Nat.le_trans (parse_len x) (by decide)) (parse_small x) s1 HE3.out).mono ?_
    rw [hF]
    obtain ⟨fc, ⟨fd, fn, fname⟩, ⟨q1, q2, q3, q4, q5, q6⟩⟩ := F
    simp only at hfc
    have HFC := Lib.hid hfc
    rintro e w4 ⟨rfl, h4, k4⟩
    simp only [encN]
    have G4 := Lib.hid (G3.out.then h4 k4)
    have RQ4 := Lib.hid (RQ3.out.keep (k4.loc _ HLP.out.2.1))
    have HE4 := Lib.hid (HE3.out.keep k4.below)
    have HA4 := Lib.hid (HA3.out.kept HLP.out.2.2.1 k4)
    have HRY4 := Lib.hid (RdE.kept HRY.out k4 (fun z hz => HLP.out.2.2.2.2 z hz))
    clear h4 k4 hF hF2 HR1 hfc G3 RP3 RQ3 HE3 HA3 HRX HRY HW3 B23
    rcases HFC.out with hz | hz
    · subst hz
      have hft := there_facts HF.out H2.out.1 HF2.out
      have HFT := Lib.hid hft
      rw [show errOf E 0 = .nilIface from rfl]
      obtain ⟨w5, hw5⟩ : ∃ w5, w5 = (w4.alloc (.cells #[.int .i64 fd, .int .i64 fn, .string fname] 127)).alloc (.cells #[.int .i64 q1, .int .i64 q2, .int .i64 q3, .int .i64 q4, .string q5, .int .i64 q6] 59) := ⟨_, rfl⟩
      have b45 : Below w4.heap.size w4 w5 := by rw [hw5]; exact bl_alloc (bl_alloc (Below.refl _ _) _) _
      have z5 : w5.heap.size = w4.heap.size + 2 := by rw [hw5]; simp
      have rf5 : Row w5 w4.heap.size 127 [.int .i64 fd, .int .i64 fn, .string fname] := by rw [hw5]; exact (Row.new w4 _ [.int .i64 fd, .int .i64 fn, .string fname]).alloc _
      have rn5 : Row w5 (w4.heap.size + 1) 59 [.int .i64 q1, .int .i64 q2, .int .i64 q3, .int .i64 q4, .string q5, .int .i64 q6] := by
        have := Row.new (w4.alloc (.cells #[.int .i64 fd, .int .i64 fn, .string fname] 127)) 59 [.int .i64 q1, .int .i64 q2, .int .i64 q3, .int .i64 q4, .string q5, .int .i64 q6]
        rw [hw5]
        simpa using this
      obtain ⟨L2, hL2⟩ : ∃ L2 : Nat → Prop, L2 = fun z => (z = w4.heap.size ∨ z = w4.heap.size + 1) ∨ L1 z := ⟨_, rfl⟩
      have G5 : Hid (Gd B L L2 w b t dm st (fun z => z = w4.heap.size + 1) w5) := Lib.hid (by
        rw [hL2]
        have g := Gd.first (B := B) G4.out.tree b45 (S := fun z => z = w4.heap.size ∨ z = w4.heap.size + 1) (fun z hz => by rcases hz with rfl | rfl <;> omega)
        refine ⟨g.tree, (G4.out.below b45).kept, fun x hx => .inr (G4.out.sub x hx), fun c hc => ⟨.inl (.inr hc), ?_, fun hl => ?_⟩⟩
        · have := G4.out.tree.1
          omega
        · have := G4.out.tree.2.1 _ (G4.out.sub _ hl)
          omega)
      have HLQ : Hid (L2 w4.heap.size ∧ L2 (w4.heap.size + 1) ∧ L2 w2.heap.size ∧ L2 C1 ∧ L2 a ∧ (∀ z, (Value.slice sp2 n2 c2).ownBlock = some z → L2 z)) := Lib.hid (by
        rw [hL2]
        exact ⟨.inl (.inl rfl), .inl (.inr rfl), .inr HLP.out.1, .inr HLP.out.2.1, .inr HLP.out.2.2.1, fun z hz => .inr (HLP.out.2.2.2.2 z hz)⟩)
      have HE5 := Lib.hid (HE4.out.below b45)
      have HA5 := Lib.hid (HA4.out.below b45)
      have RQ5 := Lib.hid (RQ4.out.below b45)
      have HRY5 := Lib.hid (HRY4.out.below b45)
      have RF5 := Lib.hid rf5
      have RN5 := Lib.hid rn5
      have HW5 := Lib.hid hw5
      have Z5 := Lib.hid z5
      clear b45 rf5 rn5 z5 hL2 hw5 hft G4 HE4 HA4 RQ4 HRY4
      go_wp2_with fail
      rw [← HW5.out, HC1.out]
      generalize hC3 : w4.heap.size + 1 = C3 at *
      have HC3 := Lib.hid hC3
      clear hC3
      obtain ⟨Q, hQ⟩ : ∃ Q, lastP st ⟨(parseP y).2.parts, s2⟩ = Q := ⟨_, rfl⟩
      have hQ2 : lastP st (parseP y).2 = Q := by rw [← hQ, H2.out.2.2.2.1]
      have hlc := lastP_code st (parseP y).2
      have hln := lastP_node HF.out (parseP y).2
      have HRN := HRF.out
      rw [if_neg (by simp), hQ2] at HRN
      rw [hQ2] at hlc hln
      have HRF2 := Lib.hid HRN
      have HQ1 := Lib.hid hQ
      have HQ2 := Lib.hid hQ2
      clear hQ hQ2 HRN
      obtain ⟨gc, gd, gn, gname⟩ := Q
      simp only at hlc hln
      have HGC := Lib.hid hlc
      have HGN := Lib.hid hln
      clear hlc hln
      have HW0 := Lib.hid G5.out.tree
      have S : ∀ w', WB B L2 w' b t dm st ∧ KeptP B L2 w5 w' → w'.cell? ⟨a, 0, none⟩ = some (.pointer (some ⟨b, 0, none⟩)) ∧ w'.cell? ⟨C1, 0, none⟩ = some (.slice sp2 n2 c2) ∧ w'.cell? ⟨C1, 1, none⟩ = some (.bool s2) := by
        intro w' hc
        exact ⟨(HA5.out.kept HLQ.out.2.2.2.2.1 hc.2).1, (hc.2.cell HLQ.out.2.2.2.1 0).trans ((RQ5.out.cell 0).trans rfl), (hc.2.cell HLQ.out.2.2.2.1 1).trans ((RQ5.out.cell 1).trans rfl)⟩
      have HT : Hid (∀ w', WB B L2 w' b t dm st ∧ KeptP B L2 w5 w' → Calls Tryz.prog 55 #[.pointer (some ⟨b, 0, none⟩), .agg #[.slice sp2 n2 c2, .bool s2]] w' fun e w'' =>
          e = .returned (.tuple #[.agg #[.int .i64 gd, .int .i64 gn, .string gname], errOf E gc]) ∧ WB B (fun x => L2 x ∨ (x < w'.heap.size ∧ Plain w' x)) w'' b t dm st ∧ KeptP B (fun x => L2 x ∨ (x < w'.heap.size ∧ Plain w' x)) w' w'') := Lib.hid (by
        intro w' hc
        have := wlast_any (WL.wide hc.1) HF.out (RdE.kept HRY5.out hc.2 (fun z hz => HLQ.out.2.2.2.2.2 z hz)) (Nat.le_trans (parse_len y) (by decide)) (parse_small y) s2 (HE5.out.keep hc.2.below)
        unfold LastR at this
        rw [HQ1.out] at this
        exact this)
      apply wp_region_rel _ (by kernel_rfl) (by kernel_rfl) (fun w' => WB B L2 w' b t dm st ∧ KeptP B L2 w5 w') (fun w' w'' => ShT B L2 b t dm st w5.heap.size [.int .i64 gd, .int .i64 gn, .string gname] 127 w' w'') (fun w' w'' h1 h2 => ⟨h2.tree h1.1, h1.2.trans (h2.kept h1.1)⟩) ⟨HW0.out.below (Below.refl _ _).drew, HW0.out.kept (Below.refl _ _).drew⟩
      repeat (first
        | (apply wpRel_fix (by rfl)
           · intro w' hC hf R hR
             have hS := S w' hC
             go_simp
             exact hR _ (ShT.refl _ _ _ _ _ _ _ _ _ _)
           simp only [Act.put, List.setIfInBounds_toArray, List.set_cons_zero, List.set_cons_succ])
        | (apply wpRel_fix (by rfl)
           · intro w' hC hf R hR
             have hS := S w' hC
             go_simp
             refine (HT.out w' hC).mono ?_
             rintro e w'' ⟨rfl, hw9, hk9⟩
             exact ⟨_, rfl, hR _ (ShT.call hw9 hk9)⟩
           simp only [Act.put, List.setIfInBounds_toArray, List.set_cons_zero, List.set_cons_succ]))
      apply wpRel_rel (PtTyT w5.heap.size ([.int .i64 gd, .int .i64 gn, .string gname] : List Value).length 127) (by rfl) ptTyT_keep
      · intro w' hC hf R hR
        go_simp
        exact hR _ _ ⟨_, rfl, hC.2.below.size, TyB.new _ _ _ rfl, ⟨_, (Row.new w' _ _).cell 0, by first | exact plainI _ _ | exact plainS _ | exact plainSl _ _ _⟩⟩ (ShT.of_below (bl_alloc (Below.refl _ _) _))
      intro vptr
      simp only [Act.put, List.setIfInBounds_toArray, List.set_cons_zero, List.set_cons_succ]
      apply wpRel_dep 13 (PtRowT w5.heap.size [.int .i64 gd, .int .i64 gn, .string gname] 127) (by rfl) (by rfl) ptRowT_keep
      · intro w' hC hf R hR
        obtain ⟨c, rfl, hc, hk, hpl⟩ := hf _ (List.mem_cons_self ..) (by kernel_rfl)
        obtain ⟨u0, e0⟩ := hk.cell (i := 0) (Nat.lt_of_lt_of_eq (by decide : 0 < 3) rfl)
        have f0 := hk.froz 0
        obtain ⟨u1, e1⟩ := hk.cell (i := 1) (Nat.lt_of_lt_of_eq (by decide : 1 < 3) rfl)
        have f1 := hk.froz 1
        obtain ⟨u2, e2⟩ := hk.cell (i := 2) (Nat.lt_of_lt_of_eq (by decide : 2 < 3) rfl)
        have f2 := hk.froz 2
        have hN := Lib.hid hk
        have hM := Lib.hid hpl
        clear hk hpl
        go_simp
        exact hR _ _ (ptRowT_mk ⟨_, _, rfl, (by first | exact plainI _ _ | exact plainS _ | exact plainSl _ _ _)⟩ hN.out hc) (ShT.setAll ⟨_, _, rfl, (by first | exact plainI _ _ | exact plainS _ | exact plainSl _ _ _)⟩ hN.out hM.out (Nat.le_trans HW0.out.1 hc) (fun hl => absurd (HW0.out.2.1 _ hl) (by omega)))
      intro vst
      simp only [Act.put, List.setIfInBounds_toArray, List.set_cons_zero, List.set_cons_succ]
      repeat (first
        | (apply wpRel_fix (by rfl)
           · intro w' hC hf R hR
             have hS := S w' hC
             go_simp
             exact hR _ (ShT.refl _ _ _ _ _ _ _ _ _ _)
           simp only [Act.put, List.setIfInBounds_toArray, List.set_cons_zero, List.set_cons_succ]))
      refine wpRel_nil (fun w6 hC hf => ?_)
      obtain ⟨cg, rfl, hc0, hcp, rwg⟩ : PtRowT w5.heap.size [.int .i64 gd, .int .i64 gn, .string gname] 127 vptr w6 := hf _ (List.mem_cons_self ..)
      have g6 := G5.out.then hC.1 hC.2
      have hcgn : ¬ cg = C3 := by
        have h1 := RN5.out.lt
        omega
      have hcgf : ¬ cg = w4.heap.size := by
        have h1 := RF5.out.lt
        omega
      obtain ⟨L3, hL3⟩ : ∃ L3 : Nat → Prop, L3 = fun z => z = cg ∨ L2 z := ⟨_, rfl⟩
      have G6 : Hid (Gd B L L3 w b t dm st (fun z => z = C3) w6) := Lib.hid (by
        rw [hL3]
        refine ⟨g6.tree.more (fun z hz => ?_), g6.kept, fun z hz => .inr (g6.sub z hz), fun c hc => ⟨.inr (g6.own c hc).1, (g6.own c hc).2⟩⟩
        rcases hz with rfl | hz
        · exact ⟨plain_lt hcp, .inr hcp⟩
        · exact ⟨g6.tree.2.1 z hz, .inl hz⟩)
      have HL3 : Hid (L3 w4.heap.size ∧ L3 C3 ∧ L3 a ∧ L3 C1 ∧ L3 cg ∧ True) := Lib.hid (by
        rw [hL3]
        exact ⟨.inr HLQ.out.1, .inr HLQ.out.2.1, .inr HLQ.out.2.2.2.2.1, .inr HLQ.out.2.2.2.1, .inl rfl, trivial⟩)
      have HCN := Lib.hid hcgn
      have RQ6 := Lib.hid (RQ5.out.keep (hC.2.loc _ HLQ.out.2.2.2.1))
      have RF6 := Lib.hid (RF5.out.keep (hC.2.loc _ HLQ.out.1))
      have RN6 := Lib.hid (RN5.out.keep (hC.2.loc _ HLQ.out.2.1))
      have RG6 := Lib.hid rwg
      have HE6 := Lib.hid (HE5.out.keep hC.2.below)
      have HA6 := Lib.hid (HA5.out.kept HLQ.out.2.2.2.2.1 hC.2)
      have HCG := Lib.hid hc0
      have ZZ5 := Lib.hid RN5.out.lt
      clear S hf hC HT rwg hcp hc0 hL3 g6 hcgn HW0 G5 RQ5 RF5 RN5 HE5 HA5 HRY5 HW5
      rcases HGC.out with hz | hz
      · subst hz
        rw [show errOf E 0 = .nilIface from rfl]
        have hx0 : w6.cell? ⟨w4.heap.size, 0, none⟩ = some (.int .i64 fd) := (RF6.out.cell 0).trans rfl
        have hx1 : w6.cell? ⟨w4.heap.size, 1, none⟩ = some (.int .i64 fn) := (RF6.out.cell 1).trans rfl
        have hv0 : w6.cell? ⟨C3, 0, none⟩ = some (.int .i64 q1) := (RN6.out.cell 0).trans rfl
        have hv1 : w6.cell? ⟨C3, 1, none⟩ = some (.int .i64 q2) := (RN6.out.cell 1).trans rfl
        have hy0 : w6.cell? ⟨cg, 0, none⟩ = some (.int .i64 gd) := (RG6.out.cell 0).trans rfl
        have hy1 : w6.cell? ⟨cg, 1, none⟩ = some (.int .i64 gn) := (RG6.out.cell 1).trans rfl
        have hxl := RF6.out.lt
        have hvl := RN6.out.lt
        have hyl := RG6.out.lt
        have hgp := ren_place HF.out H2.out.2.1 HQ2.out
        have HGP := Lib.hid hgp
        clear hgp
        by_cases heq : fn = gn
        · have HQ : Hid (R = (0, 0, st)) := Lib.hid (by rw [← HRF2.out, if_neg (by simp)]; exact if_pos heq)
          subst heq
          go_wp2
          rw [← HP.out]
          unfold UnlR
          rw [HQ.out]
          exact ⟨by first | done | rfl, G6.out.out.1, G6.out.out.2⟩
        · have heqb : (fn == gn) = false := by rw [beq_eq_false_iff_ne]; exact heq
          have HEQ := Lib.hid heq
          have HRN := HRF2.out
          rw [if_neg (by simp), if_neg heq] at HRN
          have HRF3 := Lib.hid HRN
          clear HRN heq
          by_cases hk2 : q2 = 2
          · have HK2 := Lib.hid hk2
            subst hk2
            have hqb : 1 ≤ q1 ∧ q1 ≤ 16777215 := by
              obtain ⟨h1, h2, h3⟩ := HFT.out.2.2.2.2.2.2.2.2
              have h1' : q1 = fn := h1
              omega
            go_wp2_with fail
            refine (twithin_any HA6.out HL3.out.2.2.1 G6.out.tree HF.out (k := gd) (c := q1) (by have := HGP.out.1; have := HGP.out.2.1; omega) (by omega)).mono ?_
            obtain ⟨wi, hwi⟩ : ∃ wi, st.within gd q1 = wi := ⟨_, rfl⟩
            rw [hwi]
            have HWI := Lib.hid hwi
            rintro e w7 ⟨rfl, h7, k7⟩
            have G7 := Lib.hid (G6.out.then h7 k7)
            have RQ7 := Lib.hid (RQ6.out.keep (k7.loc _ HL3.out.2.2.2.1))
            have RF7 := Lib.hid (RF6.out.keep (k7.loc _ HL3.out.1))
            have RN7 := Lib.hid (RN6.out.keep (k7.loc _ HL3.out.2.1))
            have HE7 := Lib.hid (HE6.out.keep k7.below)
            have HA7 := Lib.hid (HA6.out.kept HL3.out.2.2.1 k7)
            have RG7 := Lib.hid (RG6.out.keep (k7.loc _ HL3.out.2.2.2.2.1))
            cases wi with
            | true =>
              have HQ : Hid (R = (114, 0, st)) := Lib.hid (by rw [← HRF3.out]; exact if_pos ⟨by first | exact trivial | rfl, HWI.out⟩)
              have c1' : errOf E 114 = errV E 3 := errOf_code (g := 3) (by decide)
              have CE := Lib.hid c1'
              have e1 := HE7.out.cell 3 (by decide)
              have l1 : 3 < w7.heap.size := Nat.lt_of_lt_of_le (HE7.out.glt _ (by decide)) HE7.out.size
              clear c1'
              go_wp2_with fail
              go_region
              go_wp2
              rw [← HP.out]
              unfold UnlR
              rw [HQ.out]
              refine ⟨?_, (by repeat (first | with_reducible exact G7.out | with_reducible refine Gd.drew ?_) : Gd B L L3 w b t dm st (fun z => z = C3) _).out⟩
              exact by first | (rw [← CE.out]; done) | (rw [← CE.out]; rfl)

            | false =>
              have HRN := HRF3.out
              rw [if_neg (fun h => by have h2 : st.within gd q1 = true := h.2; rw [HWI.out] at h2; cases h2)] at HRN
              have HRF4 := Lib.hid HRN
              clear HRN h7 k7 hx0 hx1 hv0 hv1 hy0 hy1 hxl hvl hyl G6 RQ6 RF6 RN6 RG6 HE6 HA6
              obtain ⟨q, hq⟩ : ∃ q, (st.nd gn).getD noNd = q := ⟨_, rfl⟩
              obtain ⟨is, his⟩ : ∃ is, (st.nd gn).isSome = is := ⟨_, rfl⟩
              have HNQ := Lib.hid hq
              have HNI := Lib.hid his
              clear hq his
              obtain ⟨m1, m2, m3, m4, m5, m6⟩ := q
              have hbw := G7.out.tree.c0
              have hbl := G7.out.tree.lt.1
              have S : ∀ w', ShH w7.heap.size (ndC ⟨m1, m2, m3, m4, m5, m6⟩) 59 w7 w' → w'.cell? ⟨a, 0, none⟩ = some (.pointer (some ⟨b, 0, none⟩)) ∧ w'.cell? ⟨b, 0, none⟩ = some (.pointer (some ⟨t, 0, none⟩)) ∧ w'.cell? ⟨cg, 1, none⟩ = some (.int .i64 gn) :=
                fun w' hs => ⟨(hs.bel.cell (p := ⟨a, 0, none⟩) HA7.out.2).trans HA7.out.1, (hs.bel.cell (p := ⟨b, 0, none⟩) hbl).trans hbw, (hs.bel.cell (p := ⟨cg, 1, none⟩) RG7.out.lt).trans ((RG7.out.cell 1).trans rfl)⟩
              have HG : Hid (∀ w', ShH w7.heap.size (ndC ⟨m1, m2, m3, m4, m5, m6⟩) 59 w7 w' → Calls Tryz.prog 54 #[.pointer (some ⟨t, 0, none⟩), .int .i64 gn] w' fun e w'' => e = .returned (.tuple #[.agg #[.int .i64 m1, .int .i64 m2, .int .i64 m3, .int .i64 m4, .string m5, .int .i64 m6], .bool is]) ∧ Below w'.heap.size w' w'') := Lib.hid fun w' hs => by
                have := wl_get (G7.out.tree.below hs.bel) (k := gn) (by have := HGN.out; omega)
                rw [HNQ.out, HNI.out] at this
                exact this
              clear hbw hbl
              go_wp2_with fail
              apply wp_region_rel _ (by kernel_rfl) (by kernel_rfl) (fun w' => ShH w7.heap.size (ndC ⟨m1, m2, m3, m4, m5, m6⟩) 59 w7 w') (fun w' w'' => ShH w7.heap.size (ndC ⟨m1, m2, m3, m4, m5, m6⟩) 59 w' w'') (fun w' w'' h1 h2 => h1.trans h2) (ShH.refl _ _ _ _).drew
              repeat (first
                | (apply wpRel_fix (by rfl)
                   · intro w' hC hf R hR
                     have hS := S w' hC
                     go_simp
                     exact hR _ (ShH.refl _ _ _ _)
                   simp only [Act.put, List.setIfInBounds_toArray, List.set_cons_zero, List.set_cons_succ])
                | (apply wpRel_fix (by rfl)
                   · intro w' hC hf R hR
                     have hS := S w' hC
                     go_simp
                     refine (HG.out w' hC).mono ?_
                     rintro e w'' ⟨rfl, hb⟩
                     exact ⟨_, rfl, hR _ (ShH.of_below hb (Nat.le_trans hC.bel.size (Nat.le_refl _)))⟩
                   simp only [Act.put, List.setIfInBounds_toArray, List.set_cons_zero, List.set_cons_succ]))
              apply wpRel_rel (PtTy w7.heap.size ((ndC ⟨m1, m2, m3, m4, m5, m6⟩) : List Value).length 59) (by rfl) ptTy_keep
              · intro w' hC hf R hR
                go_simp
                exact hR _ _ ⟨_, rfl, hC.bel.size, TyB.new _ _ _ rfl⟩ (ShH.of_below (bl_alloc (Below.refl _ _) _) hC.bel.size)
              intro vptr
              simp only [Act.put, List.setIfInBounds_toArray, List.set_cons_zero, List.set_cons_succ]
              apply wpRel_dep 14 (PtRow w7.heap.size (ndC ⟨m1, m2, m3, m4, m5, m6⟩) 59) (by rfl) (by rfl) ptRow_keep
              · intro w' hC hf R hR
                obtain ⟨c, rfl, hc, hk⟩ := hf _ (List.mem_cons_self ..) (by kernel_rfl)
                obtain ⟨u0, e0⟩ := hk.cell (i := 0) (Nat.lt_of_lt_of_eq (by decide : 0 < 6) rfl)
                have f0 := hk.froz 0
                obtain ⟨u1, e1⟩ := hk.cell (i := 1) (Nat.lt_of_lt_of_eq (by decide : 1 < 6) rfl)
                have f1 := hk.froz 1
                obtain ⟨u2, e2⟩ := hk.cell (i := 2) (Nat.lt_of_lt_of_eq (by decide : 2 < 6) rfl)
                have f2 := hk.froz 2
                obtain ⟨u3, e3⟩ := hk.cell (i := 3) (Nat.lt_of_lt_of_eq (by decide : 3 < 6) rfl)
                have f3 := hk.froz 3
                obtain ⟨u4, e4⟩ := hk.cell (i := 4) (Nat.lt_of_lt_of_eq (by decide : 4 < 6) rfl)
                have f4 := hk.froz 4
                obtain ⟨u5, e5⟩ := hk.cell (i := 5) (Nat.lt_of_lt_of_eq (by decide : 5 < 6) rfl)
                have f5 := hk.froz 5
                have hN := Lib.hid hk
                clear hk
                go_simp
                exact hR _ _ (ptRow_mk hN.out hc) (ShH.setAll hN.out hc)
              intro vst
              simp only [Act.put, List.setIfInBounds_toArray, List.set_cons_zero, List.set_cons_succ]
              repeat (first
                | (apply wpRel_fix (by rfl)
                   · intro w' hC hf R hR
                     have hS := S w' hC
                     go_simp
                     exact hR _ (ShH.refl _ _ _ _)
                   simp only [Act.put, List.setIfInBounds_toArray, List.set_cons_zero, List.set_cons_succ]))
              refine wpRel_nil (fun w8 hC hf => ?_)
              obtain ⟨cm, rfl, hcm, rwm⟩ : PtRow w7.heap.size (ndC ⟨m1, m2, m3, m4, m5, m6⟩) 59 vptr w8 := hf _ (List.mem_cons_self ..)
              obtain ⟨L4, hL4⟩ : ∃ L4 : Nat → Prop, L4 = fun z => z = cm ∨ L3 z := ⟨_, rfl⟩
              have G8 : Hid (Gd B L L4 w b t dm st (fun z => z = C3) w8) := Lib.hid (by
                rw [hL4]
                have g := Gd.first (B := B) G7.out.tree hC.bel (S := fun z => z = cm) (fun z hz => by subst hz; exact ⟨hcm, rwm.lt⟩)
                exact ⟨g.tree, (G7.out.below hC.bel).kept, fun z hz => .inr (G7.out.sub z hz), fun c hc => ⟨.inr (G7.out.own c hc).1, (G7.out.own c hc).2⟩⟩)
              have HL4 : Hid (L4 w4.heap.size ∧ L4 C3 ∧ L4 a ∧ L4 C1 ∧ L4 cg ∧ L4 cm) := Lib.hid (by
                rw [hL4]
                exact ⟨.inr HL3.out.1, .inr HL3.out.2.1, .inr HL3.out.2.2.1, .inr HL3.out.2.2.2.1, .inr HL3.out.2.2.2.2.1, .inl rfl⟩)
              clear hL4
              have HE8 := Lib.hid (HE7.out.below hC.bel)
              have HA8 := Lib.hid (HA7.out.below hC.bel)
              have RQ8 := Lib.hid (RQ7.out.below hC.bel)
              have RF8 := Lib.hid (RF7.out.below hC.bel)
              have RN8 := Lib.hid (RN7.out.below hC.bel)
              have RG8 := Lib.hid (RG7.out.below hC.bel)
              have RM8 := Lib.hid rwm
              have aq1 : w8.cell? ⟨C1, 1, none⟩ = some (.bool s2) := (RQ8.out.cell 1).trans rfl
              have aql := RQ8.out.lt
              have an0 : w8.cell? ⟨C3, 0, none⟩ = some (.int .i64 q1) := (RN8.out.cell 0).trans rfl
              have an1 : w8.cell? ⟨C3, 1, none⟩ = some (.int .i64 2) := (RN8.out.cell 1).trans rfl
              have an2 : w8.cell? ⟨C3, 2, none⟩ = some (.int .i64 q3) := (RN8.out.cell 2).trans rfl
              have an3 : w8.cell? ⟨C3, 3, none⟩ = some (.int .i64 q4) := (RN8.out.cell 3).trans rfl
              have an4 : w8.cell? ⟨C3, 4, none⟩ = some (.string q5) := (RN8.out.cell 4).trans rfl
              have an5 : w8.cell? ⟨C3, 5, none⟩ = some (.int .i64 q6) := (RN8.out.cell 5).trans rfl
              have anl := RN8.out.lt
              have am0 : w8.cell? ⟨cm, 0, none⟩ = some (.int .i64 m1) := (RM8.out.cell 0).trans rfl
              have am1 : w8.cell? ⟨cm, 1, none⟩ = some (.int .i64 m2) := (RM8.out.cell 1).trans rfl
              have am2 : w8.cell? ⟨cm, 2, none⟩ = some (.int .i64 m3) := (RM8.out.cell 2).trans rfl
              have am3 : w8.cell? ⟨cm, 3, none⟩ = some (.int .i64 m4) := (RM8.out.cell 3).trans rfl
              have am4 : w8.cell? ⟨cm, 4, none⟩ = some (.string m5) := (RM8.out.cell 4).trans rfl
              have am5 : w8.cell? ⟨cm, 5, none⟩ = some (.int .i64 m6) := (RM8.out.cell 5).trans rfl
              have aml := RM8.out.lt
              clear S hf hC HG rwm
              cases is with
              | false =>
                have hgn : st.get gn = none := nd_none (by have := HNI.out; simpa using this)
                have hou : ousted st ⟨gd, gn, gname⟩ = st := by unfold ousted; rw [hgn]
                have hrc : renC st ⟨gd, gn, gname⟩ (parseP y).2.slash ⟨q1, 2, q3, q4, q5, q6⟩ = if s2 && 2 != 2 then 111 else 0 := by unfold renC; rw [hgn, ← H2.out.2.2.2.1]; first | done | rfl
                cases s2 with
                | false =>
                  have hrc : renC st ⟨gd, gn, gname⟩ (parseP y).2.slash ⟨q1, 2, q3, q4, q5, q6⟩ = 0 := by rw [hrc]; simp
                  have HTAIL := Lib.hid (ren_tail HF.out H2.out.1 H2.out.2.1 HF2.out HQ2.out HEQ.out hrc)
                  rw [hou] at HTAIL
                  have HQ : Hid (R = (0, gn, moveS st fd fname gd gname ⟨q1, 2, q3, q4, q5, q6⟩)) := Lib.hid (by
                    rw [← HRF4.out]
                    have := (if_neg (not_not_intro hrc) : (if renC st ⟨gd, gn, gname⟩ (parseP y).2.slash ⟨q1, 2, q3, q4, q5, q6⟩ ≠ 0 then (renC st ⟨gd, gn, gname⟩ (parseP y).2.slash ⟨q1, 2, q3, q4, q5, q6⟩, (0 : Int), st) else (0, gn, moveS (ousted st ⟨gd, gn, gname⟩) fd fname gd gname ⟨q1, 2, q3, q4, q5, q6⟩)) = _)
                    exact this.trans (by rw [hou]))
                  have yy0 : w8.cell? ⟨w4.heap.size, 0, none⟩ = some (.int .i64 fd) := (RF8.out.cell 0).trans rfl
                  have yy2 : w8.cell? ⟨w4.heap.size, 2, none⟩ = some (.string fname) := (RF8.out.cell 2).trans rfl
                  have yyl := RF8.out.lt
                  go_wp2_with fail
                  refine (tdrop_ok HA8.out G8.out.tree (k := fd) (by have := HFT.out.1; have := HFT.out.2.1; omega) HTAIL.out.1 HFT.out.2.2.2.2.1 HTAIL.out.2.1).mono ?_
                  rintro v w20 ⟨rfl, h8, k8⟩
                  have G20 := Lib.hid (G8.out.then h8 k8)
                  have HE20 := Lib.hid (HE8.out.keep k8.below)
                  have HA20 := Lib.hid (HA8.out.kept HL4.out.2.2.1 k8)
                  have RF20 := Lib.hid (RF8.out.keep (k8.loc _ HL4.out.1))
                  have RN20 := Lib.hid (RN8.out.keep (k8.loc _ HL4.out.2.1))
                  have RG20 := Lib.hid (RG8.out.keep (k8.loc _ HL4.out.2.2.2.2.1))
                  have vv1 : w20.cell? ⟨C3, 1, none⟩ = some (.int .i64 2) := (RN20.out.cell 1).trans rfl
                  have vvl := RN20.out.lt
                  clear h8 k8 yy0 yy2 yyl
                  have vv0 : w20.cell? ⟨C3, 0, none⟩ = some (.int .i64 q1) := (RN20.out.cell 0).trans rfl
                  have vv2 : w20.cell? ⟨C3, 2, none⟩ = some (.int .i64 q3) := (RN20.out.cell 2).trans rfl
                  have vv3 : w20.cell? ⟨C3, 3, none⟩ = some (.int .i64 q4) := (RN20.out.cell 3).trans rfl
                  have vv4 : w20.cell? ⟨C3, 4, none⟩ = some (.string q5) := (RN20.out.cell 4).trans rfl
                  have vv5 : w20.cell? ⟨C3, 5, none⟩ = some (.int .i64 q6) := (RN20.out.cell 5).trans rfl
                  have vvf : ∀ i, w20.frozen? ⟨C3, i, none⟩ = false := fun i => RN20.out.froz i
                  have ww0 : w20.cell? ⟨cg, 0, none⟩ = some (.int .i64 gd) := (RG20.out.cell 0).trans rfl
                  have wwl := RG20.out.lt
                  go_wp2_with fail
                  obtain ⟨ws, hws⟩ : ∃ ws, ws = w20.setCell ⟨C3, 5, none⟩ (.int .i64 gd) := ⟨_, rfl⟩
                  have gs := Lib.hid (show Gd B L L4 w b t dm _ (fun z => z = C3) ws by rw [hws]; exact G20.out.set (c := C3) (i := 5) (by exact rfl) _)
                  have hcc : ¬ C3 = cg := by
                    have h1 := ZZ5.out
                    have h2 := HCG.out
                    omega
                  have hcd : ¬ C3 = w4.heap.size := by
                    have h1 := HC3.out
                    omega
                  have rs := Lib.hid (show Row ws C3 59 [.int .i64 q1, .int .i64 2, .int .i64 q3, .int .i64 q4, .string q5, .int .i64 gd] by rw [hws]; exact RN20.out.set 5 (.int .i64 gd))
                  have rg := Lib.hid (show Row ws cg 127 [.int .i64 gd, .int .i64 gn, .string gname] by rw [hws]; exact RG20.out.keep (Below.heap_setCell _ _ _ _ (fun h => hcc h.symm)))
                  have es := Lib.hid (show EnvM E B ws by rw [hws]; exact HE20.out.keep (Below.setCell (Below.refl _ _) (G20.out.own _ rfl).2.1 _))
                  have as' := Lib.hid (show TA ws a b by
                    rw [hws]
                    refine HA20.out.set (fun hh => ?_) _
                    exact (G20.out.own C3 rfl).2.2 (by rw [← (show a = C3 from hh)]; exact HLA.out))
                  rw [← hws]
                  clear hws vv0 vv1 vv2 vv3 vv4 vv5 vvf ww0 wwl vvl
                  refine (tput_ok as'.out HL4.out.2.2.1 gs.out.tree HTAIL.out.2.2.1 (setPar ⟨q1, 2, q3, q4, q5, q6⟩ gd) (HTAIL.out.2.2.2.2.1 (by first | exact trivial | exact rfl)) (fun hh => by
                    obtain ⟨z, hz⟩ := HTAIL.out.2.2.2.1
                    have h1 : St.get _ q1 = none := hh
                    have h2 : St.get _ q1 = some z := hz
                    rw [h2] at h1
                    cases h1) es.out.toEnv).mono ?_
                  rintro e w21 ⟨rfl, h8, k8⟩
                  have G21 := Lib.hid (gs.out.then h8 k8)
                  have HE21 := Lib.hid (es.out.keep k8.below)
                  have HA21 := Lib.hid (as'.out.kept HL4.out.2.2.1 k8)
                  have RN21 := Lib.hid (rs.out.keep (k8.loc _ HL4.out.2.1))
                  have RG21 := Lib.hid (rg.out.keep (k8.loc _ HL4.out.2.2.2.2.1))
                  clear h8 k8 gs rs rg es as' hcc hcd
                  have hadd := HTAIL.out.2.2.2.2.2
                  rw [if_pos (by first | exact trivial | exact rfl)] at hadd
                  have HADD := Lib.hid hadd
                  clear hadd
                  go_wp2_with fail
                  have S : ∀ w', KeptP B L4 w21 w' → w'.cell? ⟨cg, 0, none⟩ = some (.int .i64 gd) ∧ w'.cell? ⟨cg, 1, none⟩ = some (.int .i64 gn) ∧ w'.cell? ⟨cg, 2, none⟩ = some (.string gname) ∧ w'.cell? ⟨C3, 0, none⟩ = some (.int .i64 q1) ∧ w'.cell? ⟨C3, 1, none⟩ = some (.int .i64 2) := by
                    intro w' hb
                    have r1 := RG21.out.keep (hb.loc _ HL4.out.2.2.2.2.1)
                    have r2 := RN21.out.keep (hb.loc _ HL4.out.2.1)
                    exact ⟨(r1.cell 0).trans rfl, (r1.cell 1).trans rfl, (r1.cell 2).trans rfl, (r2.cell 0).trans rfl, (r2.cell 1).trans rfl⟩
                  apply wp_region_once 12 _ (by kernel_rfl) (by kernel_rfl) (by decide) (fun d w' => KeptP B L4 w21 w' ∧ WB B L4 w' b t dm (if d then ((st.delE fd fname).put (setPar ⟨q1, 2, q3, q4, q5, q6⟩ gd)).addE gd ⟨gname, q1, 2⟩ else ((st.delE fd fname).put (setPar ⟨q1, 2, q3, q4, q5, q6⟩ gd)))) ⟨G21.out.tree.kept (Below.refl _ _).drew, G21.out.tree.below (Below.refl _ _).drew⟩
                  repeat (first
                    | (apply once_skip (by rfl) (by decide)
                       simp only [Act.put, List.setIfInBounds_toArray, List.set_cons_zero, List.set_cons_succ])
                    | (apply once_fix (by rfl) (by rfl)
                       · intro d w' hc R hR
                         have hS := S w' hc.1
                         go_simp
                         exact hR
                       simp only [Act.put, List.setIfInBounds_toArray, List.set_cons_zero, List.set_cons_succ])
                    | (apply once_call (by rfl) (by rfl)
                       · intro w' hc
                         go_simp
                         refine (tadd_ok (HA21.out.kept HL4.out.2.2.1 hc.1) HL4.out.2.2.1 (show WB B L4 w' b t dm ((st.delE fd fname).put (setPar ⟨q1, 2, q3, q4, q5, q6⟩ gd)) from hc.2) (by have := HGP.out.1; have := HGP.out.2.1; omega) HADD.out.1 ⟨gname, q1, 2⟩ HADD.out.2 (HE21.out.keep hc.1.below).toEnv).mono ?_
                         rintro e w'' ⟨rfl, h11, k11⟩
                         exact ⟨_, rfl, rfl, hc.1.trans k11, h11⟩
                       simp only [Act.put, List.setIfInBounds_toArray, List.set_cons_zero, List.set_cons_succ]))
                  refine once_nil (fun w22 hc => ?_)
                  have G22 := Lib.hid (G21.out.then (show WB B L4 w22 b t dm (((st.delE fd fname).put (setPar ⟨q1, 2, q3, q4, q5, q6⟩ gd)).addE gd ⟨gname, q1, 2⟩) from hc.2) hc.1)
                  clear S hc
                  go_wp2
                  rw [← HP.out]
                  unfold UnlR
                  rw [HQ.out]
                  refine ⟨by first | done | rfl, ?_, G22.out.out.2⟩
                  unfold moveS
                  simp only
                  rw [if_pos (by first | exact trivial | exact rfl)]
                  exact G22.out.out.1

                | true =>
                  have hrc : renC st ⟨gd, gn, gname⟩ (parseP y).2.slash ⟨q1, 2, q3, q4, q5, q6⟩ = 0 := by rw [hrc]; simp
                  have HTAIL := Lib.hid (ren_tail HF.out H2.out.1 H2.out.2.1 HF2.out HQ2.out HEQ.out hrc)
                  rw [hou] at HTAIL
                  have HQ : Hid (R = (0, gn, moveS st fd fname gd gname ⟨q1, 2, q3, q4, q5, q6⟩)) := Lib.hid (by
                    rw [← HRF4.out]
                    have := (if_neg (not_not_intro hrc) : (if renC st ⟨gd, gn, gname⟩ (parseP y).2.slash ⟨q1, 2, q3, q4, q5, q6⟩ ≠ 0 then (renC st ⟨gd, gn, gname⟩ (parseP y).2.slash ⟨q1, 2, q3, q4, q5, q6⟩, (0 : Int), st) else (0, gn, moveS (ousted st ⟨gd, gn, gname⟩) fd fname gd gname ⟨q1, 2, q3, q4, q5, q6⟩)) = _)
                    exact this.trans (by rw [hou]))
                  have yy0 : w8.cell? ⟨w4.heap.size, 0, none⟩ = some (.int .i64 fd) := (RF8.out.cell 0).trans rfl
                  have yy2 : w8.cell? ⟨w4.heap.size, 2, none⟩ = some (.string fname) := (RF8.out.cell 2).trans rfl
                  have yyl := RF8.out.lt
                  go_wp2_with fail
                  refine (tdrop_ok HA8.out G8.out.tree (k := fd) (by have := HFT.out.1; have := HFT.out.2.1; omega) HTAIL.out.1 HFT.out.2.2.2.2.1 HTAIL.out.2.1).mono ?_
                  rintro v w20 ⟨rfl, h8, k8⟩
                  have G20 := Lib.hid (G8.out.then h8 k8)
                  have HE20 := Lib.hid (HE8.out.keep k8.below)
                  have HA20 := Lib.hid (HA8.out.kept HL4.out.2.2.1 k8)
                  have RF20 := Lib.hid (RF8.out.keep (k8.loc _ HL4.out.1))
                  have RN20 := Lib.hid (RN8.out.keep (k8.loc _ HL4.out.2.1))
                  have RG20 := Lib.hid (RG8.out.keep (k8.loc _ HL4.out.2.2.2.2.1))
                  have vv1 : w20.cell? ⟨C3, 1, none⟩ = some (.int .i64 2) := (RN20.out.cell 1).trans rfl
                  have vvl := RN20.out.lt
                  clear h8 k8 yy0 yy2 yyl
                  have vv0 : w20.cell? ⟨C3, 0, none⟩ = some (.int .i64 q1) := (RN20.out.cell 0).trans rfl
                  have vv2 : w20.cell? ⟨C3, 2, none⟩ = some (.int .i64 q3) := (RN20.out.cell 2).trans rfl
                  have vv3 : w20.cell? ⟨C3, 3, none⟩ = some (.int .i64 q4) := (RN20.out.cell 3).trans rfl
                  have vv4 : w20.cell? ⟨C3, 4, none⟩ = some (.string q5) := (RN20.out.cell 4).trans rfl
                  have vv5 : w20.cell? ⟨C3, 5, none⟩ = some (.int .i64 q6) := (RN20.out.cell 5).trans rfl
                  have vvf : ∀ i, w20.frozen? ⟨C3, i, none⟩ = false := fun i => RN20.out.froz i
                  have ww0 : w20.cell? ⟨cg, 0, none⟩ = some (.int .i64 gd) := (RG20.out.cell 0).trans rfl
                  have wwl := RG20.out.lt
                  go_wp2_with fail
                  obtain ⟨ws, hws⟩ : ∃ ws, ws = w20.setCell ⟨C3, 5, none⟩ (.int .i64 gd) := ⟨_, rfl⟩
                  have gs := Lib.hid (show Gd B L L4 w b t dm _ (fun z => z = C3) ws by rw [hws]; exact G20.out.set (c := C3) (i := 5) (by exact rfl) _)
                  have hcc : ¬ C3 = cg := by
                    have h1 := ZZ5.out
                    have h2 := HCG.out
                    omega
                  have hcd : ¬ C3 = w4.heap.size := by
                    have h1 := HC3.out
                    omega
                  have rs := Lib.hid (show Row ws C3 59 [.int .i64 q1, .int .i64 2, .int .i64 q3, .int .i64 q4, .string q5, .int .i64 gd] by rw [hws]; exact RN20.out.set 5 (.int .i64 gd))
                  have rg := Lib.hid (show Row ws cg 127 [.int .i64 gd, .int .i64 gn, .string gname] by rw [hws]; exact RG20.out.keep (Below.heap_setCell _ _ _ _ (fun h => hcc h.symm)))
                  have es := Lib.hid (show EnvM E B ws by rw [hws]; exact HE20.out.keep (Below.setCell (Below.refl _ _) (G20.out.own _ rfl).2.1 _))
                  have as' := Lib.hid (show TA ws a b by
                    rw [hws]
                    refine HA20.out.set (fun hh => ?_) _
                    exact (G20.out.own C3 rfl).2.2 (by rw [← (show a = C3 from hh)]; exact HLA.out))
                  rw [← hws]
                  clear hws vv0 vv1 vv2 vv3 vv4 vv5 vvf ww0 wwl vvl
                  refine (tput_ok as'.out HL4.out.2.2.1 gs.out.tree HTAIL.out.2.2.1 (setPar ⟨q1, 2, q3, q4, q5, q6⟩ gd) (HTAIL.out.2.2.2.2.1 (by first | exact trivial | exact rfl)) (fun hh => by
                    obtain ⟨z, hz⟩ := HTAIL.out.2.2.2.1
                    have h1 : St.get _ q1 = none := hh
                    have h2 : St.get _ q1 = some z := hz
                    rw [h2] at h1
                    cases h1) es.out.toEnv).mono ?_
                  rintro e w21 ⟨rfl, h8, k8⟩
                  have G21 := Lib.hid (gs.out.then h8 k8)
                  have HE21 := Lib.hid (es.out.keep k8.below)
                  have HA21 := Lib.hid (as'.out.kept HL4.out.2.2.1 k8)
                  have RN21 := Lib.hid (rs.out.keep (k8.loc _ HL4.out.2.1))
                  have RG21 := Lib.hid (rg.out.keep (k8.loc _ HL4.out.2.2.2.2.1))
                  clear h8 k8 gs rs rg es as' hcc hcd
                  have hadd := HTAIL.out.2.2.2.2.2
                  rw [if_pos (by first | exact trivial | exact rfl)] at hadd
                  have HADD := Lib.hid hadd
                  clear hadd
                  go_wp2_with fail
                  have S : ∀ w', KeptP B L4 w21 w' → w'.cell? ⟨cg, 0, none⟩ = some (.int .i64 gd) ∧ w'.cell? ⟨cg, 1, none⟩ = some (.int .i64 gn) ∧ w'.cell? ⟨cg, 2, none⟩ = some (.string gname) ∧ w'.cell? ⟨C3, 0, none⟩ = some (.int .i64 q1) ∧ w'.cell? ⟨C3, 1, none⟩ = some (.int .i64 2) := by
                    intro w' hb
                    have r1 := RG21.out.keep (hb.loc _ HL4.out.2.2.2.2.1)
                    have r2 := RN21.out.keep (hb.loc _ HL4.out.2.1)
                    exact ⟨(r1.cell 0).trans rfl, (r1.cell 1).trans rfl, (r1.cell 2).trans rfl, (r2.cell 0).trans rfl, (r2.cell 1).trans rfl⟩
                  apply wp_region_once 12 _ (by kernel_rfl) (by kernel_rfl) (by decide) (fun d w' => KeptP B L4 w21 w' ∧ WB B L4 w' b t dm (if d then ((st.delE fd fname).put (setPar ⟨q1, 2, q3, q4, q5, q6⟩ gd)).addE gd ⟨gname, q1, 2⟩ else ((st.delE fd fname).put (setPar ⟨q1, 2, q3, q4, q5, q6⟩ gd)))) ⟨G21.out.tree.kept (Below.refl _ _).drew, G21.out.tree.below (Below.refl _ _).drew⟩
                  repeat (first
                    | (apply once_skip (by rfl) (by decide)
                       simp only [Act.put, List.setIfInBounds_toArray, List.set_cons_zero, List.set_cons_succ])
                    | (apply once_fix (by rfl) (by rfl)
                       · intro d w' hc R hR
                         have hS := S w' hc.1
                         go_simp
                         exact hR
                       simp only [Act.put, List.setIfInBounds_toArray, List.set_cons_zero, List.set_cons_succ])
                    | (apply once_call (by rfl) (by rfl)
                       · intro w' hc
                         go_simp
                         refine (tadd_ok (HA21.out.kept HL4.out.2.2.1 hc.1) HL4.out.2.2.1 (show WB B L4 w' b t dm ((st.delE fd fname).put (setPar ⟨q1, 2, q3, q4, q5, q6⟩ gd)) from hc.2) (by have := HGP.out.1; have := HGP.out.2.1; omega) HADD.out.1 ⟨gname, q1, 2⟩ HADD.out.2 (HE21.out.keep hc.1.below).toEnv).mono ?_
                         rintro e w'' ⟨rfl, h11, k11⟩
                         exact ⟨_, rfl, rfl, hc.1.trans k11, h11⟩
                       simp only [Act.put, List.setIfInBounds_toArray, List.set_cons_zero, List.set_cons_succ]))
                  refine once_nil (fun w22 hc => ?_)
                  have G22 := Lib.hid (G21.out.then (show WB B L4 w22 b t dm (((st.delE fd fname).put (setPar ⟨q1, 2, q3, q4, q5, q6⟩ gd)).addE gd ⟨gname, q1, 2⟩) from hc.2) hc.1)
                  clear S hc
                  go_wp2
                  rw [← HP.out]
                  unfold UnlR
                  rw [HQ.out]
                  refine ⟨by first | done | rfl, ?_, G22.out.out.2⟩
                  unfold moveS
                  simp only
                  rw [if_pos (by first | exact trivial | exact rfl)]
                  exact G22.out.out.1

              | true =>
                obtain ⟨ments, hgn⟩ : ∃ en, st.get gn = some ⟨⟨m1, m2, m3, m4, m5, m6⟩, en⟩ := by
                  have h1 := HNI.out
                  have h2 := HNQ.out
                  unfold St.nd at h1 h2
                  cases hg : st.get gn with
                  | none => rw [hg] at h1; cases h1
                  | some r =>
                    rw [hg] at h2
                    obtain ⟨rn, re⟩ := r
                    have h3 : rn = ⟨m1, m2, m3, m4, m5, m6⟩ := h2
                    exact ⟨re, by rw [h3]⟩
                have hold := ren_old HF.out (gd := gd) (gname := gname) hgn
                have hmb : 1 ≤ m1 ∧ m1 ≤ 16777215 := by
                  obtain ⟨_, h1, h2, h3, _⟩ := hold
                  have h1' : m1 = gn := h1
                  omega
                obtain ⟨oc, hoc⟩ : ∃ oc, ontoC st ⟨q1, 2, q3, q4, q5, q6⟩ ⟨m1, m2, m3, m4, m5, m6⟩ = oc := ⟨_, rfl⟩
                have hrc : renC st ⟨gd, gn, gname⟩ (parseP y).2.slash ⟨q1, 2, q3, q4, q5, q6⟩ = oc := by unfold renC; rw [hgn]; exact hoc
                have hocc : CodeOk oc := by
                  rw [← hoc]
                  unfold ontoC
                  split
                  · exact .inr (by decide)
                  · split
                    · exact .inr (by decide)
                    · split
                      · exact .inr (by decide)
                      · exact .inl rfl
                have HGM := Lib.hid hgn
                have HOLD := Lib.hid hold
                have HOC := Lib.hid hoc
                have HRC := Lib.hid hrc
                have HOCC := Lib.hid hocc
                clear hgn hold hoc hrc hocc
                go_wp2_with fail
                refine (tonto_any HA8.out HL4.out.2.2.1 G8.out.tree HF.out.toGood ⟨q1, 2, q3, q4, q5, q6⟩ ⟨m1, m2, m3, m4, m5, m6⟩ (by simp only; omega) HE8.out.toEnv).mono ?_
                rw [HOC.out]
                rintro e w9 ⟨rfl, h9, k9⟩
                have G9 := Lib.hid (G8.out.then h9 k9)
                have HE9 := Lib.hid (HE8.out.keep k9.below)
                have HA9 := Lib.hid (HA8.out.kept HL4.out.2.2.1 k9)
                have RF9 := Lib.hid (RF8.out.keep (k9.loc _ HL4.out.1))
                have RN9 := Lib.hid (RN8.out.keep (k9.loc _ HL4.out.2.1))
                have RG9 := Lib.hid (RG8.out.keep (k9.loc _ HL4.out.2.2.2.2.1))
                have RM9 := Lib.hid (RM8.out.keep (k9.loc _ HL4.out.2.2.2.2.2))
                clear h9 k9 aq1 aql an0 an1 an2 an3 an4 an5 anl am0 am1 am2 am3 am4 am5 aml
                rcases HOCC.out with hz | hz
                · subst hz
                  rw [show errOf E 0 = .nilIface from rfl]
                  have hrc := HRC.out
                  have HTAIL := Lib.hid (ren_tail HF.out H2.out.1 H2.out.2.1 HF2.out HQ2.out HEQ.out hrc)
                  have HQ : Hid (R = (0, gn, moveS (ousted st ⟨gd, gn, gname⟩) fd fname gd gname ⟨q1, 2, q3, q4, q5, q6⟩)) := Lib.hid (by
                    rw [← HRF4.out]
                    exact (if_neg (not_not_intro hrc) : (if renC st ⟨gd, gn, gname⟩ (parseP y).2.slash ⟨q1, 2, q3, q4, q5, q6⟩ ≠ 0 then (renC st ⟨gd, gn, gname⟩ (parseP y).2.slash ⟨q1, 2, q3, q4, q5, q6⟩, (0 : Int), st) else (0, gn, moveS (ousted st ⟨gd, gn, gname⟩) fd fname gd gname ⟨q1, 2, q3, q4, q5, q6⟩)) = _))
                  clear hrc
                  have ag0 : w9.cell? ⟨cg, 0, none⟩ = some (.int .i64 gd) := (RG9.out.cell 0).trans rfl
                  have ag2 : w9.cell? ⟨cg, 2, none⟩ = some (.string gname) := (RG9.out.cell 2).trans rfl
                  have agl := RG9.out.lt
                  go_wp2_with fail
                  refine (tdrop_ok HA9.out G9.out.tree (k := gd) (by have := HGP.out.1; have := HGP.out.2.1; omega) HGP.out.2.2.1 HGP.out.2.2.2.2.1 HGP.out.2.2.2.1).mono ?_
                  rintro v w10 ⟨rfl, h10, k10⟩
                  have G10 := Lib.hid (G9.out.then h10 k10)
                  have HE10 := Lib.hid (HE9.out.keep k10.below)
                  have HA10 := Lib.hid (HA9.out.kept HL4.out.2.2.1 k10)
                  have RF10 := Lib.hid (RF9.out.keep (k10.loc _ HL4.out.1))
                  have RN10 := Lib.hid (RN9.out.keep (k10.loc _ HL4.out.2.1))
                  have RG10 := Lib.hid (RG9.out.keep (k10.loc _ HL4.out.2.2.2.2.1))
                  have RM10 := Lib.hid (RM9.out.keep (k10.loc _ HL4.out.2.2.2.2.2))
                  clear h10 k10 ag0 ag2 agl
                  have hm2 : m2 = 2 := by
                    have h := HOC.out
                    unfold ontoC at h
                    by_cases hm : m2 = 2
                    · exact hm
                    · rw [if_pos ⟨by first | exact trivial | exact rfl, hm⟩] at h
                      exact absurd h (by decide)
                  subst hm2
                  have am0 : w10.cell? ⟨cm, 0, none⟩ = some (.int .i64 m1) := (RM10.out.cell 0).trans rfl
                  have am1 : w10.cell? ⟨cm, 1, none⟩ = some (.int .i64 2) := (RM10.out.cell 1).trans rfl
                  have am2 : w10.cell? ⟨cm, 2, none⟩ = some (.int .i64 m3) := (RM10.out.cell 2).trans rfl
                  have am3 : w10.cell? ⟨cm, 3, none⟩ = some (.int .i64 m4) := (RM10.out.cell 3).trans rfl
                  have am4 : w10.cell? ⟨cm, 4, none⟩ = some (.string m5) := (RM10.out.cell 4).trans rfl
                  have am5 : w10.cell? ⟨cm, 5, none⟩ = some (.int .i64 m6) := (RM10.out.cell 5).trans rfl
                  have aml := RM10.out.lt
                  go_wp2_with fail
                  refine (tgone_any HA10.out G10.out.tree HGP.out.2.2.2.2.2.1 (k := m1) (by omega)).mono ?_
                  rintro v w11 ⟨rfl, h11, k11⟩
                  have hou : ousted st ⟨gd, gn, gname⟩ = ((st.delE gd gname).drop m1) := by unfold ousted; rw [HGM.out]; exact if_pos rfl
                  rw [hou] at HTAIL HQ
                  have G11 := Lib.hid (G10.out.then h11 k11)
                  have HE11 := Lib.hid (HE10.out.keep k11.below)
                  have HA11 := Lib.hid (HA10.out.kept HL4.out.2.2.1 k11)
                  have RF11 := Lib.hid (RF10.out.keep (k11.loc _ HL4.out.1))
                  have RN11 := Lib.hid (RN10.out.keep (k11.loc _ HL4.out.2.1))
                  have RG11 := Lib.hid (RG10.out.keep (k11.loc _ HL4.out.2.2.2.2.1))
                  clear h11 k11 am0 am1 am2 am3 am4 am5 aml hou
                  have yy0 : w11.cell? ⟨w4.heap.size, 0, none⟩ = some (.int .i64 fd) := (RF11.out.cell 0).trans rfl
                  have yy2 : w11.cell? ⟨w4.heap.size, 2, none⟩ = some (.string fname) := (RF11.out.cell 2).trans rfl
                  have yyl := RF11.out.lt
                  go_wp2_with fail
                  refine (tdrop_ok HA11.out G11.out.tree (k := fd) (by have := HFT.out.1; have := HFT.out.2.1; omega) HTAIL.out.1 HFT.out.2.2.2.2.1 HTAIL.out.2.1).mono ?_
                  rintro v w20 ⟨rfl, h8, k8⟩
                  have G20 := Lib.hid (G11.out.then h8 k8)
                  have HE20 := Lib.hid (HE11.out.keep k8.below)
                  have HA20 := Lib.hid (HA11.out.kept HL4.out.2.2.1 k8)
                  have RF20 := Lib.hid (RF11.out.keep (k8.loc _ HL4.out.1))
                  have RN20 := Lib.hid (RN11.out.keep (k8.loc _ HL4.out.2.1))
                  have RG20 := Lib.hid (RG11.out.keep (k8.loc _ HL4.out.2.2.2.2.1))
                  have vv1 : w20.cell? ⟨C3, 1, none⟩ = some (.int .i64 2) := (RN20.out.cell 1).trans rfl
                  have vvl := RN20.out.lt
                  clear h8 k8 yy0 yy2 yyl
                  have vv0 : w20.cell? ⟨C3, 0, none⟩ = some (.int .i64 q1) := (RN20.out.cell 0).trans rfl
                  have vv2 : w20.cell? ⟨C3, 2, none⟩ = some (.int .i64 q3) := (RN20.out.cell 2).trans rfl
                  have vv3 : w20.cell? ⟨C3, 3, none⟩ = some (.int .i64 q4) := (RN20.out.cell 3).trans rfl
                  have vv4 : w20.cell? ⟨C3, 4, none⟩ = some (.string q5) := (RN20.out.cell 4).trans rfl
                  have vv5 : w20.cell? ⟨C3, 5, none⟩ = some (.int .i64 q6) := (RN20.out.cell 5).trans rfl
                  have vvf : ∀ i, w20.frozen? ⟨C3, i, none⟩ = false := fun i => RN20.out.froz i
                  have ww0 : w20.cell? ⟨cg, 0, none⟩ = some (.int .i64 gd) := (RG20.out.cell 0).trans rfl
                  have wwl := RG20.out.lt
                  go_wp2_with fail
                  obtain ⟨ws, hws⟩ : ∃ ws, ws = w20.setCell ⟨C3, 5, none⟩ (.int .i64 gd) := ⟨_, rfl⟩
                  have gs := Lib.hid (show Gd B L L4 w b t dm _ (fun z => z = C3) ws by rw [hws]; exact G20.out.set (c := C3) (i := 5) (by exact rfl) _)
                  have hcc : ¬ C3 = cg := by
                    have h1 := ZZ5.out
                    have h2 := HCG.out
                    omega
                  have hcd : ¬ C3 = w4.heap.size := by
                    have h1 := HC3.out
                    omega
                  have rs := Lib.hid (show Row ws C3 59 [.int .i64 q1, .int .i64 2, .int .i64 q3, .int .i64 q4, .string q5, .int .i64 gd] by rw [hws]; exact RN20.out.set 5 (.int .i64 gd))
                  have rg := Lib.hid (show Row ws cg 127 [.int .i64 gd, .int .i64 gn, .string gname] by rw [hws]; exact RG20.out.keep (Below.heap_setCell _ _ _ _ (fun h => hcc h.symm)))
                  have es := Lib.hid (show EnvM E B ws by rw [hws]; exact HE20.out.keep (Below.setCell (Below.refl _ _) (G20.out.own _ rfl).2.1 _))
                  have as' := Lib.hid (show TA ws a b by
                    rw [hws]
                    refine HA20.out.set (fun hh => ?_) _
                    exact (G20.out.own C3 rfl).2.2 (by rw [← (show a = C3 from hh)]; exact HLA.out))
                  rw [← hws]
                  clear hws vv0 vv1 vv2 vv3 vv4 vv5 vvf ww0 wwl vvl
                  refine (tput_ok as'.out HL4.out.2.2.1 gs.out.tree HTAIL.out.2.2.1 (setPar ⟨q1, 2, q3, q4, q5, q6⟩ gd) (HTAIL.out.2.2.2.2.1 (by first | exact trivial | exact rfl)) (fun hh => by
                    obtain ⟨z, hz⟩ := HTAIL.out.2.2.2.1
                    have h1 : St.get _ q1 = none := hh
                    have h2 : St.get _ q1 = some z := hz
                    rw [h2] at h1
                    cases h1) es.out.toEnv).mono ?_
                  rintro e w21 ⟨rfl, h8, k8⟩
                  have G21 := Lib.hid (gs.out.then h8 k8)
                  have HE21 := Lib.hid (es.out.keep k8.below)
                  have HA21 := Lib.hid (as'.out.kept HL4.out.2.2.1 k8)
                  have RN21 := Lib.hid (rs.out.keep (k8.loc _ HL4.out.2.1))
                  have RG21 := Lib.hid (rg.out.keep (k8.loc _ HL4.out.2.2.2.2.1))
                  clear h8 k8 gs rs rg es as' hcc hcd
                  have hadd := HTAIL.out.2.2.2.2.2
                  rw [if_pos (by first | exact trivial | exact rfl)] at hadd
                  have HADD := Lib.hid hadd
                  clear hadd
                  go_wp2_with fail
                  have S : ∀ w', KeptP B L4 w21 w' → w'.cell? ⟨cg, 0, none⟩ = some (.int .i64 gd) ∧ w'.cell? ⟨cg, 1, none⟩ = some (.int .i64 gn) ∧ w'.cell? ⟨cg, 2, none⟩ = some (.string gname) ∧ w'.cell? ⟨C3, 0, none⟩ = some (.int .i64 q1) ∧ w'.cell? ⟨C3, 1, none⟩ = some (.int .i64 2) := by
                    intro w' hb
                    have r1 := RG21.out.keep (hb.loc _ HL4.out.2.2.2.2.1)
                    have r2 := RN21.out.keep (hb.loc _ HL4.out.2.1)
                    exact ⟨(r1.cell 0).trans rfl, (r1.cell 1).trans rfl, (r1.cell 2).trans rfl, (r2.cell 0).trans rfl, (r2.cell 1).trans rfl⟩
                  apply wp_region_once 12 _ (by kernel_rfl) (by kernel_rfl) (by decide) (fun d w' => KeptP B L4 w21 w' ∧ WB B L4 w' b t dm (if d then ((((st.delE gd gname).drop m1).delE fd fname).put (setPar ⟨q1, 2, q3, q4, q5, q6⟩ gd)).addE gd ⟨gname, q1, 2⟩ else ((((st.delE gd gname).drop m1).delE fd fname).put (setPar ⟨q1, 2, q3, q4, q5, q6⟩ gd)))) ⟨G21.out.tree.kept (Below.refl _ _).drew, G21.out.tree.below (Below.refl _ _).drew⟩
                  repeat (first
                    | (apply once_skip (by rfl) (by decide)
                       simp only [Act.put, List.setIfInBounds_toArray, List.set_cons_zero, List.set_cons_succ])
                    | (apply once_fix (by rfl) (by rfl)
                       · intro d w' hc R hR
                         have hS := S w' hc.1
                         go_simp
                         exact hR
                       simp only [Act.put, List.setIfInBounds_toArray, List.set_cons_zero, List.set_cons_succ])
                    | (apply once_call (by rfl) (by rfl)
                       · intro w' hc
                         go_simp
                         refine (tadd_ok (HA21.out.kept HL4.out.2.2.1 hc.1) HL4.out.2.2.1 (show WB B L4 w' b t dm ((((st.delE gd gname).drop m1).delE fd fname).put (setPar ⟨q1, 2, q3, q4, q5, q6⟩ gd)) from hc.2) (by have := HGP.out.1; have := HGP.out.2.1; omega) HADD.out.1 ⟨gname, q1, 2⟩ HADD.out.2 (HE21.out.keep hc.1.below).toEnv).mono ?_
                         rintro e w'' ⟨rfl, h11, k11⟩
                         exact ⟨_, rfl, rfl, hc.1.trans k11, h11⟩
                       simp only [Act.put, List.setIfInBounds_toArray, List.set_cons_zero, List.set_cons_succ]))
                  refine once_nil (fun w22 hc => ?_)
                  have G22 := Lib.hid (G21.out.then (show WB B L4 w22 b t dm (((((st.delE gd gname).drop m1).delE fd fname).put (setPar ⟨q1, 2, q3, q4, q5, q6⟩ gd)).addE gd ⟨gname, q1, 2⟩) from hc.2) hc.1)
                  clear S hc
                  go_wp2
                  rw [← HP.out]
                  unfold UnlR
                  rw [HQ.out]
                  refine ⟨by first | done | rfl, ?_, G22.out.out.2⟩
                  unfold moveS
                  simp only
                  rw [if_pos (by first | exact trivial | exact rfl)]
                  exact G22.out.out.1
                · obtain ⟨ad, had⟩ := errOf_some (E := E) hz
                  have HQ : Hid (R = (oc, 0, st)) := Lib.hid (by
                    rw [← HRF4.out, HRC.out]
                    exact if_pos (show oc ≠ 0 by omega))
                  rw [had]
                  have CE := Lib.hid had
                  clear had hz
                  go_wp2
                  rw [← HP.out]
                  unfold UnlR
                  rw [HQ.out]
                  exact ⟨by rw [CE.out]; first | done | rfl, G9.out.out.1, G9.out.out.2⟩

          · have HK2 := Lib.hid hk2
            have hkb : (q2 == 2) = false := by rw [beq_eq_false_iff_ne]; exact hk2
            have HRN := HRF3.out
            rw [if_neg (fun h => HK2.out h.1)] at HRN
            have HRF4 := Lib.hid HRN
            clear HRN hk2
            obtain ⟨q, hq⟩ : ∃ q, (st.nd gn).getD noNd = q := ⟨_, rfl⟩
            obtain ⟨is, his⟩ : ∃ is, (st.nd gn).isSome = is := ⟨_, rfl⟩
            have HNQ := Lib.hid hq
            have HNI := Lib.hid his
            clear hq his
            obtain ⟨m1, m2, m3, m4, m5, m6⟩ := q
            have hbw := G6.out.tree.c0
            have hbl := G6.out.tree.lt.1
            have S : ∀ w', ShH w6.heap.size (ndC ⟨m1, m2, m3, m4, m5, m6⟩) 59 w6 w' → w'.cell? ⟨a, 0, none⟩ = some (.pointer (some ⟨b, 0, none⟩)) ∧ w'.cell? ⟨b, 0, none⟩ = some (.pointer (some ⟨t, 0, none⟩)) ∧ w'.cell? ⟨cg, 1, none⟩ = some (.int .i64 gn) :=
              fun w' hs => ⟨(hs.bel.cell (p := ⟨a, 0, none⟩) HA6.out.2).trans HA6.out.1, (hs.bel.cell (p := ⟨b, 0, none⟩) hbl).trans hbw, (hs.bel.cell (p := ⟨cg, 1, none⟩) RG6.out.lt).trans ((RG6.out.cell 1).trans rfl)⟩
            have HG : Hid (∀ w', ShH w6.heap.size (ndC ⟨m1, m2, m3, m4, m5, m6⟩) 59 w6 w' → Calls Tryz.prog 54 #[.pointer (some ⟨t, 0, none⟩), .int .i64 gn] w' fun e w'' => e = .returned (.tuple #[.agg #[.int .i64 m1, .int .i64 m2, .int .i64 m3, .int .i64 m4, .string m5, .int .i64 m6], .bool is]) ∧ Below w'.heap.size w' w'') := Lib.hid fun w' hs => by
              have := wl_get (G6.out.tree.below hs.bel) (k := gn) (by have := HGN.out; omega)
              rw [HNQ.out, HNI.out] at this
              exact this
            clear hbw hbl
            go_wp2_with fail
            clear hx0 hx1 hv0 hv1 hy0 hy1 hxl hvl hyl
            apply wp_region_rel _ (by kernel_rfl) (by kernel_rfl) (fun w' => ShH w6.heap.size (ndC ⟨m1, m2, m3, m4, m5, m6⟩) 59 w6 w') (fun w' w'' => ShH w6.heap.size (ndC ⟨m1, m2, m3, m4, m5, m6⟩) 59 w' w'') (fun w' w'' h1 h2 => h1.trans h2) (ShH.refl _ _ _ _).drew
            repeat (first
              | (apply wpRel_fix (by rfl)
                 · intro w' hC hf R hR
                   have hS := S w' hC
                   go_simp
                   exact hR _ (ShH.refl _ _ _ _)
                 simp only [Act.put, List.setIfInBounds_toArray, List.set_cons_zero, List.set_cons_succ])
              | (apply wpRel_fix (by rfl)
                 · intro w' hC hf R hR
                   have hS := S w' hC
                   go_simp
                   refine (HG.out w' hC).mono ?_
                   rintro e w'' ⟨rfl, hb⟩
                   exact ⟨_, rfl, hR _ (ShH.of_below hb (Nat.le_trans hC.bel.size (Nat.le_refl _)))⟩
                 simp only [Act.put, List.setIfInBounds_toArray, List.set_cons_zero, List.set_cons_succ]))
            apply wpRel_rel (PtTy w6.heap.size ((ndC ⟨m1, m2, m3, m4, m5, m6⟩) : List Value).length 59) (by rfl) ptTy_keep
            · intro w' hC hf R hR
              go_simp
              exact hR _ _ ⟨_, rfl, hC.bel.size, TyB.new _ _ _ rfl⟩ (ShH.of_below (bl_alloc (Below.refl _ _) _) hC.bel.size)
            intro vptr
            simp only [Act.put, List.setIfInBounds_toArray, List.set_cons_zero, List.set_cons_succ]
            apply wpRel_dep 14 (PtRow w6.heap.size (ndC ⟨m1, m2, m3, m4, m5, m6⟩) 59) (by rfl) (by rfl) ptRow_keep
            · intro w' hC hf R hR
              obtain ⟨c, rfl, hc, hk⟩ := hf _ (List.mem_cons_self ..) (by kernel_rfl)
              obtain ⟨u0, e0⟩ := hk.cell (i := 0) (Nat.lt_of_lt_of_eq (by decide : 0 < 6) rfl)
              have f0 := hk.froz 0
              obtain ⟨u1, e1⟩ := hk.cell (i := 1) (Nat.lt_of_lt_of_eq (by decide : 1 < 6) rfl)
              have f1 := hk.froz 1
              obtain ⟨u2, e2⟩ := hk.cell (i := 2) (Nat.lt_of_lt_of_eq (by decide : 2 < 6) rfl)
              have f2 := hk.froz 2
              obtain ⟨u3, e3⟩ := hk.cell (i := 3) (Nat.lt_of_lt_of_eq (by decide : 3 < 6) rfl)
              have f3 := hk.froz 3
              obtain ⟨u4, e4⟩ := hk.cell (i := 4) (Nat.lt_of_lt_of_eq (by decide : 4 < 6) rfl)
              have f4 := hk.froz 4
              obtain ⟨u5, e5⟩ := hk.cell (i := 5) (Nat.lt_of_lt_of_eq (by decide : 5 < 6) rfl)
              have f5 := hk.froz 5
              have hN := Lib.hid hk
              clear hk
              go_simp
              exact hR _ _ (ptRow_mk hN.out hc) (ShH.setAll hN.out hc)
            intro vst
            simp only [Act.put, List.setIfInBounds_toArray, List.set_cons_zero, List.set_cons_succ]
            repeat (first
              | (apply wpRel_fix (by rfl)
                 · intro w' hC hf R hR
                   have hS := S w' hC
                   go_simp
                   exact hR _ (ShH.refl _ _ _ _)
                 simp only [Act.put, List.setIfInBounds_toArray, List.set_cons_zero, List.set_cons_succ]))
            refine wpRel_nil (fun w8 hC hf => ?_)
            obtain ⟨cm, rfl, hcm, rwm⟩ : PtRow w6.heap.size (ndC ⟨m1, m2, m3, m4, m5, m6⟩) 59 vptr w8 := hf _ (List.mem_cons_self ..)
            obtain ⟨L4, hL4⟩ : ∃ L4 : Nat → Prop, L4 = fun z => z = cm ∨ L3 z := ⟨_, rfl⟩
            have G8 : Hid (Gd B L L4 w b t dm st (fun z => z = C3) w8) := Lib.hid (by
              rw [hL4]
              have g := Gd.first (B := B) G6.out.tree hC.bel (S := fun z => z = cm) (fun z hz => by subst hz; exact ⟨hcm, rwm.lt⟩)
              exact ⟨g.tree, (G6.out.below hC.bel).kept, fun z hz => .inr (G6.out.sub z hz), fun c hc => ⟨.inr (G6.out.own c hc).1, (G6.out.own c hc).2⟩⟩)
            have HL4 : Hid (L4 w4.heap.size ∧ L4 C3 ∧ L4 a ∧ L4 C1 ∧ L4 cg ∧ L4 cm) := Lib.hid (by
              rw [hL4]
              exact ⟨.inr HL3.out.1, .inr HL3.out.2.1, .inr HL3.out.2.2.1, .inr HL3.out.2.2.2.1, .inr HL3.out.2.2.2.2.1, .inl rfl⟩)
            clear hL4
            have HE8 := Lib.hid (HE6.out.below hC.bel)
            have HA8 := Lib.hid (HA6.out.below hC.bel)
            have RQ8 := Lib.hid (RQ6.out.below hC.bel)
            have RF8 := Lib.hid (RF6.out.below hC.bel)
            have RN8 := Lib.hid (RN6.out.below hC.bel)
            have RG8 := Lib.hid (RG6.out.below hC.bel)
            have RM8 := Lib.hid rwm
            have aq1 : w8.cell? ⟨C1, 1, none⟩ = some (.bool s2) := (RQ8.out.cell 1).trans rfl
            have aql := RQ8.out.lt
            have an0 : w8.cell? ⟨C3, 0, none⟩ = some (.int .i64 q1) := (RN8.out.cell 0).trans rfl
            have an1 : w8.cell? ⟨C3, 1, none⟩ = some (.int .i64 q2) := (RN8.out.cell 1).trans rfl
            have an2 : w8.cell? ⟨C3, 2, none⟩ = some (.int .i64 q3) := (RN8.out.cell 2).trans rfl
            have an3 : w8.cell? ⟨C3, 3, none⟩ = some (.int .i64 q4) := (RN8.out.cell 3).trans rfl
            have an4 : w8.cell? ⟨C3, 4, none⟩ = some (.string q5) := (RN8.out.cell 4).trans rfl
            have an5 : w8.cell? ⟨C3, 5, none⟩ = some (.int .i64 q6) := (RN8.out.cell 5).trans rfl
            have anl := RN8.out.lt
            have am0 : w8.cell? ⟨cm, 0, none⟩ = some (.int .i64 m1) := (RM8.out.cell 0).trans rfl
            have am1 : w8.cell? ⟨cm, 1, none⟩ = some (.int .i64 m2) := (RM8.out.cell 1).trans rfl
            have am2 : w8.cell? ⟨cm, 2, none⟩ = some (.int .i64 m3) := (RM8.out.cell 2).trans rfl
            have am3 : w8.cell? ⟨cm, 3, none⟩ = some (.int .i64 m4) := (RM8.out.cell 3).trans rfl
            have am4 : w8.cell? ⟨cm, 4, none⟩ = some (.string m5) := (RM8.out.cell 4).trans rfl
            have am5 : w8.cell? ⟨cm, 5, none⟩ = some (.int .i64 m6) := (RM8.out.cell 5).trans rfl
            have aml := RM8.out.lt
            clear S hf hC HG rwm
            cases is with
            | false =>
              have hgn : st.get gn = none := nd_none (by have := HNI.out; simpa using this)
              have hou : ousted st ⟨gd, gn, gname⟩ = st := by unfold ousted; rw [hgn]
              have hrc : renC st ⟨gd, gn, gname⟩ (parseP y).2.slash ⟨q1, q2, q3, q4, q5, q6⟩ = if s2 && q2 != 2 then 111 else 0 := by unfold renC; rw [hgn, ← H2.out.2.2.2.1]; first | done | rfl
              have hkb : (q2 == 2) = false := by rw [beq_eq_false_iff_ne]; exact HK2.out
              cases s2 with
              | true =>
                have hrc : renC st ⟨gd, gn, gname⟩ (parseP y).2.slash ⟨q1, q2, q3, q4, q5, q6⟩ = 111 := by rw [hrc]; simp [HK2.out]
                have HQ : Hid (R = (111, 0, st)) := Lib.hid (by rw [← HRF4.out, hrc]; exact if_pos (by decide))
                have c1' : errOf E 111 = errV E 7 := errOf_code (g := 7) (by decide)
                have CE := Lib.hid c1'
                have e1 := HE8.out.cell 7 (by decide)
                have l1 : 7 < w8.heap.size := Nat.lt_of_lt_of_le (HE8.out.glt _ (by decide)) HE8.out.size
                clear c1'
                go_wp2
                rw [← HP.out]
                unfold UnlR
                rw [HQ.out]
                refine ⟨?_, (by repeat (first | with_reducible exact G8.out | with_reducible refine Gd.drew ?_) : Gd B L L4 w b t dm st (fun z => z = C3) _).out⟩
                exact by first | (rw [← CE.out]; done) | (rw [← CE.out]; rfl)

              | false =>
                have hrc : renC st ⟨gd, gn, gname⟩ (parseP y).2.slash ⟨q1, q2, q3, q4, q5, q6⟩ = 0 := by rw [hrc]; simp
                have HTAIL := Lib.hid (ren_tail HF.out H2.out.1 H2.out.2.1 HF2.out HQ2.out HEQ.out hrc)
                rw [hou] at HTAIL
                have HQ : Hid (R = (0, gn, moveS st fd fname gd gname ⟨q1, q2, q3, q4, q5, q6⟩)) := Lib.hid (by
                  rw [← HRF4.out]
                  have := (if_neg (not_not_intro hrc) : (if renC st ⟨gd, gn, gname⟩ (parseP y).2.slash ⟨q1, q2, q3, q4, q5, q6⟩ ≠ 0 then (renC st ⟨gd, gn, gname⟩ (parseP y).2.slash ⟨q1, q2, q3, q4, q5, q6⟩, (0 : Int), st) else (0, gn, moveS (ousted st ⟨gd, gn, gname⟩) fd fname gd gname ⟨q1, q2, q3, q4, q5, q6⟩)) = _)
                  exact this.trans (by rw [hou]))
                have yy0 : w8.cell? ⟨w4.heap.size, 0, none⟩ = some (.int .i64 fd) := (RF8.out.cell 0).trans rfl
                have yy2 : w8.cell? ⟨w4.heap.size, 2, none⟩ = some (.string fname) := (RF8.out.cell 2).trans rfl
                have yyl := RF8.out.lt
                go_wp2_with fail
                refine (tdrop_ok HA8.out G8.out.tree (k := fd) (by have := HFT.out.1; have := HFT.out.2.1; omega) HTAIL.out.1 HFT.out.2.2.2.2.1 HTAIL.out.2.1).mono ?_
                rintro v w20 ⟨rfl, h8, k8⟩
                have G20 := Lib.hid (G8.out.then h8 k8)
                have HE20 := Lib.hid (HE8.out.keep k8.below)
                have HA20 := Lib.hid (HA8.out.kept HL4.out.2.2.1 k8)
                have RF20 := Lib.hid (RF8.out.keep (k8.loc _ HL4.out.1))
                have RN20 := Lib.hid (RN8.out.keep (k8.loc _ HL4.out.2.1))
                have RG20 := Lib.hid (RG8.out.keep (k8.loc _ HL4.out.2.2.2.2.1))
                have vv1 : w20.cell? ⟨C3, 1, none⟩ = some (.int .i64 q2) := (RN20.out.cell 1).trans rfl
                have vvl := RN20.out.lt
                clear h8 k8 yy0 yy2 yyl
                have hadd := HTAIL.out.2.2.2.2.2
                rw [if_neg (by exact HK2.out)] at hadd
                have HADD := Lib.hid hadd
                clear hadd
                go_wp2_with fail
                have S : ∀ w', KeptP B L4 w20 w' → w'.cell? ⟨cg, 0, none⟩ = some (.int .i64 gd) ∧ w'.cell? ⟨cg, 1, none⟩ = some (.int .i64 gn) ∧ w'.cell? ⟨cg, 2, none⟩ = some (.string gname) ∧ w'.cell? ⟨C3, 0, none⟩ = some (.int .i64 q1) ∧ w'.cell? ⟨C3, 1, none⟩ = some (.int .i64 q2) := by
                  intro w' hb
                  have r1 := RG20.out.keep (hb.loc _ HL4.out.2.2.2.2.1)
                  have r2 := RN20.out.keep (hb.loc _ HL4.out.2.1)
                  exact ⟨(r1.cell 0).trans rfl, (r1.cell 1).trans rfl, (r1.cell 2).trans rfl, (r2.cell 0).trans rfl, (r2.cell 1).trans rfl⟩
                apply wp_region_once 12 _ (by kernel_rfl) (by kernel_rfl) (by decide) (fun d w' => KeptP B L4 w20 w' ∧ WB B L4 w' b t dm (if d then (st.delE fd fname).addE gd ⟨gname, q1, q2⟩ else (st.delE fd fname))) ⟨G20.out.tree.kept (Below.refl _ _).drew, G20.out.tree.below (Below.refl _ _).drew⟩
                repeat (first
                  | (apply once_skip (by rfl) (by decide)
                     simp only [Act.put, List.setIfInBounds_toArray, List.set_cons_zero, List.set_cons_succ])
                  | (apply once_fix (by rfl) (by rfl)
                     · intro d w' hc R hR
                       have hS := S w' hc.1
                       go_simp
                       exact hR
                     simp only [Act.put, List.setIfInBounds_toArray, List.set_cons_zero, List.set_cons_succ])
                  | (apply once_call (by rfl) (by rfl)
                     · intro w' hc
                       go_simp
                       refine (tadd_ok (HA20.out.kept HL4.out.2.2.1 hc.1) HL4.out.2.2.1 (show WB B L4 w' b t dm (st.delE fd fname) from hc.2) (by have := HGP.out.1; have := HGP.out.2.1; omega) HADD.out.1 ⟨gname, q1, q2⟩ HADD.out.2 (HE20.out.keep hc.1.below).toEnv).mono ?_
                       rintro e w'' ⟨rfl, h11, k11⟩
                       exact ⟨_, rfl, rfl, hc.1.trans k11, h11⟩
                     simp only [Act.put, List.setIfInBounds_toArray, List.set_cons_zero, List.set_cons_succ]))
                refine once_nil (fun w22 hc => ?_)
                have G22 := Lib.hid (G20.out.then (show WB B L4 w22 b t dm ((st.delE fd fname).addE gd ⟨gname, q1, q2⟩) from hc.2) hc.1)
                clear S hc
                go_wp2
                rw [← HP.out]
                unfold UnlR
                rw [HQ.out]
                refine ⟨by first | done | rfl, ?_, G22.out.out.2⟩
                unfold moveS
                simp only
                rw [if_neg (by exact HK2.out)]
                exact G22.out.out.1

            | true =>
              obtain ⟨ments, hgn⟩ : ∃ en, st.get gn = some ⟨⟨m1, m2, m3, m4, m5, m6⟩, en⟩ := by
                have h1 := HNI.out
                have h2 := HNQ.out
                unfold St.nd at h1 h2
                cases hg : st.get gn with
                | none => rw [hg] at h1; cases h1
                | some r =>
                  rw [hg] at h2
                  obtain ⟨rn, re⟩ := r
                  have h3 : rn = ⟨m1, m2, m3, m4, m5, m6⟩ := h2
                  exact ⟨re, by rw [h3]⟩
              have hold := ren_old HF.out (gd := gd) (gname := gname) hgn
              have hmb : 1 ≤ m1 ∧ m1 ≤ 16777215 := by
                obtain ⟨_, h1, h2, h3, _⟩ := hold
                have h1' : m1 = gn := h1
                omega
              obtain ⟨oc, hoc⟩ : ∃ oc, ontoC st ⟨q1, q2, q3, q4, q5, q6⟩ ⟨m1, m2, m3, m4, m5, m6⟩ = oc := ⟨_, rfl⟩
              have hrc : renC st ⟨gd, gn, gname⟩ (parseP y).2.slash ⟨q1, q2, q3, q4, q5, q6⟩ = oc := by unfold renC; rw [hgn]; exact hoc
              have hocc : CodeOk oc := by
                rw [← hoc]
                unfold ontoC
                split
                · exact .inr (by decide)
                · split
                  · exact .inr (by decide)
                  · split
                    · exact .inr (by decide)
                    · exact .inl rfl
              have HGM := Lib.hid hgn
              have HOLD := Lib.hid hold
              have HOC := Lib.hid hoc
              have HRC := Lib.hid hrc
              have HOCC := Lib.hid hocc
              clear hgn hold hoc hrc hocc
              go_wp2_with fail
              refine (tonto_any HA8.out HL4.out.2.2.1 G8.out.tree HF.out.toGood ⟨q1, q2, q3, q4, q5, q6⟩ ⟨m1, m2, m3, m4, m5, m6⟩ (by simp only; omega) HE8.out.toEnv).mono ?_
              rw [HOC.out]
              rintro e w9 ⟨rfl, h9, k9⟩
              have G9 := Lib.hid (G8.out.then h9 k9)
              have HE9 := Lib.hid (HE8.out.keep k9.below)
              have HA9 := Lib.hid (HA8.out.kept HL4.out.2.2.1 k9)
              have RF9 := Lib.hid (RF8.out.keep (k9.loc _ HL4.out.1))
              have RN9 := Lib.hid (RN8.out.keep (k9.loc _ HL4.out.2.1))
              have RG9 := Lib.hid (RG8.out.keep (k9.loc _ HL4.out.2.2.2.2.1))
              have RM9 := Lib.hid (RM8.out.keep (k9.loc _ HL4.out.2.2.2.2.2))
              clear h9 k9 aq1 aql an0 an1 an2 an3 an4 an5 anl am0 am1 am2 am3 am4 am5 aml
              rcases HOCC.out with hz | hz
              · subst hz
                rw [show errOf E 0 = .nilIface from rfl]
                have hrc := HRC.out
                have HTAIL := Lib.hid (ren_tail HF.out H2.out.1 H2.out.2.1 HF2.out HQ2.out HEQ.out hrc)
                have HQ : Hid (R = (0, gn, moveS (ousted st ⟨gd, gn, gname⟩) fd fname gd gname ⟨q1, q2, q3, q4, q5, q6⟩)) := Lib.hid (by
                  rw [← HRF4.out]
                  exact (if_neg (not_not_intro hrc) : (if renC st ⟨gd, gn, gname⟩ (parseP y).2.slash ⟨q1, q2, q3, q4, q5, q6⟩ ≠ 0 then (renC st ⟨gd, gn, gname⟩ (parseP y).2.slash ⟨q1, q2, q3, q4, q5, q6⟩, (0 : Int), st) else (0, gn, moveS (ousted st ⟨gd, gn, gname⟩) fd fname gd gname ⟨q1, q2, q3, q4, q5, q6⟩)) = _))
                clear hrc
                have ag0 : w9.cell? ⟨cg, 0, none⟩ = some (.int .i64 gd) := (RG9.out.cell 0).trans rfl
                have ag2 : w9.cell? ⟨cg, 2, none⟩ = some (.string gname) := (RG9.out.cell 2).trans rfl
                have agl := RG9.out.lt
                go_wp2_with fail
                refine (tdrop_ok HA9.out G9.out.tree (k := gd) (by have := HGP.out.1; have := HGP.out.2.1; omega) HGP.out.2.2.1 HGP.out.2.2.2.2.1 HGP.out.2.2.2.1).mono ?_
                rintro v w10 ⟨rfl, h10, k10⟩
                have G10 := Lib.hid (G9.out.then h10 k10)
                have HE10 := Lib.hid (HE9.out.keep k10.below)
                have HA10 := Lib.hid (HA9.out.kept HL4.out.2.2.1 k10)
                have RF10 := Lib.hid (RF9.out.keep (k10.loc _ HL4.out.1))
                have RN10 := Lib.hid (RN9.out.keep (k10.loc _ HL4.out.2.1))
                have RG10 := Lib.hid (RG9.out.keep (k10.loc _ HL4.out.2.2.2.2.1))
                have RM10 := Lib.hid (RM9.out.keep (k10.loc _ HL4.out.2.2.2.2.2))
                clear h10 k10 ag0 ag2 agl
                have hm2 : ¬ m2 = 2 := by
                  have h := HOC.out
                  unfold ontoC at h
                  intro hm
                  rw [if_neg (fun h => HK2.out h.1), if_pos ⟨HK2.out, hm⟩] at h
                  exact absurd h (by decide)
                have hm2b : (m2 == 2) = false := by rw [beq_eq_false_iff_ne]; exact hm2
                have HM2 := Lib.hid hm2
                clear hm2
                have am0 : w10.cell? ⟨cm, 0, none⟩ = some (.int .i64 m1) := (RM10.out.cell 0).trans rfl
                have am1 : w10.cell? ⟨cm, 1, none⟩ = some (.int .i64 m2) := (RM10.out.cell 1).trans rfl
                have am2 : w10.cell? ⟨cm, 2, none⟩ = some (.int .i64 m3) := (RM10.out.cell 2).trans rfl
                have am3 : w10.cell? ⟨cm, 3, none⟩ = some (.int .i64 m4) := (RM10.out.cell 3).trans rfl
                have am4 : w10.cell? ⟨cm, 4, none⟩ = some (.string m5) := (RM10.out.cell 4).trans rfl
                have am5 : w10.cell? ⟨cm, 5, none⟩ = some (.int .i64 m6) := (RM10.out.cell 5).trans rfl
                have aml := RM10.out.lt
                go_wp2_with fail
                refine (tless_ok HA10.out HL4.out.2.2.1 G10.out.tree HGP.out.2.2.2.2.2.1 ⟨m1, m2, m3, m4, m5, m6⟩ HOLD.out.1 HOLD.out.2.2.2.2 HE10.out.toEnv).mono ?_
                rintro v w11 ⟨rfl, h11, k11⟩
                have hou : ousted st ⟨gd, gn, gname⟩ = ((st.delE gd gname).put (setLinks ⟨m1, m2, m3, m4, m5, m6⟩ (max (m3 - 1) 0))) := by unfold ousted; rw [HGM.out]; exact if_neg HM2.out
                rw [hou] at HTAIL HQ
                have G11 := Lib.hid (G10.out.then h11 k11)
                have HE11 := Lib.hid (HE10.out.keep k11.below)
                have HA11 := Lib.hid (HA10.out.kept HL4.out.2.2.1 k11)
                have RF11 := Lib.hid (RF10.out.keep (k11.loc _ HL4.out.1))
                have RN11 := Lib.hid (RN10.out.keep (k11.loc _ HL4.out.2.1))
                have RG11 := Lib.hid (RG10.out.keep (k11.loc _ HL4.out.2.2.2.2.1))
                clear h11 k11 am0 am1 am2 am3 am4 am5 aml hou
                have yy0 : w11.cell? ⟨w4.heap.size, 0, none⟩ = some (.int .i64 fd) := (RF11.out.cell 0).trans rfl
                have yy2 : w11.cell? ⟨w4.heap.size, 2, none⟩ = some (.string fname) := (RF11.out.cell 2).trans rfl
                have yyl := RF11.out.lt
                go_wp2_with fail
                refine (tdrop_ok HA11.out G11.out.tree (k := fd) (by have := HFT.out.1; have := HFT.out.2.1; omega) HTAIL.out.1 HFT.out.2.2.2.2.1 HTAIL.out.2.1).mono ?_
                rintro v w20 ⟨rfl, h8, k8⟩
                have G20 := Lib.hid (G11.out.then h8 k8)
                have HE20 := Lib.hid (HE11.out.keep k8.below)
                have HA20 := Lib.hid (HA11.out.kept HL4.out.2.2.1 k8)
                have RF20 := Lib.hid (RF11.out.keep (k8.loc _ HL4.out.1))
                have RN20 := Lib.hid (RN11.out.keep (k8.loc _ HL4.out.2.1))
                have RG20 := Lib.hid (RG11.out.keep (k8.loc _ HL4.out.2.2.2.2.1))
                have vv1 : w20.cell? ⟨C3, 1, none⟩ = some (.int .i64 q2) := (RN20.out.cell 1).trans rfl
                have vvl := RN20.out.lt
                clear h8 k8 yy0 yy2 yyl
                have hadd := HTAIL.out.2.2.2.2.2
                rw [if_neg (by exact HK2.out)] at hadd
                have HADD := Lib.hid hadd
                clear hadd
                go_wp2_with fail
                have S : ∀ w', KeptP B L4 w20 w' → w'.cell? ⟨cg, 0, none⟩ = some (.int .i64 gd) ∧ w'.cell? ⟨cg, 1, none⟩ = some (.int .i64 gn) ∧ w'.cell? ⟨cg, 2, none⟩ = some (.string gname) ∧ w'.cell? ⟨C3, 0, none⟩ = some (.int .i64 q1) ∧ w'.cell? ⟨C3, 1, none⟩ = some (.int .i64 q2) := by
                  intro w' hb
                  have r1 := RG20.out.keep (hb.loc _ HL4.out.2.2.2.2.1)
                  have r2 := RN20.out.keep (hb.loc _ HL4.out.2.1)
                  exact ⟨(r1.cell 0).trans rfl, (r1.cell 1).trans rfl, (r1.cell 2).trans rfl, (r2.cell 0).trans rfl, (r2.cell 1).trans rfl⟩
                apply wp_region_once 12 _ (by kernel_rfl) (by kernel_rfl) (by decide) (fun d w' => KeptP B L4 w20 w' ∧ WB B L4 w' b t dm (if d then (((st.delE gd gname).put (setLinks ⟨m1, m2, m3, m4, m5, m6⟩ (max (m3 - 1) 0))).delE fd fname).addE gd ⟨gname, q1, q2⟩ else (((st.delE gd gname).put (setLinks ⟨m1, m2, m3, m4, m5, m6⟩ (max (m3 - 1) 0))).delE fd fname))) ⟨G20.out.tree.kept (Below.refl _ _).drew, G20.out.tree.below (Below.refl _ _).drew⟩
                repeat (first
                  | (apply once_skip (by rfl) (by decide)
                     simp only [Act.put, List.setIfInBounds_toArray, List.set_cons_zero, List.set_cons_succ])
                  | (apply once_fix (by rfl) (by rfl)
                     · intro d w' hc R hR
                       have hS := S w' hc.1
                       go_simp
                       exact hR
                     simp only [Act.put, List.setIfInBounds_toArray, List.set_cons_zero, List.set_cons_succ])
                  | (apply once_call (by rfl) (by rfl)
                     · intro w' hc
                       go_simp
                       refine (tadd_ok (HA20.out.kept HL4.out.2.2.1 hc.1) HL4.out.2.2.1 (show WB B L4 w' b t dm (((st.delE gd gname).put (setLinks ⟨m1, m2, m3, m4, m5, m6⟩ (max (m3 - 1) 0))).delE fd fname) from hc.2) (by have := HGP.out.1; have := HGP.out.2.1; omega) HADD.out.1 ⟨gname, q1, q2⟩ HADD.out.2 (HE20.out.keep hc.1.below).toEnv).mono ?_
                       rintro e w'' ⟨rfl, h11, k11⟩
                       exact ⟨_, rfl, rfl, hc.1.trans k11, h11⟩
                     simp only [Act.put, List.setIfInBounds_toArray, List.set_cons_zero, List.set_cons_succ]))
                refine once_nil (fun w22 hc => ?_)
                have G22 := Lib.hid (G20.out.then (show WB B L4 w22 b t dm ((((st.delE gd gname).put (setLinks ⟨m1, m2, m3, m4, m5, m6⟩ (max (m3 - 1) 0))).delE fd fname).addE gd ⟨gname, q1, q2⟩) from hc.2) hc.1)
                clear S hc
                go_wp2
                rw [← HP.out]
                unfold UnlR
                rw [HQ.out]
                refine ⟨by first | done | rfl, ?_, G22.out.out.2⟩
                unfold moveS
                simp only
                rw [if_neg (by exact HK2.out)]
                exact G22.out.out.1
              · obtain ⟨ad, had⟩ := errOf_some (E := E) hz
                have HQ : Hid (R = (oc, 0, st)) := Lib.hid (by
                  rw [← HRF4.out, HRC.out]
                  exact if_pos (show oc ≠ 0 by omega))
                rw [had]
                have CE := Lib.hid had
                clear had hz
                go_wp2
                rw [← HP.out]
                unfold UnlR
                rw [HQ.out]
                exact ⟨by rw [CE.out]; first | done | rfl, G9.out.out.1, G9.out.out.2⟩

      · obtain ⟨ad, had⟩ := errOf_some (E := E) hz
        have HQ : Hid (R = (gc, 0, st)) := Lib.hid (by rw [← HRF2.out]; exact if_pos (show gc ≠ 0 by omega))
        rw [had]
        have CE := Lib.hid had
        clear had hz
        go_wp2
        rw [← HP.out]
        unfold UnlR
        rw [HQ.out]
        exact ⟨by rw [CE.out]; first | done | rfl, G6.out.out.1, G6.out.out.2⟩
    · obtain ⟨ad, had⟩ := errOf_some (E := E) hz
      have HQ : Hid (R = (fc, 0, st)) := Lib.hid (by rw [← HRF.out]; exact if_pos (show fc ≠ 0 by omega))
      rw [had]
      have CE := Lib.hid had
      clear had hz
      go_wp2
      rw [← HP.out]
      unfold UnlR
      rw [HQ.out]
      have g := ((G4.out.alloc (.cells #[.int .i64 fd, .int .i64 fn, .string fname] 127)).alloc (.cells #[.int .i64 q1, .int .i64 q2, .int .i64 q3, .int .i64 q4, .string q5, .int .i64 q6] 59)).out
      exact ⟨by rw [CE.out]; first | done | rfl, g.1, g.2⟩
  · obtain ⟨ad, had⟩ := errOf_some (E := E) hz
    have HQ : Hid (R = (c, 0, st)) := Lib.hid (by
      rw [← HR.out]
      rcases HC.out with ⟨h1, h2⟩ | ⟨h1, h2, _⟩
      · rw [if_pos h1, h2]
      · rw [if_neg (by simp [h1]), if_pos (by rw [← h2]; omega), h2])
    rw [had]
    have CE := Lib.hid had
    clear had hz
    go_wp2_with fail
    try rw [← HW3.out]
    rw [← HP.out]
    unfold UnlR
    rw [HQ.out]
    have bb := B2.out.trans (B23.out.mono B2.out.size)
    exact ⟨by rw [CE.out]; first | done | rfl, H.out.below bb, H.out.kept bb⟩
end
end Go.Proofs.YtjekpbkmhgfhoaaGreatDoor
end

section
/- A tree in the hands of a law: what a law's own world holds (TS), and what each call on the tree leaves of it. -/
namespace Go.Proofs.YtjekpbkmhgfhoaaGreatDoor
open Go Go.RowKit
set_option maxRecDepth 100000
set_option linter.unusedSimpArgs false
set_option linter.unusedVariables false
variable {E : Nat → Addr} {B : Nat}
structure TS (E : Nat → Addr) (B : Nat) (L : Nat → Prop) (a b t dm : Nat) (w0 : World) (st : St) (w : World) : Prop where
  ta : TA w a b
  la : L a
  wb : WB B L w b t dm st
  full : Full st
  env : EnvM E B w
  bel : Below B w0 w
section
variable {L : Nat → Prop} {a b t dm : Nat} {w0 w w' : World} {st st' : St}
theorem TS.kept (h : TS E B L a b t dm w0 st w) (f : Full st') (h2 : WB B L w' b t dm st') (k : KeptP B L w w') : TS E B L a b t dm w0 st' w' :=
  ⟨h.ta.kept h.la k, h.la, h2, f, h.env.keep k.below, h.bel.trans k.below⟩
theorem TS.below (h : TS E B L a b t dm w0 st w) (hb : Below w.heap.size w w') : TS E B L a b t dm w0 st w' :=
  ⟨h.ta.below hb, h.la, h.wb.below hb, h.full, h.env.below hb, h.bel.trans (hb.mono h.env.size)⟩
theorem WL.touch {nd : Int → Option Nd} {n : Nat} {last : Int} {de : Int → List En} {Q : Dirs → Prop} {S : Nat → Prop} (h : WL B L w b t dm nd n last de Q) (ht : Touch S w w') (hS : ∀ x, S x → L x) : WL B L w' b t dm nd n last de Q := by
  obtain ⟨h1, h2, nm, dirs, pn, lab, h3, h4, h5⟩ := h
  exact ⟨Nat.le_trans h1 ht.size, fun x hx => Nat.lt_of_lt_of_le (h2 x hx) ht.size, nm, dirs, pn, lab, h3.touch ht (fun x hx hs => (h4 x hx).2 (hS x hs)), h4, h5⟩
theorem ts_make (h : TS E B L a b t dm w0 st w) (s to : ByteArray) (k : Int) {c id : Int} {v : Value} (hc : (makeT st s k to).1 = c) (hi : (makeT st s k to).2.1 = id) (hs : (makeT st s k to).2.2 = st') (hv : errOf E c = v) (h0 : (parseP s).1 = 0) (hk : 1 ≤ k ∧ k ≤ 3) :
    Calls Tryz.prog 57 #[.pointer (some ⟨a, 0, none⟩), .string s, .int .i64 k, .string to] w fun e w' => e = .returned (.tuple #[.int .i64 id, v]) ∧ TS E B L a b t dm w0 st' w' ∧ KeptP B L w w' := by
  subst hc hi hs hv
  refine (tmake_ok h.ta h.la h.wb h.full s to h.env h0 hk).mono ?_
  rintro e w' ⟨h1, h2, h3⟩
  exact ⟨h1, h.kept (makeT_full h.full s k to) h2 h3, h3⟩
theorem ts_unlink (h : TS E B L a b t dm w0 st w) (s : ByteArray) {c id : Int} {v : Value} (hc : (unlinkT st s).1 = c) (hi : (unlinkT st s).2.1 = id) (hs : (unlinkT st s).2.2 = st') (hv : errOf E c = v) :
    Calls Tryz.prog 34 #[.pointer (some ⟨a, 0, none⟩), .string s] w fun e w' => e = .returned (.tuple #[.int .i64 id, v]) ∧ TS E B L a b t dm w0 st' w' ∧ KeptP B L w w' := by
  subst hc hi hs hv
  refine (tunlink_any h.ta h.la h.wb h.full s h.env).mono ?_
  rintro e w' ⟨h1, h2, h3⟩
  exact ⟨h1, h.kept (unlinkT_full h.full s) h2 h3, h3⟩
theorem ts_rename (h : TS E B L a b t dm w0 st w) (x y : ByteArray) {c id : Int} {v : Value} (hc : (renameT st x y).1 = c) (hi : (renameT st x y).2.1 = id) (hs : (renameT st x y).2.2 = st') (hv : errOf E c = v) :
    Calls Tryz.prog 37 #[.pointer (some ⟨a, 0, none⟩), .string x, .string y] w fun e w' => e = .returned (.tuple #[.int .i64 id, v]) ∧ TS E B L a b t dm w0 st' w' ∧ KeptP B L w w' := by
  subst hc hi hs hv
  refine (trename_any h.ta h.la h.wb h.full x y h.env).mono ?_
  rintro e w' ⟨h1, h2, h3⟩
  exact ⟨h1, h.kept (renameT_full h.full x y) h2 h3, h3⟩
theorem ts_look (h : TS E B L a b t dm w0 st w) (s : ByteArray) (follow : Bool) {c : Int} {n : Nd} {v : Value} (hc : (lookT st s follow).1 = c) (hn : (lookT st s follow).2 = n) (hv : errOf E c = v) :
    Calls Tryz.prog 24 #[.pointer (some ⟨a, 0, none⟩), .string s, .bool follow] w fun e w' => e = .returned (.tuple #[encN n, v]) ∧ TS E B L a b t dm w0 st w' ∧ KeptP B L w w' := by
  subst hc hn hv
  refine (tlook_any h.ta h.la h.wb h.full s follow h.env).mono ?_
  rintro e w' ⟨h1, h2, h3⟩
  exact ⟨h1, h.kept h.full h2 h3, h3⟩
theorem ts_entries (h : TS E B L a b t dm w0 st w) {n : Int} (hn : st.count = n) :
    Calls Tryz.prog 39 #[.pointer (some ⟨a, 0, none⟩)] w fun e w' => e = .returned (.int .i64 n) ∧ TS E B L a b t dm w0 st w' ∧ KeptP B L w w' := by
  subst hn
  refine (tentries_any h.ta h.la h.wb h.full).mono ?_
  rintro e w' ⟨h1, h2, h3⟩
  exact ⟨h1, h.kept h.full h2 h3, h3⟩
theorem ts_free (h : TS E B L a b t dm w0 st w) {k : Int} {r : Bool} (hr : (freeT st k).1 = r) (hs : (freeT st k).2 = st') (hk : -9223372036854775808 ≤ k ∧ k ≤ 9223372036854775807) :
    Calls Tryz.prog 70 #[.pointer (some ⟨a, 0, none⟩), .int .i64 k] w fun e w' => e = .returned (.bool r) ∧ TS E B L a b t dm w0 st' w' ∧ KeptP B L w w' := by
  subst hr hs
  refine (tfree_any h.ta h.wb h.full hk).mono ?_
  rintro e w' ⟨h1, h2, h3⟩
  exact ⟨h1, h.kept (freeT_full h.full k) h2 h3, h3⟩
end
end Go.Proofs.YtjekpbkmhgfhoaaGreatDoor
end

section
/- The walks of package tree: Of, List, Clone. -/
namespace Go.Proofs.YtjekpbkmhgfhoaaGreatDoor
open Go Go.RowKit
set_option maxRecDepth 100000
set_option linter.unusedSimpArgs false
set_option linter.unusedVariables false
attribute [local go_sem] giv
variable {E : Nat → Addr} {B : Nat}
section
variable {L : Nat → Prop} {a b t dm : Nat} {w0 w : World} {st : St}
theorem tclone_any (h : TS E B L a b t dm w0 st w) : Calls Tryz.prog 106 #[.pointer (some ⟨a, 0, none⟩)] w fun e w' =>
    (∃ a' b' t' dm', e = .returned (.pointer (some ⟨a', 0, none⟩)) ∧ w.heap.size ≤ a' ∧ TA w' a' b' ∧ WB w.heap.size (fun x => x = a') w' b' t' dm' st) ∧ Below w.heap.size w w' := by
  have H := Lib.hid h
  obtain ⟨a0, al⟩ := h.ta
  generalize hP : (fun (e : Ending) (w' : World) => (∃ a' b' t' dm', e = .returned (.pointer (some ⟨a', 0, none⟩)) ∧ w.heap.size ≤ a' ∧ TA w' a' b' ∧ WB w.heap.size (fun x => x = a') w' b' t' dm' st) ∧ Below w.heap.size w w') = Post
  have HP := Lib.hid hP
  clear h hP
  go_enter Tryz.func106, Tryz.ntmps106
  go_wp2_with fail
  refine (wclone_any H.out.wb H.out.full).mono ?_
  rintro e w1 ⟨⟨b', t', dm', rfl, hw⟩, hb1⟩
  have HW := Lib.hid hw
  have HB := Lib.hid hb1
  clear hw hb1 a0 al
  go_wp2
  rw [← HP.out]
  refine ⟨⟨w1.heap.size, b', t', dm', rfl, HB.out.size, ⟨by simp, by simp⟩, HW.out.loc' (bl_alloc (Below.refl _ _) _) (fun x hx => ?_)⟩, bl_alloc HB.out _⟩
  right
  subst hx
  simp
end
end Go.Proofs.YtjekpbkmhgfhoaaGreatDoor
end
