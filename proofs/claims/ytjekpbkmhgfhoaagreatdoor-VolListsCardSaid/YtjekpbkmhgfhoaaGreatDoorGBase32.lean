/- Merged texts: TreeEnt TreeTS TreeOf. -/
import Derived.Test.YtjekpbkmhgfhoaaGreatDoorGBase25
import Derived.Test.YtjekpbkmhgfhoaaGreatDoorGBase21
import Derived.Test.YtjekpbkmhgfhoaaGreatDoorGBase27
import Derived.IntWalk
import Derived.Test.YtjekpbkmhgfhoaaGreatDoorGBase31
import Derived.Test.YtjekpbkmhgfhoaaGreatDoorGBase02
import Derived.Test.YtjekpbkmhgfhoaaGreatDoorGBase28
import Derived.Test.YtjekpbkmhgfhoaaGreatDoorGBase18
section
/- The walks of package tree: Entries, Within. -/
namespace Go.Proofs.YtjekpbkmhgfhoaaGreatDoor
open Go Go.RowKit
set_option maxRecDepth 100000
set_option linter.unusedSimpArgs false
set_option linter.unusedVariables false
attribute [local go_sem] giv
variable {E : Nat → Addr} {B : Nat}

theorem SortedKeys.uniq {V : Type} {g : Int → Option V} {l m : List Int} (h1 : SortedKeys g l) (h2 : l.Pairwise (· < ·)) (h3 : m.Pairwise (· < ·)) (h4 : ∀ k, k ∈ m ↔ (g k).isSome = true) : l = m := by
  have key : ∀ {l m : List Int}, l.Pairwise (· < ·) → m.Pairwise (· < ·) → (∀ k, k ∈ l ↔ k ∈ m) → l = m := by
    intro l
    induction l with
    | nil =>
      intro m _ _ h
      cases m with
      | nil => rfl
      | cons b m => exact absurd ((h b).2 (List.mem_cons_self ..)) (by simp)
    | cons a l ih =>
      intro m h1 h2 h
      cases m with
      | nil => exact absurd ((h a).1 (List.mem_cons_self ..)) (by simp)
      | cons b m =>
        obtain ⟨h3, h4⟩ := List.pairwise_cons.1 h1
        obtain ⟨h5, h6⟩ := List.pairwise_cons.1 h2
        have hab : a = b := by
          have h7 := (h a).1 (List.mem_cons_self ..)
          have h8 := (h b).2 (List.mem_cons_self ..)
          rcases List.mem_cons.1 h7 with h7 | h7
          · exact h7
          · rcases List.mem_cons.1 h8 with h8 | h8
            · exact h8.symm
            · have := h5 a h7; have := h3 b h8; omega
        subst hab
        rw [ih h4 h6 fun k => ⟨fun hk => ?_, fun hk => ?_⟩]
        · have h9 := h3 k hk
          rcases List.mem_cons.1 ((h k).1 (List.mem_cons_of_mem _ hk)) with rfl | h7
          · omega
          · exact h7
        · have h9 := h5 k hk
          rcases List.mem_cons.1 ((h k).2 (List.mem_cons_of_mem _ hk)) with rfl | h7
          · omega
          · exact h7
  exact key h2 h3 fun k => (h1.mem k).trans (h4 k).symm
section
variable {L : Nat → Prop} {w : World} {a b t dm : Nat} {st : St}
theorem ids_sorted (f : Full st) {ks : List Int} (h : SortedKeys st.nd ks) : ks = st.ns.map fun r => r.nd.id := by
  refine h.uniq h.rise ?_ fun k => ?_
  · rw [List.pairwise_map]; exact f.rise
  · constructor
    · intro hk
      obtain ⟨r, hr, rfl⟩ := List.mem_map.1 hk
      unfold St.nd
      rw [f.get_mem hr]; rfl
    · intro hk
      unfold St.nd at hk
      cases hg : st.get k with
      | none => rw [hg] at hk; cases hk
      | some r => exact List.mem_map.2 ⟨r, findN_mem hg, findN_id hg⟩
theorem wl_all (h : WB B L w b t dm st) (f : Full st) : Calls Tryz.prog 44 #[.pointer (some ⟨t, 0, none⟩)] w fun e w' =>
    (∃ sp cap, e = .returned (.slice sp st.ns.length cap) ∧ SlVals w' w.heap.size (.slice sp st.ns.length cap) (st.ns.map fun r => .int .i64 r.nd.id)) ∧ Below w.heap.size w w' := by
  obtain ⟨h1, h2, nm, dirs, pn, lab, h3, h4, h5⟩ := h
  refine (nall_any h3.nodes (Nat.le_trans f.len (by decide))).mono ?_
  rintro e w' ⟨⟨v, ks, rfl, hs, hk, hn⟩, hb⟩
  have hks := ids_sorted f hk
  subst hks
  rw [List.map_map] at hs
  refine ⟨?_, hb⟩
  rcases hs with ⟨rfl, hx⟩ | ⟨h, cap, rfl, hx⟩
  · have : st.ns = [] := by simpa using hx
    exact ⟨none, 0, by rw [this]; rfl, .inl ⟨by rw [this]; rfl, by rw [this]; rfl⟩⟩
  · refine ⟨some ⟨h, 0, none⟩, cap, by simp, .inr ⟨h, cap, by simp, hx.1, hx.2.1, by have := hx.2.2.1; simpa using this, fun i hi => ?_⟩⟩
    exact hx.2.2.2 i (by simpa using hi)
set_option maxHeartbeats 1000000 in
theorem tentries_any (ha : TA w a b) (hl : L a) (h : WB B L w b t dm st) (f : Full st) :
    Calls Tryz.prog 39 #[.pointer (some ⟨a, 0, none⟩)] w fun e w' => e = .returned (.int .i64 st.count) ∧ WB B L w' b t dm st ∧ KeptP B L w w' := by
  have H := Lib.hid h
  have HF := Lib.hid f
  have HA := Lib.hid ha
  have HLA := Lib.hid hl
  have hcl := cnt_le f
  have hlen := f.len
  rw [count_cntL]
  generalize hP : (fun (e : Ending) (w' : World) => e = .returned (.int .i64 (cntL st.ns : Nat)) ∧ WB B L w' b t dm st ∧ KeptP B L w w') = Post
  have HP := Lib.hid hP
  have HCL := Lib.hid hcl
  have HLEN := Lib.hid hlen
  obtain ⟨a0, al⟩ := HA.out
  have b0 := H.out.c0
  have bl0 := H.out.lt.1
  clear hP h f ha hl hcl hlen
  go_enter Tryz.func39, Tryz.ntmps39
  go_wp2_with fail
  refine (wl_all H.out HF.out).mono ?_
  rintro e w1 ⟨⟨sp, cap, rfl, hs⟩, hb⟩
  obtain ⟨L1, hL1⟩ : ∃ L1 : Nat → Prop, L1 = fun x => (Value.slice sp st.ns.length cap).ownBlock = some x ∨ L x := ⟨_, rfl⟩
  have hown : ∀ x, (Value.slice sp st.ns.length cap).ownBlock = some x → w.heap.size ≤ x ∧ x < w1.heap.size := by
    intro x hx
    rcases hs with ⟨h1, _⟩ | ⟨h, c, h1, h2, h3, _⟩
    · rw [h1] at hx; cases hx
    · rw [h1] at hx; cases hx; exact ⟨h2, h3⟩
  have G1 : Hid (Gd B L L1 w b t dm st (fun x => (Value.slice sp st.ns.length cap).ownBlock = some x) w1) := Lib.hid (by rw [hL1]; exact Gd.first H.out hb hown)
  have HLs : Hid (L1 a) := Lib.hid (by rw [hL1]; exact .inr HLA.out)
  have HLo : Hid (∀ x, (Value.slice sp st.ns.length cap).ownBlock = some x → L1 x) := Lib.hid (fun x hx => by rw [hL1]; exact .inl hx)
  have HS := Lib.hid hs
  have HA1 := Lib.hid (HA.out.below hb)
  clear hs hb hL1 hown a0 al b0 bl0
  go_wp2_with fail
  go_loopw [3, 17] (fun s v wr => ∃ j : Nat, j ≤ st.ns.length ∧ v = .int .i64 j ∧ s = .int .i64 (cntL (st.ns.take j) : Nat) ∧ Hid (Gd B L L1 w b t dm st (fun _ => False) wr ∧ KeptP B L1 w1 wr)) (fun _ v _ => st.ns.length - (intOf v).toNat)
  case atStart => exact ⟨0, Nat.zero_le _, rfl, rfl, Lib.hid ⟨G1.out.less (fun _ h => h.elim), KeptP.refl _ _ _⟩⟩
  case round =>
    obtain ⟨j, hj, rfl, rfl, HI⟩ := hrel
    have hlen := HLEN.out
    have hct : cntL (st.ns.take j) ≤ 8192 := Nat.le_trans (cntL_take_le _ _) HCL.out
    have HAr := Lib.hid (HA1.out.kept HLs.out HI.out.2)
    by_cases hlt : j < st.ns.length
    · obtain ⟨r, hr⟩ : ∃ r, st.ns[j] = r := ⟨_, rfl⟩
      have hmem : r ∈ st.ns := hr ▸ List.getElem_mem hlt
      obtain ⟨hh, c2, hsp, -, hhl, -, hcell⟩ : ∃ h c, (Value.slice sp st.ns.length cap) = .slice (some ⟨h, 0, none⟩) st.ns.length c ∧ w.heap.size ≤ h ∧ h < w1.heap.size ∧ True ∧ ∀ i, i < st.ns.length → w1.cell? ⟨h, i, none⟩ = (st.ns.map fun r => Value.int .i64 r.nd.id)[i]? := by
        rcases HS.out with ⟨_, h2⟩ | ⟨h, c, h1, h2, h3, _, h5⟩
        · have : st.ns = [] := by simpa using h2
          rw [this] at hlt; cases hlt
        · exact ⟨h, c, by simpa using h1, h2, h3, trivial, fun i hi => h5 i (by simpa using hi)⟩
      injection hsp with e1 e2 e3
      subst e1 e3
      have hLh : L1 hh := HLo.out hh rfl
      have cj : wr.cell? ⟨hh, j, none⟩ = some (.int .i64 r.nd.id) := by
        rw [HI.out.2.cell hLh j, hcell j hlt]
        simp [hr, hlt]
      have hhw : hh < wr.heap.size := HI.out.1.tree.2.1 _ hLh
      have hid : 1 ≤ r.nd.id ∧ r.nd.id ≤ 16777215 := by have := valid_ids (HF.out.val r hmem); omega
      have hcs := cntL_take st.ns j hlt
      rw [hr] at hcs
      have hct2 : cntL (st.ns.take (j + 1)) ≤ 8192 := Nat.le_trans (cntL_take_le _ _) HCL.out
      obtain ⟨a0, al⟩ := HAr.out
      have HG := Lib.hid (HF.out.get_mem hmem)
      have HCS := Lib.hid hcs
      obtain ⟨ct, hct0⟩ : ∃ ct, cntL (st.ns.take j) = ct := ⟨_, rfl⟩
      rw [hct0] at hct hcs
      have HCT := Lib.hid hct0
      rw [hct0]
      have hel : r.ents.length ≤ 8192 := by omega
      clear hcell hr hcs hmem hct0
      generalize hri : r.nd.id = id at *
      have HRI := Lib.hid hri
      clear hri
      by_cases hk : r.nd.kind = 2
      · have hd : st.isDir id = true := by unfold St.isDir; rw [HG.out]; simp [hk]
        have HD := Lib.hid hd
        have HEN : Hid ((st.ents id).length = r.ents.length) := Lib.hid (by unfold St.ents; rw [HG.out]; rfl)
        clear hd hk
        go_wp2_with fail
        refine (wDir_yes HI.out.1.tree (by omega) HD.out).mono ?_
        rintro e w2 ⟨x, rfl, h2, k2⟩
        have H2 := Lib.hid h2
        have G2 := Lib.hid (HI.out.1.then h2.wb k2)
        have K2 := Lib.hid (HI.out.2.trans k2)
        clear h2 k2 a0 al cj
        go_wp2_with fail
        refine (wl_dlen H2.out (fun d hd => hd.2)).mono ?_
        rw [HEN.out]
        rintro e w3 ⟨rfl, rfl⟩
        go_wp2
        go_roundw
        case rel => exact ⟨j + 1, by omega, by go_num, by rw [HCS.out, HCT.out]; go_num, Lib.hid ⟨G2.out, K2.out⟩⟩
        case measure => simp [intOf]; omega
      · have hd : st.isDir id = false := by unfold St.isDir; rw [HG.out]; simp [hk]
        have HD := Lib.hid hd
        have HEN : Hid (r.ents.length = 0) := Lib.hid (by rw [HF.out.flat r (findN_mem HG.out) hk]; rfl)
        clear hd hk
        go_wp2_with fail
        refine (wDir_no HI.out.1.tree (by omega) HD.out).mono ?_
        rintro e w2 ⟨rfl, hb2⟩
        have G2 := Lib.hid (HI.out.1.below hb2)
        have K2 := Lib.hid (HI.out.2.trans (HI.out.1.tree.kept hb2))
        clear hb2 a0 al cj
        go_wp2
        go_roundw
        case rel => exact ⟨j + 1, by omega, by go_num, by rw [HCS.out, HCT.out, HEN.out]; rfl, Lib.hid ⟨G2.out, K2.out⟩⟩
        case measure => simp [intOf]; omega
    · obtain rfl : j = st.ns.length := by omega
      go_wp2
      rw [← HP.out]
      refine ⟨?_, HI.out.1.out.1, HI.out.1.out.2⟩
      rw [List.take_length]
      rfl
end
end Go.Proofs.YtjekpbkmhgfhoaaGreatDoor
end

section
/- A tree in the hands of a law: what a law's own world holds (TS), and what each call on the tree leaves of it. -/
namespace Go.Proofs.YtjekpbkmhgfhoaaGreatDoor
open Go Go.RowKit
set_option maxRecDepth 100000
set_option linter.unusedSimpArgs false
set_option linter.unusedVariables false
variable {E : Nat → Addr} {B : Nat}
structure TS (E : Nat → Addr) (B : Nat) (L : Nat → Prop) (a b t dm : Nat) (w0 : World) (st : St) (w : World) : Prop where
  ta : TA w a b
  la : L a
  wb : WB B L w b t dm st
  full : Full st
  env : EnvM E B w
  bel : Below B w0 w
section
variable {L : Nat → Prop} {a b t dm : Nat} {w0 w w' : World} {st st' : St}
theorem TS.kept (h : TS E B L a b t dm w0 st w) (f : Full st') (h2 : WB B L w' b t dm st') (k : KeptP B L w w') : TS E B L a b t dm w0 st' w' :=
  ⟨h.ta.kept h.la k, h.la, h2, f, h.env.keep k.below, h.bel.trans k.below⟩
theorem TS.below (h : TS E B L a b t dm w0 st w) (hb : Below w.heap.size w w') : TS E B L a b t dm w0 st w' :=
  ⟨h.ta.below hb, h.la, h.wb.below hb, h.full, h.env.below hb, h.bel.trans (hb.mono h.env.size)⟩
theorem WL.touch {nd : Int → Option Nd} {n : Nat} {last : Int} {de : Int → List En} {Q : Dirs → Prop} {S : Nat → Prop} (h : WL B L w b t dm nd n last de Q) (ht : Touch S w w') (hS : ∀ x, S x → L x) : WL B L w' b t dm nd n last de Q := by
  obtain ⟨h1, h2, nm, dirs, pn, lab, h3, h4, h5⟩ := h
  exact ⟨Nat.le_trans h1 ht.size, fun x hx => Nat.lt_of_lt_of_le (h2 x hx) ht.size, nm, dirs, pn, lab, h3.touch ht (fun x hx hs => (h4 x hx).2 (hS x hs)), h4, h5⟩
theorem ts_make (h : TS E B L a b t dm w0 st w) (s to : ByteArray) (k : Int) {c id : Int} {v : Value} (hc : (makeT st s k to).1 = c) (hi : (makeT st s k to).2.1 = id) (hs : (makeT st s k to).2.2 = st') (hv : errOf E c = v) (h0 : (parseP s).1 = 0) (hk : 1 ≤ k ∧ k ≤ 3) :
    Calls Tryz.prog 57 #[.pointer (some ⟨a, 0, none⟩), .string s, .int .i64 k, .string to] w fun e w' => e = .returned (.tuple #[.int .i64 id, v]) ∧ TS E B L a b t dm w0 st' w' ∧ KeptP B L w w' := by
  subst hc hi hs hv
  refine (tmake_ok h.ta h.la h.wb h.full s to h.env h0 hk).mono ?_
  rintro e w' ⟨h1, h2, h3⟩
  exact ⟨h1, h.kept (makeT_full h.full s k to) h2 h3, h3⟩
theorem ts_look (h : TS E B L a b t dm w0 st w) (s : ByteArray) (follow : Bool) {c : Int} {n : Nd} {v : Value} (hc : (lookT st s follow).1 = c) (hn : (lookT st s follow).2 = n) (hv : errOf E c = v) :
    Calls Tryz.prog 24 #[.pointer (some ⟨a, 0, none⟩), .string s, .bool follow] w fun e w' => e = .returned (.tuple #[encN n, v]) ∧ TS E B L a b t dm w0 st w' ∧ KeptP B L w w' := by
  subst hc hn hv
  refine (tlook_any h.ta h.la h.wb h.full s follow h.env).mono ?_
  rintro e w' ⟨h1, h2, h3⟩
  exact ⟨h1, h.kept h.full h2 h3, h3⟩
theorem ts_entries (h : TS E B L a b t dm w0 st w) {n : Int} (hn : st.count = n) :
    Calls Tryz.prog 39 #[.pointer (some ⟨a, 0, none⟩)] w fun e w' => e = .returned (.int .i64 n) ∧ TS E B L a b t dm w0 st w' ∧ KeptP B L w w' := by
  subst hn
  refine (tentries_any h.ta h.la h.wb h.full).mono ?_
  rintro e w' ⟨h1, h2, h3⟩
  exact ⟨h1, h.kept h.full h2 h3, h3⟩
end
end Go.Proofs.YtjekpbkmhgfhoaaGreatDoor
end

section
/- The walks of package tree: Of, List, Clone. -/
namespace Go.Proofs.YtjekpbkmhgfhoaaGreatDoor
open Go Go.RowKit
set_option maxRecDepth 100000
set_option linter.unusedSimpArgs false
set_option linter.unusedVariables false
attribute [local go_sem] giv
variable {E : Nat → Addr} {B : Nat}
section
variable {L : Nat → Prop} {a b t dm : Nat} {w0 w : World} {st : St}
theorem tclone_any (h : TS E B L a b t dm w0 st w) : Calls Tryz.prog 106 #[.pointer (some ⟨a, 0, none⟩)] w fun e w' =>
    (∃ a' b' t' dm', e = .returned (.pointer (some ⟨a', 0, none⟩)) ∧ w.heap.size ≤ a' ∧ TA w' a' b' ∧ WB w.heap.size (fun x => x = a') w' b' t' dm' st) ∧ Below w.heap.size w w' := by
  have H := Lib.hid h
  obtain ⟨a0, al⟩ := h.ta
  generalize hP : (fun (e : Ending) (w' : World) => (∃ a' b' t' dm', e = .returned (.pointer (some ⟨a', 0, none⟩)) ∧ w.heap.size ≤ a' ∧ TA w' a' b' ∧ WB w.heap.size (fun x => x = a') w' b' t' dm' st) ∧ Below w.heap.size w w') = Post
  have HP := Lib.hid hP
  clear h hP
  go_enter Tryz.func106, Tryz.ntmps106
  go_wp2_with fail
  refine (wclone_any H.out.wb H.out.full).mono ?_
  rintro e w1 ⟨⟨b', t', dm', rfl, hw⟩, hb1⟩
  have HW := Lib.hid hw
  have HB := Lib.hid hb1
  clear hw hb1 a0 al
  go_wp2
  rw [← HP.out]
  refine ⟨⟨w1.heap.size, b', t', dm', rfl, HB.out.size, ⟨by simp, by simp⟩, HW.out.loc' (bl_alloc (Below.refl _ _) _) (fun x hx => ?_)⟩, bl_alloc HB.out _⟩
  right
  subst hx
  simp
/-- The directory of a path: none. -/
theorem tof_bad (h : TS E B L a b t dm w0 st w) (s : ByteArray) (hc : (listT st s).1 ≠ 0) : Calls Tryz.prog 49 #[.pointer (some ⟨a, 0, none⟩), .string s] w fun e w' =>
    e = .returned (.tuple #[.pointer none, errOf E (listT st s).1]) ∧ TS E B L a b t dm w0 st w' ∧ KeptP B L w w' := by
  obtain ⟨R, hR⟩ : ∃ R, listT st s = R := ⟨_, rfl⟩
  rw [hR] at hc ⊢
  unfold listT at hR
  obtain ⟨⟨lc, n⟩, hl⟩ : ∃ r, lookT st s true = r := ⟨_, rfl⟩
  rw [hl] at hR
  simp only at hR
  have hlc := look_code st s true
  rw [hl] at hlc
  simp only at hlc
  have hok : lc = 0 → ∃ r, st.get n.id = some r ∧ r.nd = n := fun h0 => by
    obtain ⟨i, r, _, h2, h3⟩ := lookT_is (show lookT st s true = (0, n) by rw [hl, h0])
    have := findN_id h2
    refine ⟨r, ?_, h3⟩
    rw [← h3, this]
    exact h2
  have VL := Lib.hid (err_split (E := E) hlc)
  have HOK := Lib.hid hok
  have HR := Lib.hid hR
  have HC := Lib.hid hc
  have H := Lib.hid h
  have K1 := Lib.hid (ts_look h s true (c := lc) (n := n) (v := errOf E lc) (by rw [hl]) (by rw [hl]) rfl)
  generalize hP : (fun (e : Ending) (w' : World) => e = .returned (.tuple #[.pointer none, errOf E R.1]) ∧ TS E B L a b t dm w0 st w' ∧ KeptP B L w w') = Post
  have HP := Lib.hid hP
  clear h hP hl hR hlc hok hc
  obtain ⟨n1, n2, n3, n4, n5, n6⟩ := n
  unfold encN at K1
  simp only at K1
  go_enter Tryz.func49, Tryz.ntmps49
  go_wp2_with fail
  refine K1.out.mono ?_
  rintro e w1 ⟨rfl, ht, hk⟩
  have H1 := Lib.hid ht
  have HK1 := Lib.hid hk
  obtain ⟨w2, hw2⟩ : ∃ w2, w2 = w1.alloc (.cells #[.int .i64 n1, .int .i64 n2, .int .i64 n3, .int .i64 n4, .string n5, .int .i64 n6] 59) := ⟨_, rfl⟩
  have HW2 := Lib.hid hw2
  have bb : Below w1.heap.size w1 w2 := by rw [hw2]; exact bl_alloc (Below.refl w1.heap.size w1) _
  have HN := Lib.hid (show Row w2 w1.heap.size 59 [.int .i64 n1, .int .i64 n2, .int .i64 n3, .int .i64 n4, .string n5, .int .i64 n6] by rw [hw2]; exact Row.new _ _ _)
  have H2 := Lib.hid (ht.below bb)
  have HK2 := Lib.hid (hk.trans (ht.wb.kept bb))
  have hR1 := HR.out
  clear ht hk K1 bb hw2
  rcases VL.out with ⟨rfl, el⟩ | ⟨hlc, p, el⟩
  case inr =>
    rw [if_pos hlc] at hR1
    have HRF := Lib.hid hR1.symm
    have HEL := Lib.hid el
    rw [el]
    clear el hR1 hlc
    go_wp2
    rw [← HP.out, HRF.out]
    try rw [← HW2.out]
    simp only
    rw [HEL.out]
    first
      | exact ⟨rfl, H2.out, HK2.out⟩
      | (go_ret2; exact ⟨rfl, H2.out, HK2.out⟩)
  rw [el]
  rw [if_neg (by decide)] at hR1
  have hk2 : n2 ≠ 2 := fun e => by rw [if_neg (by rw [e]; decide)] at hR1; exact HC.out (by rw [← hR1])
  rw [if_pos hk2] at hR1
  have HRF := Lib.hid hR1.symm
  obtain ⟨r, hr, hrn⟩ := HOK.out rfl
  have hval := valid_ids (H2.out.full.val r (findN_mem hr))
  rw [hrn] at hval
  simp only at hval hr
  have HD : Hid (st.isDir n1 = false) := Lib.hid (by unfold St.isDir; rw [hr]; simp [hrn, hk2])
  clear hr hrn hk2 hR1 el VL HOK
  go_wp2_with fail
  rw [← HW2.out]
  obtain ⟨C, hC⟩ : ∃ C, w1.heap.size = C := ⟨_, rfl⟩
  rw [hC] at HN ⊢
  clear hC HW2
  have x0 := HN.out.cell' (i := 0) rfl
  have xl := HN.out.lt
  obtain ⟨a0, al⟩ := H2.out.ta
  have S : ∀ w', Below w2.heap.size w2 w' → w'.cell? ⟨a, 0, none⟩ = some (.pointer (some ⟨b, 0, none⟩)) ∧ w'.cell? ⟨C, 0, none⟩ = some (.int .i64 n1) := fun w' hb => ⟨(hb.cell (p := ⟨a, 0, none⟩) al).trans a0, (hb.cell (p := ⟨C, 0, none⟩) xl).trans x0⟩
  clear x0 a0 al
  have HV := Lib.hid hval
  apply wp_region_rel _ (by kernel_rfl) (by kernel_rfl) (fun w' => Below w2.heap.size w2 w') (fun w' w'' => Below w'.heap.size w' w'') (fun w' w'' h1 h2 => bl_trans h1 h2) (Below.refl _ _).drew
  repeat (first
    | (apply wpRel_skip (by rfl)
       simp only [Act.put, List.setIfInBounds_toArray, List.set_cons_zero, List.set_cons_succ])
    | (apply wpRel_fix (by rfl)
       · intro w' hC hf R hR
         have hS := S w' hC
         go_simp
         exact hR _ (Below.refl _ _)
       simp only [Act.put, List.setIfInBounds_toArray, List.set_cons_zero, List.set_cons_succ])
    | (apply wpRel_fix (by rfl)
       · intro w' hC hf R hR
         have hS := S w' hC
         go_simp
         refine (wDir_no (H2.out.wb.below hC) (by omega) HD.out).mono ?_
         rintro e w'' ⟨rfl, hb⟩
         exact ⟨_, rfl, hR _ hb⟩
       simp only [Act.put, List.setIfInBounds_toArray, List.set_cons_zero, List.set_cons_succ]))
  refine wpRel_nil (fun w3 hC hf => ?_)
  have H3 := Lib.hid (H2.out.below hC)
  have HK3 := Lib.hid (HK2.out.trans (H2.out.wb.kept hC))
  clear hC hf S
  have CE := Lib.hid (show errOf E 111 = errV E 7 from errOf_code (g := 7) (by decide))
  have e1 := H3.out.env.toEnv.cell 7 (by decide)
  have l1 : 7 < w3.heap.size := Nat.lt_of_lt_of_le (H3.out.env.toEnv.glt _ (by decide)) H3.out.env.toEnv.size
  go_wp2_with fail
  go_region
  go_wp2
  rw [← HP.out, HRF.out]
  simp only
  rw [CE.out]
  first
    | exact ⟨rfl, H3.out.below (Below.refl _ _).drew, HK3.out.trans (H3.out.wb.kept (Below.refl _ _).drew)⟩
    | (go_ret2; exact ⟨rfl, H3.out.below (Below.refl _ _).drew, HK3.out.trans (H3.out.wb.kept (Below.refl _ _).drew)⟩)
/-- The directory of a path. -/
theorem tof_ok (h : TS E B L a b t dm w0 st w) (s : ByteArray) (hc : (listT st s).1 = 0) : Calls Tryz.prog 49 #[.pointer (some ⟨a, 0, none⟩), .string s] w fun e w' =>
    (∃ k x, e = .returned (.tuple #[.pointer (some ⟨x, 0, none⟩), .nilIface]) ∧ WD B L w' b t dm st k x ∧ st.isDir k = true ∧ (listT st s).2 = st.ents k) ∧ TS E B L a b t dm w0 st w' ∧ KeptP B L w w' := by
  obtain ⟨R, hR⟩ : ∃ R, listT st s = R := ⟨_, rfl⟩
  rw [hR] at hc ⊢
  unfold listT at hR
  obtain ⟨⟨lc, n⟩, hl⟩ : ∃ r, lookT st s true = r := ⟨_, rfl⟩
  rw [hl] at hR
  simp only at hR
  have hlc := look_code st s true
  rw [hl] at hlc
  simp only at hlc
  have hok : lc = 0 → ∃ r, st.get n.id = some r ∧ r.nd = n := fun h0 => by
    obtain ⟨i, r, _, h2, h3⟩ := lookT_is (show lookT st s true = (0, n) by rw [hl, h0])
    have := findN_id h2
    refine ⟨r, ?_, h3⟩
    rw [← h3, this]
    exact h2
  have VL := Lib.hid (err_split (E := E) hlc)
  have HOK := Lib.hid hok
  have HR := Lib.hid hR
  have HC := Lib.hid hc
  have H := Lib.hid h
  have K1 := Lib.hid (ts_look h s true (c := lc) (n := n) (v := errOf E lc) (by rw [hl]) (by rw [hl]) rfl)
  generalize hP : (fun (e : Ending) (w' : World) => (∃ k x, e = .returned (.tuple #[.pointer (some ⟨x, 0, none⟩), .nilIface]) ∧ WD B L w' b t dm st k x ∧ st.isDir k = true ∧ R.2 = st.ents k) ∧ TS E B L a b t dm w0 st w' ∧ KeptP B L w w') = Post
  have HP := Lib.hid hP
  clear h hP hl hR hlc hok hc
  obtain ⟨n1, n2, n3, n4, n5, n6⟩ := n
  unfold encN at K1
  simp only at K1
  go_enter Tryz.func49, Tryz.ntmps49
  go_wp2_with fail
  refine K1.out.mono ?_
  rintro e w1 ⟨rfl, ht, hk⟩
  have H1 := Lib.hid ht
  have HK1 := Lib.hid hk
  obtain ⟨w2, hw2⟩ : ∃ w2, w2 = w1.alloc (.cells #[.int .i64 n1, .int .i64 n2, .int .i64 n3, .int .i64 n4, .string n5, .int .i64 n6] 59) := ⟨_, rfl⟩
  have HW2 := Lib.hid hw2
  have bb : Below w1.heap.size w1 w2 := by rw [hw2]; exact bl_alloc (Below.refl w1.heap.size w1) _
  have HBB := Lib.hid bb
  have HN := Lib.hid (show Row w2 w1.heap.size 59 [.int .i64 n1, .int .i64 n2, .int .i64 n3, .int .i64 n4, .string n5, .int .i64 n6] by rw [hw2]; exact Row.new _ _ _)
  have H2 := Lib.hid (ht.below bb)
  have HK2 := Lib.hid (hk.trans (ht.wb.kept bb))
  have hR1 := HR.out
  clear ht hk K1 bb hw2
  rcases VL.out with ⟨rfl, el⟩ | ⟨hlc, p, el⟩
  case inr =>
    rw [if_pos hlc] at hR1
    have h9 := HC.out
    rw [← hR1] at h9
    exact absurd h9 hlc
  rw [el]
  rw [if_neg (by decide)] at hR1
  have hk2 : n2 = 2 := Classical.byContradiction fun e => by
    rw [if_pos e] at hR1
    have h9 := HC.out
    rw [← hR1] at h9
    exact absurd h9 (by decide)
  rw [if_neg (fun e => e hk2)] at hR1
  have HRF := Lib.hid hR1.symm
  obtain ⟨r, hr, hrn⟩ := HOK.out rfl
  have hval := valid_ids (H2.out.full.val r (findN_mem hr))
  rw [hrn] at hval
  simp only at hval hr
  have HD : Hid (st.isDir n1 = true) := Lib.hid (by unfold St.isDir; rw [hr]; simp [hrn, hk2])
  clear hr hrn hk2 hR1 el VL HOK
  go_wp2_with fail
  rw [← HW2.out]
  have HCC0 := HN.out.lt
  obtain ⟨C, hC⟩ : ∃ C, w1.heap.size = C := ⟨_, rfl⟩
  have HCC : Hid (w1.heap.size ≤ C ∧ C < w2.heap.size) := Lib.hid ⟨Nat.le_of_eq hC, by rw [← hC]; exact HCC0⟩
  rw [hC] at HN ⊢
  clear hC HW2 HCC0
  obtain ⟨L1, hL1⟩ : ∃ L1 : Nat → Prop, L1 = fun x => x = C ∨ L x := ⟨_, rfl⟩
  have HW1 := Lib.hid (H1.out.wb.loc' (L' := L1) HBB.out (fun x hx => by
    rw [hL1] at hx
    rcases hx with hx | hx
    · right
      rw [hx]
      exact HCC.out
    · exact .inl hx))
  have HLs : Hid (L1 C ∧ ∀ x, L x → L1 x) := Lib.hid (by rw [hL1]; exact ⟨.inl rfl, fun x hx => .inr hx⟩)
  have x0 := HN.out.cell' (i := 0) rfl
  have xl := HN.out.lt
  obtain ⟨a0, al⟩ := H2.out.ta
  have HV := Lib.hid hval
  have S : ∀ w', (WB B L1 w' b t dm st ∧ KeptP B L1 w2 w') → w'.cell? ⟨a, 0, none⟩ = some (.pointer (some ⟨b, 0, none⟩)) ∧ w'.cell? ⟨C, 0, none⟩ = some (.int .i64 n1) ∧ C < w'.heap.size := fun w' hC =>
    ⟨(hC.2.cell (HLs.out.2 _ H2.out.la) 0).trans a0, (hC.2.cell HLs.out.1 0).trans x0, hC.1.2.1 C HLs.out.1⟩
  clear x0 a0 al hL1 hval
  apply wp_region_rel _ (by kernel_rfl) (by kernel_rfl) (fun w' => WB B L1 w' b t dm st ∧ KeptP B L1 w2 w') (fun w' w'' => ShD B L1 b t dm st n1 w' w'') (fun w' w'' h1 h2 => ⟨(h2.1 h1.1).1, h1.2.trans (h2.1 h1.1).2⟩) ⟨HW1.out.below (Below.refl _ _).drew, HW1.out.kept (Below.refl _ _).drew⟩
  repeat (first
    | (apply wpRel_skip (by rfl)
       simp only [Act.put, List.setIfInBounds_toArray, List.set_cons_zero, List.set_cons_succ])
    | (apply wpRel_fix (by rfl)
       · intro w' hC hf R hR
         have hS := S w' hC
         go_simp
         exact hR _ (ShD.refl _)
       simp only [Act.put, List.setIfInBounds_toArray, List.set_cons_zero, List.set_cons_succ]))
  apply wpRel_rel (DirT B L1 b t dm st n1) (by rfl) dirT_keep
  · intro w' hC hf R hR
    go_simp
    refine (wDir_keep hC.1 (by have := HV.out; omega) HD.out).mono ?_
    rintro e w'' ⟨x, rfl, h1, h2, h3⟩
    exact ⟨_, rfl, hR _ _ ⟨x, rfl, h1⟩ ⟨fun _ => ⟨h1.wb, h2⟩, h3⟩⟩
  intro v1
  simp only [Act.put, List.setIfInBounds_toArray, List.set_cons_zero, List.set_cons_succ]
  apply wpRel_rel (DirT B L1 b t dm st n1) (by rfl) dirT_keep
  · intro w' hC hf R hR
    have h1 := hf _ (List.mem_cons_self ..) (by kernel_rfl)
    go_simp
    exact hR _ _ h1 (ShD.refl _)
  intro v2
  simp only [Act.put, List.setIfInBounds_toArray, List.set_cons_zero, List.set_cons_succ]
  apply wpRel_rel (DirP B L1 b t dm st n1) (by rfl) dirP_keep
  · intro w' hC hf R hR
    obtain ⟨x, rfl, h1⟩ := hf _ (List.mem_cons_self ..) (by kernel_rfl)
    go_simp
    exact hR _ _ ⟨x, rfl, h1⟩ (ShD.refl _)
  intro v3
  simp only [Act.put, List.setIfInBounds_toArray, List.set_cons_zero, List.set_cons_succ]
  apply wpRel_fix (by rfl)
  · intro w' hC hf R hR
    obtain ⟨x, rfl, h1⟩ := hf _ (List.mem_cons_of_mem _ (List.mem_cons_self ..)) (by kernel_rfl)
    go_simp
    exact hR _ (ShD.refl _)
  simp only [Act.put, List.setIfInBounds_toArray, List.set_cons_zero, List.set_cons_succ]
  apply wpRel_rel (DirP B L1 b t dm st n1) (by rfl) dirP_keep
  · intro w' hC hf R hR
    have h1 := hf _ (List.mem_cons_self ..) (by kernel_rfl)
    go_simp
    exact hR _ _ h1 (ShD.refl _)
  intro v4
  simp only [Act.put, List.setIfInBounds_toArray, List.set_cons_zero, List.set_cons_succ]
  repeat (first
    | (apply wpRel_skip (by rfl)
       simp only [Act.put, List.setIfInBounds_toArray, List.set_cons_zero, List.set_cons_succ])
    | (apply wpRel_fix (by rfl)
       · intro w' hC hf R hR
         go_simp
         exact hR _ (ShD.refl _)
       simp only [Act.put, List.setIfInBounds_toArray, List.set_cons_zero, List.set_cons_succ]))
  refine wpRel_nil (fun w3 hC hf => ?_)
  obtain ⟨y, rfl, hwd⟩ := hf _ (List.mem_cons_self ..)
  have HWD := Lib.hid (hwd.less HLs.out.2)
  have HK3 := Lib.hid (HK2.out.trans (hC.2.mono HLs.out.2))
  have H3 := Lib.hid (H2.out.kept H2.out.full (hwd.less HLs.out.2).wb (hC.2.mono HLs.out.2))
  clear hf hC S hwd
  go_wp2
  rw [← HP.out, HRF.out]
  have hfin : (∃ k x, (Ending.returned (.tuple #[.pointer (some ⟨y, 0, none⟩), .nilIface]) : Ending) = .returned (.tuple #[.pointer (some ⟨x, 0, none⟩), .nilIface]) ∧ WD B L w3 b t dm st k x ∧ st.isDir k = true ∧ ((0, st.ents n1) : Int × List En).2 = st.ents k) ∧ TS E B L a b t dm w0 st w3 ∧ KeptP B L w w3 :=
    ⟨⟨n1, y, rfl, HWD.out, HD.out, rfl⟩, H3.out, HK3.out⟩
  first
    | exact hfin
    | (go_ret2; exact hfin)
end
end Go.Proofs.YtjekpbkmhgfhoaaGreatDoor
end
