/- Merged texts: TreeMake TreeMisc TreeLook. -/
import Derived.Test.YtjmbilbkmcebeaaDoorBase23
section
/- The walk of package tree's Make. -/
namespace Go.Proofs.YtjmbilbkmcebeaaDoor
open Go Go.RowKit
set_option maxRecDepth 100000
set_option linter.unusedSimpArgs false
set_option linter.unusedVariables false
attribute [local go_sem] giv
variable {E : Nat → Addr} {B : Nat}

theorem putN_twice {n n0 : Nd} (hid : n0.id = n.id) : ∀ (l : List NR), findN l n.id = none → putN n (putN n0 l) = putN n l
  | [], _ => by
    show putN n [⟨n0, []⟩] = [⟨n, []⟩]
    unfold putN
    rw [if_neg (by simp only; omega), if_pos (by simp only; exact hid.symm)]
    simp
  | r :: l, h => by
    rw [findN_cons] at h
    by_cases hr : r.nd.id = n.id
    · rw [if_pos hr] at h; cases h
    · rw [if_neg hr] at h
      have ih := putN_twice hid l h
      by_cases hlt : n.id < r.nd.id
      · rw [show putN n0 (r :: l) = ⟨n0, []⟩ :: r :: l by unfold putN; rw [if_pos (by omega)]]
        rw [show putN n (r :: l) = ⟨n, []⟩ :: r :: l by unfold putN; rw [if_pos hlt]]
        unfold putN
        rw [if_neg (by simp only; omega), if_pos (by simp only; exact hid.symm)]
        simp
      · rw [show putN n0 (r :: l) = r :: putN n0 l by conv => lhs; unfold putN; rw [if_neg (by omega), if_neg (by omega)]]
        rw [show putN n (r :: l) = r :: putN n l by conv => lhs; unfold putN; rw [if_neg hlt, if_neg (fun e => hr e.symm)]]
        conv => lhs; unfold putN; rw [if_neg hlt, if_neg (fun e => hr e.symm), ih]
theorem put_twice {st : St} {n n0 : Nd} (hid : n0.id = n.id) (hg : st.get n.id = none) : (st.put n0).put n = st.put n := by
  show (⟨max (max st.last n0.id) n.id, putN n (putN n0 st.ns)⟩ : St) = ⟨max st.last n.id, putN n st.ns⟩
  rw [putN_twice hid st.ns hg, hid]
  congr 1
  omega
section
variable {L : Nat → Prop} {w : World} {a b t dm : Nat} {st : St}
theorem wb_new (h : WB B L w b t dm st) (f : Full st) {k : Int} (hk : kindB k = true) (hn : st.ns.length < 512) (hl : st.last < 16777215) (hE : Env E B w) :
    Calls Tryd.prog 35 #[.pointer (some ⟨t, 0, none⟩), .int .i64 k] w fun e w' => e = .returned (.tuple #[.int .i64 (st.last + 1), .nilIface]) ∧
      WB B L w' b t dm (st.put (newNd (st.last + 1) k)) ∧ KeptP B L w w' := by
  have hlo := f.lo
  have hg : st.get (st.last + 1) = none := f.no (.inl (by omega))
  have hnd : st.nd (st.last + 1) = none := by unfold St.nd; rw [hg]; rfl
  have hid : (newNd (st.last + 1) k).id = st.last + 1 := rfl
  refine (wl_new h hk hn ⟨by omega, hl⟩ hnd hE).mono ?_
  rintro e w' ⟨rfl, h1, k1⟩
  refine ⟨rfl, ?_, k1⟩
  have he := put_ends f.rise (newNd (st.last + 1) k)
  unfold WB
  rw [nd_put f.rise, ents_put f.rise, he.1, he.2, hid, hnd, hg]
  have hents : (fun i => if i = st.last + 1 then keepE (newNd (st.last + 1) k) none else st.ents i) = st.ents := by
    funext i
    split
    · rename_i hi
      subst hi
      unfold St.ents
      rw [hg]
      rfl
    · rfl
  rw [hents, show max st.last (st.last + 1) = st.last + 1 by omega]
  refine h1.weak ?_
  intro d hd i hi
  have h3 := hd i hi
  rw [St.isDir_nd, nd_put f.rise]
  unfold upd
  by_cases he2 : i = st.last + 1
  · subst he2
    rw [isDir_no hnd] at h3
    cases h3
  · rw [if_neg (by rw [hid]; exact he2), ← St.isDir_nd]; exact h3
theorem wb_new_full (h : WB B L w b t dm st) {k : Int} (hk : kindB k = true) (hf : 512 ≤ st.ns.length ∨ 16777215 ≤ st.last) (hE : Env E B w) :
    Calls Tryd.prog 35 #[.pointer (some ⟨t, 0, none⟩), .int .i64 k] w fun e w' => e = .returned (.tuple #[.int .i64 0, errV E 9]) ∧ Below w.heap.size w w' := wl_new_full h hk hf hE
/-- What Make answers. -/
def MakeR (E : Nat → Addr) (B : Nat) (L : Nat → Prop) (b t dm : Nat) (R : Int × Int × St) (w : World) (e : Ending) (w' : World) : Prop :=
  e = .returned (.tuple #[.int .i64 R.2.1, errOf E R.1]) ∧ WB B L w' b t dm R.2.2 ∧ KeptP B L w w'
theorem tmake_bad (h : WB B L w b t dm st) (s : ByteArray) (k : Int) (to : ByteArray) (hE : EnvM E B w) (hbad : (parseP s).1 ≠ 0 ∨ k < 1 ∨ 3 < k) :
    Calls Tryd.prog 9 #[.pointer (some ⟨a, 0, none⟩), .string s, .int .i64 k, .string to] w (MakeR E B L b t dm (makeT st s k to) w) := by
  have H := Lib.hid h
  have HE := Lib.hid hE
  obtain ⟨R, hR⟩ : ∃ R, makeT st s k to = R := ⟨_, rfl⟩
  have HR := Lib.hid hR
  rw [hR]
  generalize hP : MakeR E B L b t dm R w = Post
  have HP := Lib.hid hP
  have HB := Lib.hid hbad
  clear hP h hE hR hbad
  go_enter Tryd.func9, Tryd.ntmps9
  go_wp2_with fail
  refine (parse_any s w HE.out).mono ?_
  rintro e w2 ⟨⟨v, rfl, hs2⟩, hb2⟩
  obtain ⟨sp2, cap2, rfl⟩ := slShape hs2
  have HW2 := Lib.hid (H.out.below hb2)
  have HK2 := Lib.hid (H.out.kept hb2)
  have HE2 := Lib.hid (HE.out.below hb2)
  clear hs2 hb2
  rcases path_code s with hz | hz
  · have hk : k < 1 ∨ 3 < k := HB.out.resolve_left (fun h => h hz)
    have HQ : Hid (R = (114, 0, st)) := Lib.hid (by rw [← HR.out]; unfold makeT; simp only; rw [if_neg (by simp [hz]), if_pos hk])
    have c1 : errOf E 114 = errV E 0 := errOf_code (g := 0) (by decide)
    have CE := Lib.hid c1
    have e1 := HE2.out.cell 0 (by decide)
    have l1 : 0 < w2.heap.size := Nat.lt_of_lt_of_le (HE2.out.glt _ (by decide)) HE2.out.size
    rw [hz, show errOf E 0 = .nilIface from rfl]
    clear hz c1
    by_cases hk1 : k < 1
    case' neg => have hk3 : 3 < k := hk.resolve_left hk1
    all_goals
      clear hk
      go_wp2_with fail
      go_region
      go_wp2
      rw [← HP.out]
      unfold MakeR
      rw [HQ.out]
      refine ⟨by rw [← CE.out]; rfl, HW2.out.below ?_, HK2.out.then ?_ HW2.out.1 HW2.out.2.1⟩
      all_goals repeat (first | with_reducible exact Below.refl _ _ | with_reducible refine Below.drew ?_ | with_reducible refine bl_alloc ?_ _)
  · obtain ⟨ad, had⟩ := errOf_some (E := E) hz
    have HQ : Hid (R = ((parseP s).1, 0, st)) := Lib.hid (by rw [← HR.out]; unfold makeT; simp only; rw [if_pos (show (parseP s).1 ≠ 0 by omega)])
    rw [had]
    have CE := Lib.hid had
    clear had hz
    go_wp2
    rw [← HP.out]
    unfold MakeR
    rw [HQ.out]
    exact ⟨by rw [CE.out]; rfl, HW2.out.below (bl_alloc (Below.refl _ _) _), HK2.out.then (bl_alloc (Below.refl _ _) _) HW2.out.1 HW2.out.2.1⟩
def mkNd (st : St) (k : Int) (to : ByteArray) (d : Int) : Nd := ⟨st.last + 1, k, 1, 0, if k = 3 then to else noText, if k = 2 then d else 0⟩
theorem make_q {st : St} {s : ByteArray} {k : Int} {to : ByteArray} (h0 : (parseP s).1 = 0) (hk : 1 ≤ k ∧ k ≤ 3) : makeT st s k to =
    if k = 3 ∧ tgtCode to ≠ 0 then (tgtCode to, 0, st) else if (freshP st (parseP s).2 (k == 2)).1 ≠ 0 then ((freshP st (parseP s).2 (k == 2)).1, 0, st) else
    if 512 ≤ st.ns.length ∨ 16777215 ≤ st.last then (104, 0, st) else
    (0, st.last + 1, (st.put ⟨st.last + 1, k, 1, 0, if k = 3 then to else noText, if k = 2 then (freshP st (parseP s).2 (k == 2)).2.dir else 0⟩).addE (freshP st (parseP s).2 (k == 2)).2.dir ⟨(freshP st (parseP s).2 (k == 2)).2.name, st.last + 1, k⟩) := by
  conv => lhs; unfold makeT
  simp only
  rw [if_neg (by simp [h0]), if_neg (by omega)]
theorem freshP_code (st : St) (p : Pth) (sl : Bool) : CodeOk (freshP st p sl).1 := by
  unfold freshP
  simp only
  split
  · exact lastP_code _ _
  · split
    · exact .inr (by decide)
    · split
      · exact .inr (by decide)
      · exact lastP_code _ _
theorem fresh_add {st : St} (f : Full st) {s : ByteArray} {sl : Bool} {fd fn : Int} {fname : ByteArray} (h : freshP st (parseP s).2 sl = (0, ⟨fd, fn, fname⟩)) (h0 : (parseP s).1 = 0) {k : Int} (hk : 1 ≤ k ∧ k ≤ 3) (hl : st.last < 16777215) (n : Nd) (hn : n.id = st.last + 1) :
    (∃ x, st.get fd = some x) ∧ (st.put n).isDir fd = true ∧ addCode (entOf ((st.put n).ents fd)) ⟨fname, st.last + 1, k⟩ = 0 ∧ 1 ≤ fd ∧ fd ≤ 16777215 := by
  obtain ⟨h1, h2, _⟩ := freshP_ok h
  obtain ⟨x, h3, h4, h5⟩ := h1.fresh f.toGood h2
  obtain ⟨h6, h7⟩ := h1.name (show parseP s = (0, (parseP s).2) by rw [← h0])
  have hlo := f.lo
  have hfd := dir_ids f.toGood h3
  simp only at h3 h5 h6 h7 hfd
  have hne : fd ≠ n.id := by omega
  have hg : (st.put n).get fd = some x := by rw [get_put f.rise, if_neg hne]; exact h3
  refine ⟨⟨x, h3⟩, ?_, ?_, hfd.1, hfd.2.1⟩
  · unfold St.isDir; rw [hg]; simp [h4]
  · have he : (st.put n).ents fd = x.ents := by unfold St.ents; rw [hg]; rfl
    have hm : mayB ⟨fname, st.last + 1, k⟩ = true := by
      simp only [mayB, Bool.and_eq_true, decide_eq_true_eq]
      omega
    unfold addCode
    rw [if_pos h6, if_neg (by rw [h7]; decide), if_pos hm, he, h5]
    rfl
theorem tgtCode_ok (t : ByteArray) : CodeOk (tgtCode t) := by
  unfold tgtCode
  split
  · exact .inr (by decide)
  · split
    · exact .inr (by decide)
    · split
      · exact .inr (by decide)
      · exact .inl rfl
set_option maxHeartbeats 4000000 in
theorem tmake_ok (ha : TA w a b) (hl : L a) (h : WB B L w b t dm st) (f : Full st) (s : ByteArray) {k : Int} (to : ByteArray) (hE : EnvM E B w) (h0 : (parseP s).1 = 0) (hk : 1 ≤ k ∧ k ≤ 3) :
    Calls Tryd.prog 9 #[.pointer (some ⟨a, 0, none⟩), .string s, .int .i64 k, .string to] w (MakeR E B L b t dm (makeT st s k to) w) := by
  have H := Lib.hid h
  have HF := Lib.hid f
  have HE := Lib.hid hE
  have HA := Lib.hid ha
  have HLA := Lib.hid hl
  have H0 := Lib.hid h0
  obtain ⟨R, hR⟩ : ∃ R, makeT st s k to = R := ⟨_, rfl⟩
  rw [hR]
  rw [make_q h0 hk] at hR
  have HR := Lib.hid hR
  generalize hP : MakeR E B L b t dm R w = Post
  have HP := Lib.hid hP
  clear hP h hE hR ha hl f h0
  have hk123 : k = 1 ∨ k = 2 ∨ k = 3 := by omega
  go_enter Tryd.func9, Tryd.ntmps9
  go_wp2_with fail
  refine (parse_any s w HE.out).mono ?_
  rintro e w2 ⟨⟨v, rfl, hs2⟩, hb2⟩
  obtain ⟨sp2, cap2, rfl⟩ := slShape hs2
  rw [H0.out, show errOf E 0 = .nilIface from rfl]
  have HS2 := Lib.hid hs2
  have HLP : Hid (∀ x, (Value.slice sp2 (parseP s).2.parts.length cap2).ownBlock = some x → w.heap.size ≤ x ∧ x < w2.heap.size) := Lib.hid hs2.lt
  obtain ⟨L1, hL1⟩ : ∃ L1 : Nat → Prop, L1 = fun x => (Value.slice sp2 (parseP s).2.parts.length cap2).ownBlock = some x ∨ L x := ⟨_, rfl⟩
  have G2 : Hid (Gd B L L1 w b t dm st (fun x => (Value.slice sp2 (parseP s).2.parts.length cap2).ownBlock = some x) w2) := Lib.hid (by
    rw [hL1]
    exact Gd.first H.out hb2 HLP.out)
  have HLs : Hid (L1 a) := Lib.hid (by rw [hL1]; exact .inr HLA.out)
  have HL1o : Hid (∀ x, (Value.slice sp2 (parseP s).2.parts.length cap2).ownBlock = some x → L1 x) := Lib.hid (fun x hx => by rw [hL1]; exact .inl hx)
  have HE2 := Lib.hid (HE.out.below hb2)
  have HA2 := Lib.hid (HA.out.below hb2)
  clear hs2 hb2 hL1
  have HR2 := Lib.hid (HS2.out.rd (fun _ => rfl))
  have HLEN := Lib.hid (Nat.le_trans (parse_len s) (show 257 ≤ 1000 by decide))
  rcases hk123 with rfl | rfl | rfl
  · obtain ⟨F, hF⟩ : ∃ F, freshP st ⟨(parseP s).2.parts, (parseP s).2.slash⟩ false = F := ⟨_, rfl⟩
    have hF0 : freshP st (parseP s).2 ((1 : Int) == 2) = F := hF
    have HRF : Hid (R = if F.1 ≠ 0 then (F.1, 0, st) else if 512 ≤ st.ns.length ∨ 16777215 ≤ st.last then (104, 0, st) else (0, st.last + 1, (st.put (mkNd st 1 to F.2.dir)).addE F.2.dir ⟨F.2.name, st.last + 1, 1⟩)) := Lib.hid (by
      have h1 := HR.out
      rw [if_neg (fun h => absurd h.1 (by decide)), hF0] at h1
      exact h1.symm)
    have HF1 := Lib.hid hF
    clear hF0 hF
    obtain ⟨w3, hw3⟩ : ∃ w3, w3 = w2.alloc (.cells #[.slice sp2 (parseP s).2.parts.length cap2, .bool (parseP s).2.slash] 68) := ⟨_, rfl⟩
    have HB : Hid (Below w2.heap.size w2 w3) := Lib.hid (by rw [hw3]; exact bl_alloc (Below.refl _ _) _)
    go_wp2_with fail
    rw [← hw3]
    clear hw3
    have G3 := Lib.hid (G2.out.below HB.out)
    have HE3 := Lib.hid (HE2.out.below HB.out)
    have HA3 := Lib.hid (HA2.out.below HB.out)
    have HR3 := Lib.hid (HR2.out.below HB.out)
    clear G2 HE2 HA2 HR2 HS2
    refine (tfresh_any HA3.out HLs.out G3.out.tree HF.out HR3.out HL1o.out HLEN.out (parse_small s) (parseP s).2.slash _ HE3.out).mono ?_
    rintro e w4 ⟨rfl, h4, k4⟩
    have hfc := freshP_code st ⟨(parseP s).2.parts, (parseP s).2.slash⟩
    have G4 := Lib.hid (G3.out.then h4 k4)
    have HE4 := Lib.hid (HE3.out.keep k4.below)
    have HA4 := Lib.hid (HA3.out.kept HLs.out k4)
    clear h4 k4 G3 HE3 HA3 HR3
    rw [HF1.out]
    have hfc2 := hfc _ |> (HF1.out ▸ ·)
    obtain ⟨fc, fd, fn, fname⟩ := F
    simp only at hfc2 ⊢
    clear hfc
    have HFC := Lib.hid hfc2
    clear hfc2
    rcases HFC.out with hz | hz
    · subst hz
      rw [show errOf E 0 = .nilIface from rfl]
      obtain ⟨a0, al⟩ := HA4.out
      have b0 := G4.out.tree.c0
      have bl0 := G4.out.tree.lt.1
      have hlo := HF.out.lo
      go_wp2_with fail
      have G5 : Hid (Gd B L (fun x => x = w4.heap.size ∨ L1 x) w b t dm st (fun _ => False) (w4.alloc (.cells #[.int .i64 fd, .int .i64 fn, .string fname] 73))) :=
        Lib.hid ⟨WL.loc G4.out.tree _, (G4.out.alloc _).kept, fun x hx => .inr (G4.out.sub x hx), fun _ h => h.elim⟩
      have HE5 := Lib.hid (HE4.out.below (bl_alloc (Below.refl w4.heap.size w4) (.cells #[.int .i64 fd, .int .i64 fn, .string fname] 73)))
      have HA5 := Lib.hid (HA4.out.below (bl_alloc (Below.refl w4.heap.size w4) (.cells #[.int .i64 fd, .int .i64 fn, .string fname] 73)))
      have HL2 : Hid ((fun x => x = w4.heap.size ∨ L1 x) a) := Lib.hid (.inr HLs.out)
      by_cases hfull : 512 ≤ st.ns.length ∨ 16777215 ≤ st.last
      · have HQ : Hid (R = (104, 0, st)) := Lib.hid (by rw [HRF.out, if_neg (by simp), if_pos hfull])
        refine (wb_new_full G5.out.tree (by decide) hfull HE5.out.toEnv).mono ?_
        rintro e w6 ⟨rfl, hb6⟩
        have c1 : errOf E 104 = errV E 9 := errOf_code (g := 9) (by decide)
        have CE := Lib.hid c1
        have G6 := Lib.hid (G5.out.below hb6)
        clear c1 hb6 hfull a0 al b0 bl0
        go_wp2
        rw [← HP.out]
        unfold MakeR
        rw [HQ.out]
        exact ⟨by rw [CE.out]; rfl, G6.out.out.1, G6.out.out.2⟩
      · have HQ : Hid (R = (0, st.last + 1, (st.put (mkNd st 1 to fd)).addE fd ⟨fname, st.last + 1, 1⟩)) := Lib.hid (by rw [HRF.out, if_neg (by simp), if_neg hfull])
        have hlen : st.ns.length < 512 := by omega
        have hlast : st.last < 16777215 := by omega
        have HLEN2 := Lib.hid hlen
        have HLAST := Lib.hid hlast
        refine (wb_new G5.out.tree HF.out (by decide) hlen hlast HE5.out.toEnv).mono ?_
        rintro e w6 ⟨rfl, h6, k6⟩
        have rf6 := (Row.new w4 73 [.int .i64 fd, .int .i64 fn, .string fname]).keep (k6.loc _ (.inl rfl))
        have G6 := Lib.hid (G5.out.then h6 k6)
        have HE6 := Lib.hid (HE5.out.keep k6.below)
        have HA6 := Lib.hid (HA5.out.kept HL2.out k6)
        have RF6 := Lib.hid rf6
        have x0 : w6.cell? ⟨w4.heap.size, 0, none⟩ = some (.int .i64 fd) := (rf6.cell 0).trans rfl
        have x2 : w6.cell? ⟨w4.heap.size, 2, none⟩ = some (.string fname) := (rf6.cell 2).trans rfl
        have xl := rf6.lt
        clear h6 k6 rf6 a0 al b0 bl0 hfull hlen hlast G4 HE4 HA4
        go_wp2_with fail
        have HFA : Hid (∀ k : Int, 1 ≤ k ∧ k ≤ 3 → ∀ n : Nd, n.id = st.last + 1 → (∃ x, st.get fd = some x) ∧ (st.put n).isDir fd = true ∧ addCode (entOf ((st.put n).ents fd)) ⟨fname, st.last + 1, k⟩ = 0 ∧ 1 ≤ fd ∧ fd ≤ 16777215) := Lib.hid (fun k hk n hn => fresh_add HF.out HF1.out H0.out hk HLAST.out n hn)
        obtain ⟨xd, hxd⟩ := (HFA.out 1 (by decide) (newNd (st.last + 1) 1) rfl).1
        have HV := Lib.hid (make_valid (kind := 1) (t := to) HF.out.toGood hxd (by decide) (fun h => absurd h (by decide)) HLAST.out)
        have HGN : Hid (st.get (st.last + 1) = none) := Lib.hid (HF.out.no (.inl (by omega)))
        clear hxd
        refine (tput_ok (HA6.out.below (bl_alloc (Below.refl _ _) _)) HL2.out (G6.out.alloc _).tree (putN_rise HF.out.rise) (mkNd st 1 to fd) HV.out (fun h => by
          have h1 := get_put HF.out.rise (n := newNd (st.last + 1) 1) (st.last + 1)
          rw [show ((mkNd st 1 to fd).id) = st.last + 1 from rfl] at h
          rw [h1] at h
          rw [if_pos (show st.last + 1 = (newNd (st.last + 1) _).id from rfl)] at h
          cases h) (HE6.out.below (bl_alloc (Below.refl _ _) _)).toEnv).mono ?_
        rintro e w7 ⟨rfl, h7, k7⟩
        rw [put_twice (n := mkNd st _ to fd) (n0 := newNd (st.last + 1) 1) rfl HGN.out] at h7
        have rf7 := (RF6.out.alloc _).keep (k7.loc _ (.inl rfl))
        have G7 := Lib.hid ((G6.out.alloc _).then h7 k7)
        have HE7 := Lib.hid ((HE6.out.below (bl_alloc (Below.refl _ _) _)).keep k7.below)
        have HA7 := Lib.hid ((HA6.out.below (bl_alloc (Below.refl _ _) _)).kept HL2.out k7)
        have y0 : w7.cell? ⟨w4.heap.size, 0, none⟩ = some (.int .i64 fd) := (rf7.cell 0).trans rfl
        have y2 : w7.cell? ⟨w4.heap.size, 2, none⟩ = some (.string fname) := (rf7.cell 2).trans rfl
        have yl := rf7.lt
        clear h7 k7 rf7 x0 x2 xl HA6 HE6 G6 RF6
        go_wp2_with fail
        have hfd := (HFA.out 1 (by decide) (newNd (st.last + 1) 1) rfl).2.2.2
        refine (tadd_ok HA7.out HL2.out G7.out.tree (by omega) (HFA.out 1 (by decide) (mkNd st 1 to fd) rfl).2.1 ⟨fname, st.last + 1, 1⟩ (HFA.out 1 (by decide) (mkNd st 1 to fd) rfl).2.2.1 HE7.out.toEnv).mono ?_
        rintro v w8 ⟨rfl, h8, k8⟩
        have G8 := Lib.hid (G7.out.then h8 k8)
        clear h8 k8 y0 y2 yl
        go_wp2
        rw [← HP.out]
        unfold MakeR
        rw [HQ.out]
        exact ⟨rfl, G8.out.out.1, G8.out.out.2⟩
    · obtain ⟨ad, had⟩ := errOf_some (E := E) hz
      have HQ : Hid (R = (fc, 0, st)) := Lib.hid (by rw [HRF.out, if_pos (show fc ≠ 0 by omega)])
      rw [had]
      have CE := Lib.hid had
      clear had hz
      go_wp2
      rw [← HP.out]
      unfold MakeR
      rw [HQ.out]
      have g := (G4.out.alloc (.cells #[.int .i64 fd, .int .i64 fn, .string fname] 73)).out
      exact ⟨by rw [CE.out], g.1, g.2⟩
  · obtain ⟨F, hF⟩ : ∃ F, freshP st ⟨(parseP s).2.parts, (parseP s).2.slash⟩ true = F := ⟨_, rfl⟩
    have hF0 : freshP st (parseP s).2 ((2 : Int) == 2) = F := hF
    have HRF : Hid (R = if F.1 ≠ 0 then (F.1, 0, st) else if 512 ≤ st.ns.length ∨ 16777215 ≤ st.last then (104, 0, st) else (0, st.last + 1, (st.put (mkNd st 2 to F.2.dir)).addE F.2.dir ⟨F.2.name, st.last + 1, 2⟩)) := Lib.hid (by
      have h1 := HR.out
      rw [if_neg (fun h => absurd h.1 (by decide)), hF0] at h1
      exact h1.symm)
    have HF1 := Lib.hid hF
    clear hF0 hF
    obtain ⟨w3, hw3⟩ : ∃ w3, w3 = w2.alloc (.cells #[.slice sp2 (parseP s).2.parts.length cap2, .bool (parseP s).2.slash] 68) := ⟨_, rfl⟩
    have HB : Hid (Below w2.heap.size w2 w3) := Lib.hid (by rw [hw3]; exact bl_alloc (Below.refl _ _) _)
    go_wp2_with fail
    rw [← hw3]
    clear hw3
    have G3 := Lib.hid (G2.out.below HB.out)
    have HE3 := Lib.hid (HE2.out.below HB.out)
    have HA3 := Lib.hid (HA2.out.below HB.out)
    have HR3 := Lib.hid (HR2.out.below HB.out)
    clear G2 HE2 HA2 HR2 HS2
    refine (tfresh_any HA3.out HLs.out G3.out.tree HF.out HR3.out HL1o.out HLEN.out (parse_small s) (parseP s).2.slash _ HE3.out).mono ?_
    rintro e w4 ⟨rfl, h4, k4⟩
    have hfc := freshP_code st ⟨(parseP s).2.parts, (parseP s).2.slash⟩
    have G4 := Lib.hid (G3.out.then h4 k4)
    have HE4 := Lib.hid (HE3.out.keep k4.below)
    have HA4 := Lib.hid (HA3.out.kept HLs.out k4)
    clear h4 k4 G3 HE3 HA3 HR3
    rw [HF1.out]
    have hfc2 := hfc _ |> (HF1.out ▸ ·)
    obtain ⟨fc, fd, fn, fname⟩ := F
    simp only at hfc2 ⊢
    clear hfc
    have HFC := Lib.hid hfc2
    clear hfc2
    rcases HFC.out with hz | hz
    · subst hz
      rw [show errOf E 0 = .nilIface from rfl]
      obtain ⟨a0, al⟩ := HA4.out
      have b0 := G4.out.tree.c0
      have bl0 := G4.out.tree.lt.1
      have hlo := HF.out.lo
      go_wp2_with fail
      have G5 : Hid (Gd B L (fun x => x = w4.heap.size ∨ L1 x) w b t dm st (fun _ => False) (w4.alloc (.cells #[.int .i64 fd, .int .i64 fn, .string fname] 73))) :=
        Lib.hid ⟨WL.loc G4.out.tree _, (G4.out.alloc _).kept, fun x hx => .inr (G4.out.sub x hx), fun _ h => h.elim⟩
      have HE5 := Lib.hid (HE4.out.below (bl_alloc (Below.refl w4.heap.size w4) (.cells #[.int .i64 fd, .int .i64 fn, .string fname] 73)))
      have HA5 := Lib.hid (HA4.out.below (bl_alloc (Below.refl w4.heap.size w4) (.cells #[.int .i64 fd, .int .i64 fn, .string fname] 73)))
      have HL2 : Hid ((fun x => x = w4.heap.size ∨ L1 x) a) := Lib.hid (.inr HLs.out)
      by_cases hfull : 512 ≤ st.ns.length ∨ 16777215 ≤ st.last
      · have HQ : Hid (R = (104, 0, st)) := Lib.hid (by rw [HRF.out, if_neg (by simp), if_pos hfull])
        refine (wb_new_full G5.out.tree (by decide) hfull HE5.out.toEnv).mono ?_
        rintro e w6 ⟨rfl, hb6⟩
        have c1 : errOf E 104 = errV E 9 := errOf_code (g := 9) (by decide)
        have CE := Lib.hid c1
        have G6 := Lib.hid (G5.out.below hb6)
        clear c1 hb6 hfull a0 al b0 bl0
        go_wp2
        rw [← HP.out]
        unfold MakeR
        rw [HQ.out]
        exact ⟨by rw [CE.out]; rfl, G6.out.out.1, G6.out.out.2⟩
      · have HQ : Hid (R = (0, st.last + 1, (st.put (mkNd st 2 to fd)).addE fd ⟨fname, st.last + 1, 2⟩)) := Lib.hid (by rw [HRF.out, if_neg (by simp), if_neg hfull])
        have hlen : st.ns.length < 512 := by omega
        have hlast : st.last < 16777215 := by omega
        have HLEN2 := Lib.hid hlen
        have HLAST := Lib.hid hlast
        refine (wb_new G5.out.tree HF.out (by decide) hlen hlast HE5.out.toEnv).mono ?_
        rintro e w6 ⟨rfl, h6, k6⟩
        have rf6 := (Row.new w4 73 [.int .i64 fd, .int .i64 fn, .string fname]).keep (k6.loc _ (.inl rfl))
        have G6 := Lib.hid (G5.out.then h6 k6)
        have HE6 := Lib.hid (HE5.out.keep k6.below)
        have HA6 := Lib.hid (HA5.out.kept HL2.out k6)
        have RF6 := Lib.hid rf6
        have x0 : w6.cell? ⟨w4.heap.size, 0, none⟩ = some (.int .i64 fd) := (rf6.cell 0).trans rfl
        have x2 : w6.cell? ⟨w4.heap.size, 2, none⟩ = some (.string fname) := (rf6.cell 2).trans rfl
        have xl := rf6.lt
        clear h6 k6 rf6 a0 al b0 bl0 hfull hlen hlast G4 HE4 HA4
        go_wp2_with fail
        have HFA : Hid (∀ k : Int, 1 ≤ k ∧ k ≤ 3 → ∀ n : Nd, n.id = st.last + 1 → (∃ x, st.get fd = some x) ∧ (st.put n).isDir fd = true ∧ addCode (entOf ((st.put n).ents fd)) ⟨fname, st.last + 1, k⟩ = 0 ∧ 1 ≤ fd ∧ fd ≤ 16777215) := Lib.hid (fun k hk n hn => fresh_add HF.out HF1.out H0.out hk HLAST.out n hn)
        obtain ⟨xd, hxd⟩ := (HFA.out 1 (by decide) (newNd (st.last + 1) 1) rfl).1
        have HV := Lib.hid (make_valid (kind := 2) (t := to) HF.out.toGood hxd (by decide) (fun h => absurd h (by decide)) HLAST.out)
        have HGN : Hid (st.get (st.last + 1) = none) := Lib.hid (HF.out.no (.inl (by omega)))
        clear hxd
        refine (tput_ok (HA6.out.below (bl_alloc (Below.refl _ _) _)) HL2.out (G6.out.alloc _).tree (putN_rise HF.out.rise) (mkNd st 2 to fd) HV.out (fun h => by
          have h1 := get_put HF.out.rise (n := newNd (st.last + 1) 2) (st.last + 1)
          rw [show ((mkNd st 2 to fd).id) = st.last + 1 from rfl] at h
          rw [h1] at h
          rw [if_pos (show st.last + 1 = (newNd (st.last + 1) _).id from rfl)] at h
          cases h) (HE6.out.below (bl_alloc (Below.refl _ _) _)).toEnv).mono ?_
        rintro e w7 ⟨rfl, h7, k7⟩
        rw [put_twice (n := mkNd st _ to fd) (n0 := newNd (st.last + 1) 2) rfl HGN.out] at h7
        have rf7 := (RF6.out.alloc _).keep (k7.loc _ (.inl rfl))
        have G7 := Lib.hid ((G6.out.alloc _).then h7 k7)
        have HE7 := Lib.hid ((HE6.out.below (bl_alloc (Below.refl _ _) _)).keep k7.below)
        have HA7 := Lib.hid ((HA6.out.below (bl_alloc (Below.refl _ _) _)).kept HL2.out k7)
        have y0 : w7.cell? ⟨w4.heap.size, 0, none⟩ = some (.int .i64 fd) := (rf7.cell 0).trans rfl
        have y2 : w7.cell? ⟨w4.heap.size, 2, none⟩ = some (.string fname) := (rf7.cell 2).trans rfl
        have yl := rf7.lt
        clear h7 k7 rf7 x0 x2 xl HA6 HE6 G6 RF6
        go_wp2_with fail
        have hfd := (HFA.out 1 (by decide) (newNd (st.last + 1) 1) rfl).2.2.2
        refine (tadd_ok HA7.out HL2.out G7.out.tree (by omega) (HFA.out 2 (by decide) (mkNd st 2 to fd) rfl).2.1 ⟨fname, st.last + 1, 2⟩ (HFA.out 2 (by decide) (mkNd st 2 to fd) rfl).2.2.1 HE7.out.toEnv).mono ?_
        rintro v w8 ⟨rfl, h8, k8⟩
        have G8 := Lib.hid (G7.out.then h8 k8)
        clear h8 k8 y0 y2 yl
        go_wp2
        rw [← HP.out]
        unfold MakeR
        rw [HQ.out]
        exact ⟨rfl, G8.out.out.1, G8.out.out.2⟩
    · obtain ⟨ad, had⟩ := errOf_some (E := E) hz
      have HQ : Hid (R = (fc, 0, st)) := Lib.hid (by rw [HRF.out, if_pos (show fc ≠ 0 by omega)])
      rw [had]
      have CE := Lib.hid had
      clear had hz
      go_wp2
      rw [← HP.out]
      unfold MakeR
      rw [HQ.out]
      have g := (G4.out.alloc (.cells #[.int .i64 fd, .int .i64 fn, .string fname] 73)).out
      exact ⟨by rw [CE.out], g.1, g.2⟩
  · have HRT : Hid (tgtCode to ≠ 0 → R = (tgtCode to, 0, st)) := Lib.hid (fun h => by rw [← HR.out, if_pos ⟨rfl, h⟩])
    obtain ⟨F, hF⟩ : ∃ F, freshP st ⟨(parseP s).2.parts, (parseP s).2.slash⟩ false = F := ⟨_, rfl⟩
    have hF0 : freshP st (parseP s).2 ((3 : Int) == 2) = F := hF
    have HRF : Hid (tgtCode to = 0 → R = if F.1 ≠ 0 then (F.1, 0, st) else if 512 ≤ st.ns.length ∨ 16777215 ≤ st.last then (104, 0, st) else (0, st.last + 1, (st.put (mkNd st 3 to F.2.dir)).addE F.2.dir ⟨F.2.name, st.last + 1, 3⟩)) := Lib.hid (fun h3 => by
      have h1 := HR.out
      rw [if_neg (fun h => h.2 h3), hF0] at h1
      exact h1.symm)
    have HF1 := Lib.hid hF
    clear hF0 hF
    have b23 := bl_alloc (Below.refl w2.heap.size w2) (.cells #[.slice sp2 (parseP s).2.parts.length cap2, .bool (parseP s).2.slash] 68)
    go_wp2_with fail
    refine (ttarget_any to _ (HE2.out.below b23).toEnv).mono ?_
    rintro e w3 ⟨rfl, hb3⟩
    have HB := Lib.hid (bl_trans b23 hb3)
    have p0 : w3.cell? ⟨w2.heap.size, 0, none⟩ = some (.slice sp2 (parseP s).2.parts.length cap2) := (((Row.new w2 68 [.slice sp2 (parseP s).2.parts.length cap2, .bool (parseP s).2.slash]).below hb3).cell 0).trans rfl
    have p1 : w3.cell? ⟨w2.heap.size, 1, none⟩ = some (.bool (parseP s).2.slash) := (((Row.new w2 68 [.slice sp2 (parseP s).2.parts.length cap2, .bool (parseP s).2.slash]).below hb3).cell 1).trans rfl
    have pl : w2.heap.size < w3.heap.size := ((Row.new w2 68 [.slice sp2 (parseP s).2.parts.length cap2, .bool (parseP s).2.slash]).below hb3).lt
    clear b23 hb3
    by_cases htc : tgtCode to = 0
    case' neg =>
      obtain ⟨ad, had⟩ := errOf_some (E := E) (c := tgtCode to) (by rcases tgtCode_ok to with h | h; exact absurd h htc; exact h)
      have HQ := Lib.hid (HRT.out htc)
      rw [had]
      have CE := Lib.hid had
      clear had htc
      go_wp2
      rw [← HP.out]
      unfold MakeR
      rw [HQ.out]
      have g := (G2.out.below HB.out).out
      refine ⟨by rw [CE.out]; rfl, g.1, g.2⟩
    have HRF0 := Lib.hid (HRF.out htc)
    have HTK0 := Lib.hid htc
    rw [htc, show errOf E 0 = .nilIface from rfl]
    clear htc HRF
    have HRF := HRF0
    clear HRF0
    go_wp2_with fail
    have G3 := Lib.hid (G2.out.below HB.out)
    have HE3 := Lib.hid (HE2.out.below HB.out)
    have HA3 := Lib.hid (HA2.out.below HB.out)
    have HR3 := Lib.hid (HR2.out.below HB.out)
    clear G2 HE2 HA2 HR2 HS2
    refine (tfresh_any HA3.out HLs.out G3.out.tree HF.out HR3.out HL1o.out HLEN.out (parse_small s) (parseP s).2.slash _ HE3.out).mono ?_
    rintro e w4 ⟨rfl, h4, k4⟩
    have hfc := freshP_code st ⟨(parseP s).2.parts, (parseP s).2.slash⟩
    have G4 := Lib.hid (G3.out.then h4 k4)
    have HE4 := Lib.hid (HE3.out.keep k4.below)
    have HA4 := Lib.hid (HA3.out.kept HLs.out k4)
    clear h4 k4 G3 HE3 HA3 HR3
    rw [HF1.out]
    have hfc2 := hfc _ |> (HF1.out ▸ ·)
    obtain ⟨fc, fd, fn, fname⟩ := F
    simp only at hfc2 ⊢
    clear hfc
    have HFC := Lib.hid hfc2
    clear hfc2
    rcases HFC.out with hz | hz
    · subst hz
      rw [show errOf E 0 = .nilIface from rfl]
      obtain ⟨a0, al⟩ := HA4.out
      have b0 := G4.out.tree.c0
      have bl0 := G4.out.tree.lt.1
      have hlo := HF.out.lo
      go_wp2_with fail
      have G5 : Hid (Gd B L (fun x => x = w4.heap.size ∨ L1 x) w b t dm st (fun _ => False) (w4.alloc (.cells #[.int .i64 fd, .int .i64 fn, .string fname] 73))) :=
        Lib.hid ⟨WL.loc G4.out.tree _, (G4.out.alloc _).kept, fun x hx => .inr (G4.out.sub x hx), fun _ h => h.elim⟩
      have HE5 := Lib.hid (HE4.out.below (bl_alloc (Below.refl w4.heap.size w4) (.cells #[.int .i64 fd, .int .i64 fn, .string fname] 73)))
      have HA5 := Lib.hid (HA4.out.below (bl_alloc (Below.refl w4.heap.size w4) (.cells #[.int .i64 fd, .int .i64 fn, .string fname] 73)))
      have HL2 : Hid ((fun x => x = w4.heap.size ∨ L1 x) a) := Lib.hid (.inr HLs.out)
      by_cases hfull : 512 ≤ st.ns.length ∨ 16777215 ≤ st.last
      · have HQ : Hid (R = (104, 0, st)) := Lib.hid (by rw [HRF.out, if_neg (by simp), if_pos hfull])
        refine (wb_new_full G5.out.tree (by decide) hfull HE5.out.toEnv).mono ?_
        rintro e w6 ⟨rfl, hb6⟩
        have c1 : errOf E 104 = errV E 9 := errOf_code (g := 9) (by decide)
        have CE := Lib.hid c1
        have G6 := Lib.hid (G5.out.below hb6)
        clear c1 hb6 hfull a0 al b0 bl0
        go_wp2
        rw [← HP.out]
        unfold MakeR
        rw [HQ.out]
        exact ⟨by rw [CE.out]; rfl, G6.out.out.1, G6.out.out.2⟩
      · have HQ : Hid (R = (0, st.last + 1, (st.put (mkNd st 3 to fd)).addE fd ⟨fname, st.last + 1, 3⟩)) := Lib.hid (by rw [HRF.out, if_neg (by simp), if_neg hfull])
        have hlen : st.ns.length < 512 := by omega
        have hlast : st.last < 16777215 := by omega
        have HLEN2 := Lib.hid hlen
        have HLAST := Lib.hid hlast
        refine (wb_new G5.out.tree HF.out (by decide) hlen hlast HE5.out.toEnv).mono ?_
        rintro e w6 ⟨rfl, h6, k6⟩
        have rf6 := (Row.new w4 73 [.int .i64 fd, .int .i64 fn, .string fname]).keep (k6.loc _ (.inl rfl))
        have G6 := Lib.hid (G5.out.then h6 k6)
        have HE6 := Lib.hid (HE5.out.keep k6.below)
        have HA6 := Lib.hid (HA5.out.kept HL2.out k6)
        have RF6 := Lib.hid rf6
        have x0 : w6.cell? ⟨w4.heap.size, 0, none⟩ = some (.int .i64 fd) := (rf6.cell 0).trans rfl
        have x2 : w6.cell? ⟨w4.heap.size, 2, none⟩ = some (.string fname) := (rf6.cell 2).trans rfl
        have xl := rf6.lt
        clear h6 k6 rf6 a0 al b0 bl0 hfull hlen hlast G4 HE4 HA4
        go_wp2_with fail
        have HFA : Hid (∀ k : Int, 1 ≤ k ∧ k ≤ 3 → ∀ n : Nd, n.id = st.last + 1 → (∃ x, st.get fd = some x) ∧ (st.put n).isDir fd = true ∧ addCode (entOf ((st.put n).ents fd)) ⟨fname, st.last + 1, k⟩ = 0 ∧ 1 ≤ fd ∧ fd ≤ 16777215) := Lib.hid (fun k hk n hn => fresh_add HF.out HF1.out H0.out hk HLAST.out n hn)
        obtain ⟨xd, hxd⟩ := (HFA.out 1 (by decide) (newNd (st.last + 1) 1) rfl).1
        have HV := Lib.hid (make_valid (kind := 3) (t := to) HF.out.toGood hxd (by decide) (fun _ => HTK0.out) HLAST.out)
        have HGN : Hid (st.get (st.last + 1) = none) := Lib.hid (HF.out.no (.inl (by omega)))
        clear hxd
        refine (tput_ok (HA6.out.below (bl_alloc (Below.refl _ _) _)) HL2.out (G6.out.alloc _).tree (putN_rise HF.out.rise) (mkNd st 3 to fd) HV.out (fun h => by
          have h1 := get_put HF.out.rise (n := newNd (st.last + 1) 3) (st.last + 1)
          rw [show ((mkNd st 3 to fd).id) = st.last + 1 from rfl] at h
          rw [h1] at h
          rw [if_pos (show st.last + 1 = (newNd (st.last + 1) _).id from rfl)] at h
          cases h) (HE6.out.below (bl_alloc (Below.refl _ _) _)).toEnv).mono ?_
        rintro e w7 ⟨rfl, h7, k7⟩
        rw [put_twice (n := mkNd st _ to fd) (n0 := newNd (st.last + 1) 3) rfl HGN.out] at h7
        have rf7 := (RF6.out.alloc _).keep (k7.loc _ (.inl rfl))
        have G7 := Lib.hid ((G6.out.alloc _).then h7 k7)
        have HE7 := Lib.hid ((HE6.out.below (bl_alloc (Below.refl _ _) _)).keep k7.below)
        have HA7 := Lib.hid ((HA6.out.below (bl_alloc (Below.refl _ _) _)).kept HL2.out k7)
        have y0 : w7.cell? ⟨w4.heap.size, 0, none⟩ = some (.int .i64 fd) := (rf7.cell 0).trans rfl
        have y2 : w7.cell? ⟨w4.heap.size, 2, none⟩ = some (.string fname) := (rf7.cell 2).trans rfl
        have yl := rf7.lt
        clear h7 k7 rf7 x0 x2 xl HA6 HE6 G6 RF6
        go_wp2_with fail
        have hfd := (HFA.out 1 (by decide) (newNd (st.last + 1) 1) rfl).2.2.2
        refine (tadd_ok HA7.out HL2.out G7.out.tree (by omega) (HFA.out 3 (by decide) (mkNd st 3 to fd) rfl).2.1 ⟨fname, st.last + 1, 3⟩ (HFA.out 3 (by decide) (mkNd st 3 to fd) rfl).2.2.1 HE7.out.toEnv).mono ?_
        rintro v w8 ⟨rfl, h8, k8⟩
        have G8 := Lib.hid (G7.out.then h8 k8)
        clear h8 k8 y0 y2 yl
        go_wp2
        rw [← HP.out]
        unfold MakeR
        rw [HQ.out]
        exact ⟨rfl, G8.out.out.1, G8.out.out.2⟩
    · obtain ⟨ad, had⟩ := errOf_some (E := E) hz
      have HQ : Hid (R = (fc, 0, st)) := Lib.hid (by rw [HRF.out, if_pos (show fc ≠ 0 by omega)])
      rw [had]
      have CE := Lib.hid had
      clear had hz
      go_wp2
      rw [← HP.out]
      unfold MakeR
      rw [HQ.out]
      have g := (G4.out.alloc (.cells #[.int .i64 fd, .int .i64 fn, .string fname] 73)).out
      exact ⟨by rw [CE.out], g.1, g.2⟩
end
end Go.Proofs.YtjmbilbkmcebeaaDoor
end

section
/- The walks of package tree: New, Free. -/
namespace Go.Proofs.YtjmbilbkmcebeaaDoor
open Go Go.RowKit
set_option maxRecDepth 100000
set_option linter.unusedSimpArgs false
set_option linter.unusedVariables false
attribute [local go_sem] giv
variable {E : Nat → Addr} {B : Nat}

section
variable {L : Nat → Prop} {w : World} {a b t dm : Nat} {st : St}
def NewR (B : Nat) (L : Nat → Prop) (w : World) (e : Ending) (w' : World) : Prop :=
  ∃ a b t dm, e = .returned (.pointer (some ⟨a, 0, none⟩)) ∧ w.heap.size ≤ a ∧ TA w' a b ∧ WB B (fun x => x = a ∨ L x) w' b t dm newSt ∧ KeptP B L w w'
theorem tnew_any (w : World) (hB : B ≤ w.heap.size) (hL : ∀ x, L x → x < w.heap.size) (hE : Env E B w) : Calls Tryd.prog 7 #[] w (NewR B L w) := by
  have HE := Lib.hid hE
  have HB := Lib.hid hB
  have HL := Lib.hid hL
  generalize hP : NewR B L w = Post
  have HP := Lib.hid hP
  clear hE hB hL hP
  go_enter Tryd.func7, Tryd.ntmps7
  go_wp2_with fail
  refine (wnew_any (E := E) w HB.out HL.out HE.out).mono ?_
  rintro e w1 ⟨rfl, h1, k1⟩
  have H1 := Lib.hid h1
  have K1 := Lib.hid k1
  clear h1 k1
  go_wp2
  rw [← HP.out]
  refine ⟨w1.heap.size, w.heap.size + 2, w.heap.size, w.heap.size + 1, rfl, K1.out.below.size, ⟨by simp, by simp⟩, H1.out.loc _, K1.out.trans (H1.out.kept (bl_alloc (Below.refl _ _) _))⟩
end
end Go.Proofs.YtjmbilbkmcebeaaDoor
end

section
/- The walk of package tree's Look. -/
namespace Go.Proofs.YtjmbilbkmcebeaaDoor
open Go Go.RowKit
set_option maxRecDepth 100000
set_option linter.unusedSimpArgs false
set_option linter.unusedVariables false
attribute [local go_sem] giv
variable {E : Nat → Addr} {B : Nat}

section
variable {L : Nat → Prop} {w : World} {a b t dm : Nat} {st : St}
def LookR (E : Nat → Addr) (B : Nat) (L : Nat → Prop) (b t dm : Nat) (st : St) (R : Int × Nd) (w : World) (e : Ending) (w' : World) : Prop :=
  e = .returned (.tuple #[encN R.2, errOf E R.1]) ∧ WB B L w' b t dm st ∧ KeptP B L w w'
end
end Go.Proofs.YtjmbilbkmcebeaaDoor
end
