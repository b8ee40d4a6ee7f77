/- Merged texts: TreeFn4 TreeMake TreeUnl TreeLook TreeMisc TreeHard TreeRenF TreeClone TreeDirs TreeCodes. -/
import Derived.Test.YtjekpbkmhgfhoaaGreatDoorPBase25
import Derived.Test.YtjekpbkmhgfhoaaGreatDoorPBase30
import Derived.Test.YtjekpbkmhgfhoaaGreatDoorPBase21
import Derived.Test.YtjekpbkmhgfhoaaGreatDoorPBase12
section
/- The walks of package tree: two, onto. -/
namespace Go.Proofs.YtjekpbkmhgfhoaaGreatDoor
open Go Go.RowKit
set_option maxRecDepth 100000
set_option linter.unusedSimpArgs false
set_option linter.unusedVariables false
attribute [local go_sem] giv
variable {E : Nat → Addr} {B : Nat}

section
variable {L : Nat → Prop} {w : World} {a b t dm : Nat} {st : St}
theorem tonto_any (ha : TA w a b) (hl : L a) (h : WB B L w b t dm st) (g : Good st) (n m : Nd) (hm : -9223372036854775808 ≤ m.id ∧ m.id ≤ 9223372036854775807) (hE : Env E B w) :
    Calls Tryz.prog 75 #[.pointer (some ⟨a, 0, none⟩), encN n, encN m] w fun e w' => e = .returned (errOf E (ontoC st n m)) ∧ WB B L w' b t dm st ∧ KeptP B L w w' := by
  have H := Lib.hid h
  have HE := Lib.hid hE
  have HA := Lib.hid ha
  have HG := Lib.hid g
  have C1 := Lib.hid (show errOf E 111 = errV E 7 from errOf_code (g := 7) (by decide))
  have C2 := Lib.hid (show errOf E 112 = errV E 1 from errOf_code (g := 1) (by decide))
  have C3 := Lib.hid (show errOf E 113 = errV E 12 from errOf_code (g := 12) (by decide))
  have e1 := hE.cell 7 (by decide)
  have l1 : 7 < w.heap.size := Nat.lt_of_lt_of_le (hE.glt _ (by decide)) hE.size
  have e2 := hE.cell 1 (by decide)
  have l2 : 1 < w.heap.size := Nat.lt_of_lt_of_le (hE.glt _ (by decide)) hE.size
  have l2_z : 0 < w.heap.size := Nat.lt_of_le_of_lt (Nat.zero_le _) l2
  have l0 : 0 < w.heap.size := by omega
  have l1b : 7 ≤ w.heap.size := by omega
  have l2b : 1 ≤ w.heap.size := by omega
  obtain ⟨oc, hoc⟩ : ∃ oc, ontoC st n m = oc := ⟨_, rfl⟩
  rw [hoc]
  have HOC := Lib.hid hoc
  generalize hP : (fun (e : Ending) (w' : World) => e = .returned (errOf E oc) ∧ WB B L w' b t dm st ∧ KeptP B L w w') = Post
  have HP := Lib.hid hP
  clear hP h hE ha hl g hoc
  unfold ontoC at HOC
  obtain ⟨n1, n2, n3, n4, n5, n6⟩ := n
  obtain ⟨m1, m2, m3, m4, m5, m6⟩ := m
  simp only at HOC hm
  simp only [encN]
  have hbl : Below w.heap.size w ((w.alloc (.cells #[.int .i64 n1, .int .i64 n2, .int .i64 n3, .int .i64 n4, .string n5, .int .i64 n6] 59)).alloc (.cells #[.int .i64 m1, .int .i64 m2, .int .i64 m3, .int .i64 m4, .string m5, .int .i64 m6] 59)) := bl_alloc (bl_alloc (Below.refl _ _) _) _
  have HB := Lib.hid hbl
  have HW := Lib.hid (H.out.below hbl)
  have HK := Lib.hid (H.out.kept hbl)
  clear hbl
  by_cases hn : n2 = 2
  · subst hn
    by_cases hm2 : m2 = 2
    · subst hm2
      go_enter Tryz.func75, Tryz.ntmps75
      go_wp2_with fail
      refine (tfull_any (HA.out.below HB.out) HW.out HG.out hm).mono ?_
      rintro e w1 ⟨rfl, h1, k1⟩
      have H1 := Lib.hid h1
      have K1 := Lib.hid (HK.out.trans k1)
      have HE1 := Lib.hid (HE.out.keep K1.out.below)
      have e3 := HE1.out.cell 12 (by decide)
      have l3 : 12 < w1.heap.size := Nat.lt_of_lt_of_le (HE1.out.glt _ (by decide)) HE1.out.size
      clear h1 k1
      obtain ⟨fu, hfu⟩ : ∃ fu, st.full m1 = fu := ⟨_, rfl⟩
      have HFU := Lib.hid hfu
      rw [hfu]
      clear hfu
      cases fu with
      | true =>
        go_wp2
        rw [← HP.out]
        refine ⟨?_, H1.out, K1.out⟩
        rw [show oc = 113 by rw [← HOC.out, HFU.out]; decide, C3.out]
        rfl
      | false =>
        go_wp2
        rw [← HP.out]
        refine ⟨?_, H1.out, K1.out⟩
        rw [show oc = 0 by rw [← HOC.out, HFU.out]; decide]
        rfl
    · have hb1 : (m2 == 2) = false := by rw [beq_eq_false_iff_ne]; exact hm2
      have hb2 : (m2 != 2) = true := by simp [bne, hb1]
      have HQ : Hid (oc = 111) := Lib.hid (by rw [← HOC.out, if_pos ⟨rfl, hm2⟩])
      clear hm2
      go_enter Tryz.func75, Tryz.ntmps75
      go_wp2
      rw [← HP.out]
      refine ⟨?_, HW.out, HK.out⟩
      first | (rw [HQ.out, C1.out]; done) | (rw [HQ.out, C1.out]; rfl)
  · have hb3 : (n2 == 2) = false := by rw [beq_eq_false_iff_ne]; exact hn
    have hb4 : (n2 != 2) = true := by simp [bne, hb3]
    by_cases hm2 : m2 = 2
    · subst hm2
      have HQ : Hid (oc = 112) := Lib.hid (by rw [← HOC.out, if_neg (fun h => hn h.1), if_pos ⟨hn, rfl⟩])
      clear hn
      go_enter Tryz.func75, Tryz.ntmps75
      go_wp2
      rw [← HP.out]
      refine ⟨?_, HW.out, HK.out⟩
      first | (rw [HQ.out, C2.out]; done) | (rw [HQ.out, C2.out]; rfl)
    · have hb1 : (m2 == 2) = false := by rw [beq_eq_false_iff_ne]; exact hm2
      have hb2 : (m2 != 2) = true := by simp [bne, hb1]
      have HQ : Hid (oc = 0) := Lib.hid (by rw [← HOC.out, if_neg (fun h => hn h.1), if_neg (fun h => hm2 h.2), if_neg (fun h => hm2 h.1)])
      clear hn hm2
      go_enter Tryz.func75, Tryz.ntmps75
      go_wp2
      rw [← HP.out]
      refine ⟨?_, HW.out, HK.out⟩
      rw [HQ.out]
      rfl
/-- What two answers. -/
def TwoR (E : Nat → Addr) (x y : ByteArray) (w : World) (e : Ending) (w' : World) : Prop :=
  (∃ sp1 n1 c1 s1 sp2 n2 c2 s2 c, e = .returned (.tuple #[.agg #[.slice sp1 n1 c1, .bool s1], .agg #[.slice sp2 n2 c2, .bool s2], errOf E c]) ∧
    (((parseP x).1 ≠ 0 ∧ c = (parseP x).1) ∨ ((parseP x).1 = 0 ∧ c = (parseP y).1 ∧ s1 = (parseP x).2.slash ∧ s2 = (parseP y).2.slash ∧ SlS w' w.heap.size (.slice sp1 n1 c1) (parseP x).2.parts ∧ SlS w' w.heap.size (.slice sp2 n2 c2) (parseP y).2.parts))) ∧ Below w.heap.size w w'
set_option maxHeartbeats 2000000 in
theorem ttwo_any (x y : ByteArray) (w : World) (hE : EnvM E B w) : Calls Tryz.prog 73 #[.string x, .string y] w (TwoR E x y w) := by
  have HE := Lib.hid hE
  generalize hP : TwoR E x y w = Post
  have HP := Lib.hid hP
  clear hE hP
  go_enter Tryz.func73, Tryz.ntmps73
  go_wp2_with fail
  obtain ⟨w1, hw1⟩ : ∃ w1, w1 = (w.alloc (.cells #[.slice none 0 0, .bool false] 120)).alloc (.cells #[.slice none 0 0, .bool false] 120) := ⟨_, rfl⟩
  have b1 : Below w.heap.size w w1 := by rw [hw1]; exact bl_alloc (bl_alloc (Below.refl _ _) _) _
  have z1 : w1.heap.size = w.heap.size + 2 := by rw [hw1]; simp
  have ra1 : Row w1 w.heap.size 120 [.slice none 0 0, .bool false] := by rw [hw1]; exact (Row.new w _ [.slice none 0 0, .bool false]).alloc _
  have rb1 : Row w1 (w.heap.size + 1) 120 [.slice none 0 0, .bool false] := by
    have := Row.new (w.alloc (.cells #[.slice none 0 0, .bool false] 120)) 120 [.slice none 0 0, .bool false]
    rw [hw1]
    simpa using this
  rw [← hw1]
  have HE1 := Lib.hid (HE.out.below b1)
  have B1 := Lib.hid b1
  have RA1 := Lib.hid ra1
  have RB1 := Lib.hid rb1
  clear hw1 ra1 rb1 b1
  refine (parse_any x w1 HE1.out).mono ?_
  rintro e w2 ⟨⟨v, rfl, hs2⟩, hb2⟩
  obtain ⟨sp2, cap2, rfl⟩ := slShape hs2
  have HS2 := Lib.hid hs2
  have HE2 := Lib.hid (HE1.out.below hb2)
  have B2 := Lib.hid (B1.out.trans (hb2.mono B1.out.size))
  have RA2 := Lib.hid (RA1.out.below hb2)
  have RB2 := Lib.hid (RB1.out.below hb2)
  have Z1 := Lib.hid z1
  clear hs2 hb2 RA1 RB1 B1 HE1 z1
  generalize hCC : w.heap.size + 1 = CC at *
  have hac : ¬ w.heap.size = CC := by omega
  have hca : ¬ CC = w.heap.size := by omega
  have HCC := Lib.hid hCC
  clear hCC
  rcases path_code x with hz | hz
  · rw [hz, show errOf E 0 = .nilIface from rfl]
    have HZ := Lib.hid hz
    clear hz
    go_wp2_with fail
    have b23 := bl_alloc (Below.refl w2.heap.size w2) (.cells #[.slice sp2 (parseP x).2.parts.length cap2, .bool (parseP x).2.slash] 120)
    refine (parse_any y _ (HE2.out.below b23)).mono ?_
    rintro e w3 ⟨⟨v, rfl, hs3⟩, hb3⟩
    obtain ⟨sp3, cap3, rfl⟩ := slShape hs3
    have rp3 := (Row.new w2 120 [.slice sp2 (parseP x).2.parts.length cap2, .bool (parseP x).2.slash]).below hb3
    have hb23 := bl_trans b23 hb3
    have HS3 := Lib.hid hs3
    have HS2' := Lib.hid (HS2.out.below hb23)
    have B3 := Lib.hid (B2.out.trans (hb23.mono B2.out.size))
    have RA3 := Lib.hid (RA2.out.below hb23)
    have RB3 := Lib.hid (RB2.out.below hb23)
    have RP3 := Lib.hid rp3
    have p2l := rp3.lt
    clear hs3 hb3 hb23 b23 rp3
    go_wp2_with fail
    obtain ⟨w4, hw4⟩ : ∃ w4, w4 = w3.alloc (.cells #[.slice sp3 (parseP y).2.parts.length cap3, .bool (parseP y).2.slash] 120) := ⟨_, rfl⟩
    have b34 : Below w3.heap.size w3 w4 := by rw [hw4]; exact bl_alloc (Below.refl _ _) _
    have rq4 : Row w4 w3.heap.size 120 [.slice sp3 (parseP y).2.parts.length cap3, .bool (parseP y).2.slash] := by rw [hw4]; exact Row.new w3 _ [.slice sp3 (parseP y).2.parts.length cap3, .bool (parseP y).2.slash]
    rw [← hw4]
    clear hw4
    have RA4 := RA3.out.below b34
    have RB4 := RB3.out.below b34
    have RP4 := RP3.out.below b34
    have a0 : w4.cell? ⟨w.heap.size, 0, none⟩ = some (.slice none 0 0) := (RA4.cell 0).trans rfl
    have a1 : w4.cell? ⟨w.heap.size, 1, none⟩ = some (.bool false) := (RA4.cell 1).trans rfl
    have af : ∀ i, w4.frozen? ⟨w.heap.size, i, none⟩ = false := fun i => RA4.froz i
    have al : w.heap.size < w4.heap.size := RA4.lt
    have c0 : w4.cell? ⟨CC, 0, none⟩ = some (.slice none 0 0) := (RB4.cell 0).trans rfl
    have c1 : w4.cell? ⟨CC, 1, none⟩ = some (.bool false) := (RB4.cell 1).trans rfl
    have cf : ∀ i, w4.frozen? ⟨CC, i, none⟩ = false := fun i => RB4.froz i
    have cl : CC < w4.heap.size := RB4.lt
    have p0 : w4.cell? ⟨w2.heap.size, 0, none⟩ = some (.slice sp2 (parseP x).2.parts.length cap2) := (RP4.cell 0).trans rfl
    have p1 : w4.cell? ⟨w2.heap.size, 1, none⟩ = some (.bool (parseP x).2.slash) := (RP4.cell 1).trans rfl
    have pl : w2.heap.size < w4.heap.size := RP4.lt
    have q0 : w4.cell? ⟨w3.heap.size, 0, none⟩ = some (.slice sp3 (parseP y).2.parts.length cap3) := (rq4.cell 0).trans rfl
    have q1 : w4.cell? ⟨w3.heap.size, 1, none⟩ = some (.bool (parseP y).2.slash) := (rq4.cell 1).trans rfl
    have ql : w3.heap.size < w4.heap.size := rq4.lt
    have ha2 := RA2.out.lt
    have hc2 := RB2.out.lt
    have n1 : ¬ w.heap.size = w2.heap.size := by omega
    have n2 : ¬ w2.heap.size = w.heap.size := by omega
    have n3 : ¬ CC = w2.heap.size := by omega
    have n4 : ¬ w2.heap.size = CC := by omega
    have n5 : ¬ w.heap.size = w3.heap.size := by omega
    have n6 : ¬ w3.heap.size = w.heap.size := by omega
    have n7 : ¬ CC = w3.heap.size := by omega
    have n8 : ¬ w3.heap.size = CC := by omega
    have hsz := B3.out.size
    have HS4 := Lib.hid (HS3.out.below b34)
    have HS5 := Lib.hid (HS2'.out.below b34)
    have B4 := Lib.hid (B3.out.trans (b34.mono B3.out.size))
    have HN := Lib.hid (And.intro ha2 hc2)
    clear RA4 RB4 RP4 rq4 b34 ha2 hc2 hsz RA3 RB3 RP3 RA2 RB2 HS2 HS3 HS2' B3 B2 HE2 p2l
    go_region
    go_wp2
    rw [← HP.out]
    refine bodyPost_ret (v := .tuple #[.agg #[.slice sp2 (parseP x).2.parts.length cap2, .bool (parseP x).2.slash], .agg #[.slice sp3 (parseP y).2.parts.length cap3, .bool (parseP y).2.slash], errOf E (parseP y).1]) (by simp [results, Tryz.results73, go_sem, a0, a1, al, c0, c1, cl, hac, hca, p0, p1, pl, q0, q1, ql, n1, n2, n3, n4, n5, n6, n7, n8]) rfl ?_
    have hle : w.heap.size ≤ CC := by have := HCC.out; omega
    have hla : w.heap.size ≤ w.heap.size := Nat.le_refl _
    have ht : ∀ u0 u1 u2 u3, Touch (fun x => x = w.heap.size ∨ x = CC) w4 ((((w4.setCell ⟨w.heap.size, 0, none⟩ u0).setCell ⟨w.heap.size, 1, none⟩ u1).setCell ⟨CC, 0, none⟩ u2).setCell ⟨CC, 1, none⟩ u3).drew := fun u0 u1 u2 u3 =>
      Touch.drew (Touch.setCell (S := fun x => x = w.heap.size ∨ x = CC) (Touch.setCell (S := fun x => x = w.heap.size ∨ x = CC) (Touch.setCell (S := fun x => x = w.heap.size ∨ x = CC) (Touch.setCell (S := fun x => x = w.heap.size ∨ x = CC) (Touch.refl _ _) (.inl (.inl rfl)) _) (.inl (.inl rfl)) _) (.inl (.inr rfl)) _) (.inl (.inr rfl)) _)
    refine ⟨⟨sp2, _, cap2, _, sp3, _, cap3, _, _, rfl, .inr ⟨HZ.out, rfl, rfl, rfl, ?_, ?_⟩⟩, ?_⟩
    · refine SlE.touch (HS5.out.mono (by have := Z1.out; omega)) (ht _ _ _ _) (fun x hx he => ?_)
      have h1 := (HS5.out.lt x hx).1
      have h2 := Z1.out
      have h3 := HCC.out
      rcases he with rfl | rfl <;> omega
    · refine SlE.touch (HS4.out.mono (by have := HN.out.1; simp; omega)) (ht _ _ _ _) (fun x hx he => ?_)
      have h1 := (HS4.out.lt x hx).1
      have h2 := HN.out
      simp at h1
      rcases he with rfl | rfl <;> omega
    · repeat (first | with_reducible exact B4.out | with_reducible refine Below.setCell ?_ hla _ | with_reducible refine Below.setCell ?_ hle _ | with_reducible refine Below.drew ?_ | with_reducible refine bl_alloc ?_ _)
  · obtain ⟨ad, had⟩ := errOf_some (E := E) hz
    have HZ := Lib.hid hz
    rw [had]
    have CE := Lib.hid had
    have a0 : w2.cell? ⟨w.heap.size, 0, none⟩ = some (.slice none 0 0) := (RA2.out.cell 0).trans rfl
    have a1 : w2.cell? ⟨w.heap.size, 1, none⟩ = some (.bool false) := (RA2.out.cell 1).trans rfl
    have af : ∀ i, w2.frozen? ⟨w.heap.size, i, none⟩ = false := fun i => RA2.out.froz i
    have al : w.heap.size < w2.heap.size := RA2.out.lt
    have c0 : w2.cell? ⟨CC, 0, none⟩ = some (.slice none 0 0) := (RB2.out.cell 0).trans rfl
    have c1 : w2.cell? ⟨CC, 1, none⟩ = some (.bool false) := (RB2.out.cell 1).trans rfl
    have cf : ∀ i, w2.frozen? ⟨CC, i, none⟩ = false := fun i => RB2.out.froz i
    have cl : CC < w2.heap.size := RB2.out.lt
    have hle : w.heap.size ≤ CC := by have := HCC.out; omega
    have hla : w.heap.size ≤ w.heap.size := Nat.le_refl _
    clear had hz HS2
    go_wp2
    rw [← HP.out]
    refine bodyPost_ret (v := .tuple #[.agg #[.slice none 0 0, .bool false], .agg #[.slice none 0 0, .bool false], .iface 295 (.pointer (some ad))]) (by simp [results, Tryz.results73, go_sem, a0, a1, al, c0, c1, cl, hac, hca]) rfl ?_
    refine ⟨⟨none, 0, 0, false, none, 0, 0, false, (parseP x).1, by rw [CE.out], .inl ⟨by have := HZ.out; omega, rfl⟩⟩, ?_⟩
    repeat (first | with_reducible exact B2.out | with_reducible refine Below.setCell ?_ hla _ | with_reducible refine Below.setCell ?_ hle _ | with_reducible refine Below.drew ?_ | with_reducible refine bl_alloc ?_ _)
end
end Go.Proofs.YtjekpbkmhgfhoaaGreatDoor
end

section
/- The walk of package tree's Make. -/
namespace Go.Proofs.YtjekpbkmhgfhoaaGreatDoor
open Go Go.RowKit
set_option maxRecDepth 100000
set_option linter.unusedSimpArgs false
set_option linter.unusedVariables false
attribute [local go_sem] giv
variable {E : Nat → Addr} {B : Nat}

theorem putN_twice {n n0 : Nd} (hid : n0.id = n.id) : ∀ (l : List NR), findN l n.id = none → putN n (putN n0 l) = putN n l
  | [], _ => by
    show putN n [⟨n0, []⟩] = [⟨n, []⟩]
    unfold putN
    rw [if_neg (by simp only; omega), if_pos (by simp only; exact hid.symm)]
    simp
  | r :: l, h => by
    rw [findN_cons] at h
    by_cases hr : r.nd.id = n.id
    · rw [if_pos hr] at h; cases h
    · rw [if_neg hr] at h
      have ih := putN_twice hid l h
      by_cases hlt : n.id < r.nd.id
      · rw [show putN n0 (r :: l) = ⟨n0, []⟩ :: r :: l by unfold putN; rw [if_pos (by omega)]]
        rw [show putN n (r :: l) = ⟨n, []⟩ :: r :: l by unfold putN; rw [if_pos hlt]]
        unfold putN
        rw [if_neg (by simp only; omega), if_pos (by simp only; exact hid.symm)]
        simp
      · rw [show putN n0 (r :: l) = r :: putN n0 l by conv => lhs; unfold putN; rw [if_neg (by omega), if_neg (by omega)]]
        rw [show putN n (r :: l) = r :: putN n l by conv => lhs; unfold putN; rw [if_neg hlt, if_neg (fun e => hr e.symm)]]
        conv => lhs; unfold putN; rw [if_neg hlt, if_neg (fun e => hr e.symm), ih]
theorem put_twice {st : St} {n n0 : Nd} (hid : n0.id = n.id) (hg : st.get n.id = none) : (st.put n0).put n = st.put n := by
  show (⟨max (max st.last n0.id) n.id, putN n (putN n0 st.ns)⟩ : St) = ⟨max st.last n.id, putN n st.ns⟩
  rw [putN_twice hid st.ns hg, hid]
  congr 1
  omega
section
variable {L : Nat → Prop} {w : World} {a b t dm : Nat} {st : St}
theorem wb_new (h : WB B L w b t dm st) (f : Full st) {k : Int} (hk : kindB k = true) (hn : st.ns.length < 512) (hl : st.last < 16777215) (hE : Env E B w) :
    Calls Tryz.prog 105 #[.pointer (some ⟨t, 0, none⟩), .int .i64 k] w fun e w' => e = .returned (.tuple #[.int .i64 (st.last + 1), .nilIface]) ∧
      WB B L w' b t dm (st.put (newNd (st.last + 1) k)) ∧ KeptP B L w w' := by
  have hlo := f.lo
  have hg : st.get (st.last + 1) = none := f.no (.inl (by omega))
  have hnd : st.nd (st.last + 1) = none := by unfold St.nd; rw [hg]; rfl
  have hid : (newNd (st.last + 1) k).id = st.last + 1 := rfl
  refine (wl_new h hk hn ⟨by omega, hl⟩ hnd hE).mono ?_
  rintro e w' ⟨rfl, h1, k1⟩
  refine ⟨rfl, ?_, k1⟩
  have he := put_ends f.rise (newNd (st.last + 1) k)
  unfold WB
  rw [nd_put f.rise, ents_put f.rise, he.1, he.2, hid, hnd, hg]
  have hents : (fun i => if i = st.last + 1 then keepE (newNd (st.last + 1) k) none else st.ents i) = st.ents := by
    funext i
    split
    · rename_i hi
      subst hi
      unfold St.ents
      rw [hg]
      rfl
    · rfl
  rw [hents, show max st.last (st.last + 1) = st.last + 1 by omega]
  refine h1.weak ?_
  intro d hd i hi
  have h3 := hd i hi
  rw [St.isDir_nd, nd_put f.rise]
  unfold upd
  by_cases he2 : i = st.last + 1
  · subst he2
    rw [isDir_no hnd] at h3
    cases h3
  · rw [if_neg (by rw [hid]; exact he2), ← St.isDir_nd]; exact h3
theorem wb_new_full (h : WB B L w b t dm st) {k : Int} (hk : kindB k = true) (hf : 512 ≤ st.ns.length ∨ 16777215 ≤ st.last) (hE : Env E B w) :
    Calls Tryz.prog 105 #[.pointer (some ⟨t, 0, none⟩), .int .i64 k] w fun e w' => e = .returned (.tuple #[.int .i64 0, errV E 11]) ∧ Below w.heap.size w w' := wl_new_full h hk hf hE
/-- What Make answers. -/
def MakeR (E : Nat → Addr) (B : Nat) (L : Nat → Prop) (b t dm : Nat) (R : Int × Int × St) (w : World) (e : Ending) (w' : World) : Prop :=
  e = .returned (.tuple #[.int .i64 R.2.1, errOf E R.1]) ∧ WB B L w' b t dm R.2.2 ∧ KeptP B L w w'
theorem tmake_bad (h : WB B L w b t dm st) (s : ByteArray) (k : Int) (to : ByteArray) (hE : EnvM E B w) (hbad : (parseP s).1 ≠ 0 ∨ k < 1 ∨ 3 < k) :
    Calls Tryz.prog 57 #[.pointer (some ⟨a, 0, none⟩), .string s, .int .i64 k, .string to] w (MakeR E B L b t dm (makeT st s k to) w) := by
  have H := Lib.hid h
  have HE := Lib.hid hE
  obtain ⟨R, hR⟩ : ∃ R, makeT st s k to = R := ⟨_, rfl⟩
  have HR := Lib.hid hR
  rw [hR]
  generalize hP : MakeR E B L b t dm R w = Post
  have HP := Lib.hid hP
  have HB := Lib.hid hbad
  clear hP h hE hR hbad
  go_enter Tryz.func57, Tryz.ntmps57
  go_wp2_with fail
  refine (parse_any s w HE.out).mono ?_
  rintro e w2 ⟨⟨v, rfl, hs2⟩, hb2⟩
  obtain ⟨sp2, cap2, rfl⟩ := slShape hs2
  have HW2 := Lib.hid (H.out.below hb2)
  have HK2 := Lib.hid (H.out.kept hb2)
  have HE2 := Lib.hid (HE.out.below hb2)
  clear hs2 hb2
  rcases path_code s with hz | hz
  · have hk : k < 1 ∨ 3 < k := HB.out.resolve_left (fun h => h hz)
    have HQ : Hid (R = (114, 0, st)) := Lib.hid (by rw [← HR.out]; unfold makeT; simp only; rw [if_neg (by simp [hz]), if_pos hk])
    have c1 : errOf E 114 = errV E 3 := errOf_code (g := 3) (by decide)
    have CE := Lib.hid c1
    have e1 := HE2.out.cell 3 (by decide)
    have l1 : 3 < w2.heap.size := Nat.lt_of_lt_of_le (HE2.out.glt _ (by decide)) HE2.out.size
    rw [hz, show errOf E 0 = .nilIface from rfl]
    clear hz c1
    by_cases hk1 : k < 1
    case' neg => have hk3 : 3 < k := hk.resolve_left hk1
    all_goals
      clear hk
      go_wp2_with fail
      go_region
      go_wp2
      rw [← HP.out]
      unfold MakeR
      rw [HQ.out]
      refine ⟨by rw [← CE.out]; rfl, HW2.out.below ?_, HK2.out.then ?_ HW2.out.1 HW2.out.2.1⟩
      all_goals repeat (first | with_reducible exact Below.refl _ _ | with_reducible refine Below.drew ?_ | with_reducible refine bl_alloc ?_ _)
  · obtain ⟨ad, had⟩ := errOf_some (E := E) hz
    have HQ : Hid (R = ((parseP s).1, 0, st)) := Lib.hid (by rw [← HR.out]; unfold makeT; simp only; rw [if_pos (show (parseP s).1 ≠ 0 by omega)])
    rw [had]
    have CE := Lib.hid had
    clear had hz
    go_wp2
    rw [← HP.out]
    unfold MakeR
    rw [HQ.out]
    exact ⟨by rw [CE.out]; rfl, HW2.out.below (bl_alloc (Below.refl _ _) _), HK2.out.then (bl_alloc (Below.refl _ _) _) HW2.out.1 HW2.out.2.1⟩
def mkNd (st : St) (k : Int) (to : ByteArray) (d : Int) : Nd := ⟨st.last + 1, k, 1, 0, if k = 3 then to else noText, if k = 2 then d else 0⟩
theorem make_q {st : St} {s : ByteArray} {k : Int} {to : ByteArray} (h0 : (parseP s).1 = 0) (hk : 1 ≤ k ∧ k ≤ 3) : makeT st s k to =
    if k = 3 ∧ tgtCode to ≠ 0 then (tgtCode to, 0, st) else if (freshP st (parseP s).2 (k == 2)).1 ≠ 0 then ((freshP st (parseP s).2 (k == 2)).1, 0, st) else
    if 512 ≤ st.ns.length ∨ 16777215 ≤ st.last then (104, 0, st) else
    (0, st.last + 1, (st.put ⟨st.last + 1, k, 1, 0, if k = 3 then to else noText, if k = 2 then (freshP st (parseP s).2 (k == 2)).2.dir else 0⟩).addE (freshP st (parseP s).2 (k == 2)).2.dir ⟨(freshP st (parseP s).2 (k == 2)).2.name, st.last + 1, k⟩) := by
  conv => lhs; unfold makeT
  simp only
  rw [if_neg (by simp [h0]), if_neg (by omega)]
theorem freshP_code (st : St) (p : Pth) (sl : Bool) : CodeOk (freshP st p sl).1 := by
  unfold freshP
  simp only
  split
  · exact lastP_code _ _
  · split
    · exact .inr (by decide)
    · split
      · exact .inr (by decide)
      · exact lastP_code _ _
theorem fresh_add {st : St} (f : Full st) {s : ByteArray} {sl : Bool} {fd fn : Int} {fname : ByteArray} (h : freshP st (parseP s).2 sl = (0, ⟨fd, fn, fname⟩)) (h0 : (parseP s).1 = 0) {k : Int} (hk : 1 ≤ k ∧ k ≤ 3) (hl : st.last < 16777215) (n : Nd) (hn : n.id = st.last + 1) :
    (∃ x, st.get fd = some x) ∧ (st.put n).isDir fd = true ∧ addCode (entOf ((st.put n).ents fd)) ⟨fname, st.last + 1, k⟩ = 0 ∧ 1 ≤ fd ∧ fd ≤ 16777215 := by
  obtain ⟨h1, h2, _⟩ := freshP_ok h
  obtain ⟨x, h3, h4, h5⟩ := h1.fresh f.toGood h2
  obtain ⟨h6, h7⟩ := h1.name (show parseP s = (0, (parseP s).2) by rw [← h0])
  have hlo := f.lo
  have hfd := dir_ids f.toGood h3
  simp only at h3 h5 h6 h7 hfd
  have hne : fd ≠ n.id := by omega
  have hg : (st.put n).get fd = some x := by rw [get_put f.rise, if_neg hne]; exact h3
  refine ⟨⟨x, h3⟩, ?_, ?_, hfd.1, hfd.2.1⟩
  · unfold St.isDir; rw [hg]; simp [h4]
  · have he : (st.put n).ents fd = x.ents := by unfold St.ents; rw [hg]; rfl
    have hm : mayB ⟨fname, st.last + 1, k⟩ = true := by
      simp only [mayB, Bool.and_eq_true, decide_eq_true_eq]
      omega
    unfold addCode
    rw [if_pos h6, if_neg (by rw [h7]; decide), if_pos hm, he, h5]
    rfl
theorem tgtCode_ok (t : ByteArray) : CodeOk (tgtCode t) := by
  unfold tgtCode
  split
  · exact .inr (by decide)
  · split
    · exact .inr (by decide)
    · split
      · exact .inr (by decide)
      · exact .inl rfl
set_option maxHeartbeats 4000000 in
theorem tmake_ok (ha : TA w a b) (hl : L a) (h : WB B L w b t dm st) (f : Full st) (s : ByteArray) {k : Int} (to : ByteArray) (hE : EnvM E B w) (h0 : (parseP s).1 = 0) (hk : 1 ≤ k ∧ k ≤ 3) :
    Calls Tryz.prog 57 #[.pointer (some ⟨a, 0, none⟩), .string s, .int .i64 k, .string to] w (MakeR E B L b t dm (makeT st s k to) w) := by
  have H := Lib.hid h
  have HF := Lib.hid f
  have HE := Lib.hid hE
  have HA := Lib.hid ha
  have HLA := Lib.hid hl
  have H0 := Lib.hid h0
  obtain ⟨R, hR⟩ : ∃ R, makeT st s k to = R := ⟨_, rfl⟩
  rw [hR]
  rw [make_q h0 hk] at hR
  have HR := Lib.hid hR
  generalize hP : MakeR E B L b t dm R w = Post
  have HP := Lib.hid hP
  clear hP h hE hR ha hl f h0
  have hk123 : k = 1 ∨ k = 2 ∨ k = 3 := by omega
  go_enter Tryz.func57, Tryz.ntmps57
  go_wp2_with fail
  refine (parse_any s w HE.out).mono ?_
  rintro e w2 ⟨⟨v, rfl, hs2⟩, hb2⟩
  obtain ⟨sp2, cap2, rfl⟩ := slShape hs2
  rw [H0.out, show errOf E 0 = .nilIface from rfl]
  have HS2 := Lib.hid hs2
  have HLP : Hid (∀ x, (Value.slice sp2 (parseP s).2.parts.length cap2).ownBlock = some x → w.heap.size ≤ x ∧ x < w2.heap.size) := Lib.hid hs2.lt
  obtain ⟨L1, hL1⟩ : ∃ L1 : Nat → Prop, L1 = fun x => (Value.slice sp2 (parseP s).2.parts.length cap2).ownBlock = some x ∨ L x := ⟨_, rfl⟩
  have G2 : Hid (Gd B L L1 w b t dm st (fun x => (Value.slice sp2 (parseP s).2.parts.length cap2).ownBlock = some x) w2) := Lib.hid (by
    rw [hL1]
    exact Gd.first H.out hb2 HLP.out)
  have HLs : Hid (L1 a) := Lib.hid (by rw [hL1]; exact .inr HLA.out)
  have HL1o : Hid (∀ x, (Value.slice sp2 (parseP s).2.parts.length cap2).ownBlock = some x → L1 x) := Lib.hid (fun x hx => by rw [hL1]; exact .inl hx)
  have HE2 := Lib.hid (HE.out.below hb2)
  have HA2 := Lib.hid (HA.out.below hb2)
  clear hs2 hb2 hL1
  have HR2 := Lib.hid (HS2.out.rd (fun _ => rfl))
  have HLEN := Lib.hid (Nat.le_trans (parse_len s) (show 257 ≤ 1000 by decide))
  rcases hk123 with rfl | rfl | rfl
  · obtain ⟨F, hF⟩ : ∃ F, freshP st ⟨(parseP s).2.parts, (parseP s).2.slash⟩ false = F := ⟨_, rfl⟩
    have hF0 : freshP st (parseP s).2 ((1 : Int) == 2) = F := hF
    have HRF : Hid (R = if F.1 ≠ 0 then (F.1, 0, st) else if 512 ≤ st.ns.length ∨ 16777215 ≤ st.last then (104, 0, st) else (0, st.last + 1, (st.put (mkNd st 1 to F.2.dir)).addE F.2.dir ⟨F.2.name, st.last + 1, 1⟩)) := Lib.hid (by
      have h1 := HR.out
      rw [if_neg (fun h => absurd h.1 (by decide)), hF0] at h1
      exact h1.symm)
    have HF1 := Lib.hid hF
    clear hF0 hF
    obtain ⟨w3, hw3⟩ : ∃ w3, w3 = w2.alloc (.cells #[.slice sp2 (parseP s).2.parts.length cap2, .bool (parseP s).2.slash] 120) := ⟨_, rfl⟩
    have HB : Hid (Below w2.heap.size w2 w3) := Lib.hid (by rw [hw3]; exact bl_alloc (Below.refl _ _) _)
    go_wp2_with fail
    rw [← hw3]
    clear hw3
    have G3 := Lib.hid (G2.out.below HB.out)
    have HE3 := Lib.hid (HE2.out.below HB.out)
    have HA3 := Lib.hid (HA2.out.below HB.out)
    have HR3 := Lib.hid (HR2.out.below HB.out)
    clear G2 HE2 HA2 HR2 HS2
    refine (tfresh_any HA3.out HLs.out G3.out.tree HF.out HR3.out HL1o.out HLEN.out (parse_small s) (parseP s).2.slash _ HE3.out).mono ?_
    rintro e w4 ⟨rfl, h4, k4⟩
    have hfc := freshP_code st ⟨(parseP s).2.parts, (parseP s).2.slash⟩
    have G4 := Lib.hid (G3.out.then h4 k4)
    have HE4 := Lib.hid (HE3.out.keep k4.below)
    have HA4 := Lib.hid (HA3.out.kept HLs.out k4)
    clear h4 k4 G3 HE3 HA3 HR3
    rw [HF1.out]
    have hfc2 := hfc _ |> (HF1.out ▸ ·)
    obtain ⟨fc, fd, fn, fname⟩ := F
    simp only at hfc2 ⊢
    clear hfc
    have HFC := Lib.hid hfc2
    clear hfc2
    rcases HFC.out with hz | hz
    · subst hz
      rw [show errOf E 0 = .nilIface from rfl]
      obtain ⟨a0, al⟩ := HA4.out
      have b0 := G4.out.tree.c0
      have bl0 := G4.out.tree.lt.1
      have hlo := HF.out.lo
      go_wp2_with fail
      have G5 : Hid (Gd B L (fun x => x = w4.heap.size ∨ L1 x) w b t dm st (fun _ => False) (w4.alloc (.cells #[.int .i64 fd, .int .i64 fn, .string fname] 127))) :=
        Lib.hid ⟨WL.loc G4.out.tree _, (G4.out.alloc _).kept, fun x hx => .inr (G4.out.sub x hx), fun _ h => h.elim⟩
      have HE5 := Lib.hid (HE4.out.below (bl_alloc (Below.refl w4.heap.size w4) (.cells #[.int .i64 fd, .int .i64 fn, .string fname] 127)))
      have HA5 := Lib.hid (HA4.out.below (bl_alloc (Below.refl w4.heap.size w4) (.cells #[.int .i64 fd, .int .i64 fn, .string fname] 127)))
      have HL2 : Hid ((fun x => x = w4.heap.size ∨ L1 x) a) := Lib.hid (.inr HLs.out)
      by_cases hfull : 512 ≤ st.ns.length ∨ 16777215 ≤ st.last
      · have HQ : Hid (R = (104, 0, st)) := Lib.hid (by rw [HRF.out, if_neg (by simp), if_pos hfull])
        refine (wb_new_full G5.out.tree (by decide) hfull HE5.out.toEnv).mono ?_
        rintro e w6 ⟨rfl, hb6⟩
        have c1 : errOf E 104 = errV E 11 := errOf_code (g := 11) (by decide)
        have CE := Lib.hid c1
        have G6 := Lib.hid (G5.out.below hb6)
        clear c1 hb6 hfull a0 al b0 bl0
        go_wp2
        rw [← HP.out]
        unfold MakeR
        rw [HQ.out]
        exact ⟨by rw [CE.out]; rfl, G6.out.out.1, G6.out.out.2⟩
      · have HQ : Hid (R = (0, st.last + 1, (st.put (mkNd st 1 to fd)).addE fd ⟨fname, st.last + 1, 1⟩)) := Lib.hid (by rw [HRF.out, if_neg (by simp), if_neg hfull])
        have hlen : st.ns.length < 512 := by omega
        have hlast : st.last < 16777215 := by omega
        have HLEN2 := Lib.hid hlen
        have HLAST := Lib.hid hlast
        refine (wb_new G5.out.tree HF.out (by decide) hlen hlast HE5.out.toEnv).mono ?_
        rintro e w6 ⟨rfl, h6, k6⟩
        have rf6 := (Row.new w4 127 [.int .i64 fd, .int .i64 fn, .string fname]).keep (k6.loc _ (.inl rfl))
        have G6 := Lib.hid (G5.out.then h6 k6)
        have HE6 := Lib.hid (HE5.out.keep k6.below)
        have HA6 := Lib.hid (HA5.out.kept HL2.out k6)
        have RF6 := Lib.hid rf6
        have x0 : w6.cell? ⟨w4.heap.size, 0, none⟩ = some (.int .i64 fd) := (rf6.cell 0).trans rfl
        have x2 : w6.cell? ⟨w4.heap.size, 2, none⟩ = some (.string fname) := (rf6.cell 2).trans rfl
        have xl := rf6.lt
        clear h6 k6 rf6 a0 al b0 bl0 hfull hlen hlast G4 HE4 HA4
        go_wp2_with fail
        have HFA : Hid (∀ k : Int, 1 ≤ k ∧ k ≤ 3 → ∀ n : Nd, n.id = st.last + 1 → (∃ x, st.get fd = some x) ∧ (st.put n).isDir fd = true ∧ addCode (entOf ((st.put n).ents fd)) ⟨fname, st.last + 1, k⟩ = 0 ∧ 1 ≤ fd ∧ fd ≤ 16777215) := Lib.hid (fun k hk n hn => fresh_add HF.out HF1.out H0.out hk HLAST.out n hn)
        obtain ⟨xd, hxd⟩ := (HFA.out 1 (by decide) (newNd (st.last + 1) 1) rfl).1
        have HV := Lib.hid (make_valid (kind := 1) (t := to) HF.out.toGood hxd (by decide) (fun h => absurd h (by decide)) HLAST.out)
        have HGN : Hid (st.get (st.last + 1) = none) := Lib.hid (HF.out.no (.inl (by omega)))
        clear hxd
        refine (tput_ok (HA6.out.below (bl_alloc (Below.refl _ _) _)) HL2.out (G6.out.alloc _).tree (putN_rise HF.out.rise) (mkNd st 1 to fd) HV.out (fun h => by
          have h1 := get_put HF.out.rise (n := newNd (st.last + 1) 1) (st.last + 1)
          rw [show ((mkNd st 1 to fd).id) = st.last + 1 from rfl] at h
          rw [h1] at h
          rw [if_pos (show st.last + 1 = (newNd (st.last + 1) _).id from rfl)] at h
          cases h) (HE6.out.below (bl_alloc (Below.refl _ _) _)).toEnv).mono ?_
        rintro e w7 ⟨rfl, h7, k7⟩
        rw [put_twice (n := mkNd st _ to fd) (n0 := newNd (st.last + 1) 1) rfl HGN.out] at h7
        have rf7 := (RF6.out.alloc _).keep (k7.loc _ (.inl rfl))
        have G7 := Lib.hid ((G6.out.alloc _).then h7 k7)
        have HE7 := Lib.hid ((HE6.out.below (bl_alloc (Below.refl _ _) _)).keep k7.below)
        have HA7 := Lib.hid ((HA6.out.below (bl_alloc (Below.refl _ _) _)).kept HL2.out k7)
        have y0 : w7.cell? ⟨w4.heap.size, 0, none⟩ = some (.int .i64 fd) := (rf7.cell 0).trans rfl
        have y2 : w7.cell? ⟨w4.heap.size, 2, none⟩ = some (.string fname) := (rf7.cell 2).trans rfl
        have yl := rf7.lt
        clear h7 k7 rf7 x0 x2 xl HA6 HE6 G6 RF6
        go_wp2_with fail
        have hfd := (HFA.out 1 (by decide) (newNd (st.last + 1) 1) rfl).2.2.2
        refine (tadd_ok HA7.out HL2.out G7.out.tree (by omega) (HFA.out 1 (by decide) (mkNd st 1 to fd) rfl).2.1 ⟨fname, st.last + 1, 1⟩ (HFA.out 1 (by decide) (mkNd st 1 to fd) rfl).2.2.1 HE7.out.toEnv).mono ?_
        rintro v w8 ⟨rfl, h8, k8⟩
        have G8 := Lib.hid (G7.out.then h8 k8)
        clear h8 k8 y0 y2 yl
        go_wp2
        rw [← HP.out]
        unfold MakeR
        rw [HQ.out]
        exact ⟨rfl, G8.out.out.1, G8.out.out.2⟩
    · obtain ⟨ad, had⟩ := errOf_some (E := E) hz
      have HQ : Hid (R = (fc, 0, st)) := Lib.hid (by rw [HRF.out, if_pos (show fc ≠ 0 by omega)])
      rw [had]
      have CE := Lib.hid had
      clear had hz
      go_wp2
      rw [← HP.out]
      unfold MakeR
      rw [HQ.out]
      have g := (G4.out.alloc (.cells #[.int .i64 fd, .int .i64 fn, .string fname] 127)).out
      exact ⟨by rw [CE.out], g.1, g.2⟩
  · obtain ⟨F, hF⟩ : ∃ F, freshP st ⟨(parseP s).2.parts, (parseP s).2.slash⟩ true = F := ⟨_, rfl⟩
    have hF0 : freshP st (parseP s).2 ((2 : Int) == 2) = F := hF
    have HRF : Hid (R = if F.1 ≠ 0 then (F.1, 0, st) else if 512 ≤ st.ns.length ∨ 16777215 ≤ st.last then (104, 0, st) else (0, st.last + 1, (st.put (mkNd st 2 to F.2.dir)).addE F.2.dir ⟨F.2.name, st.last + 1, 2⟩)) := Lib.hid (by
      have h1 := HR.out
      rw [if_neg (fun h => absurd h.1 (by decide)), hF0] at h1
      exact h1.symm)
    have HF1 := Lib.hid hF
    clear hF0 hF
    obtain ⟨w3, hw3⟩ : ∃ w3, w3 = w2.alloc (.cells #[.slice sp2 (parseP s).2.parts.length cap2, .bool (parseP s).2.slash] 120) := ⟨_, rfl⟩
    have HB : Hid (Below w2.heap.size w2 w3) := Lib.hid (by rw [hw3]; exact bl_alloc (Below.refl _ _) _)
    go_wp2_with fail
    rw [← hw3]
    clear hw3
    have G3 := Lib.hid (G2.out.below HB.out)
    have HE3 := Lib.hid (HE2.out.below HB.out)
    have HA3 := Lib.hid (HA2.out.below HB.out)
    have HR3 := Lib.hid (HR2.out.below HB.out)
    clear G2 HE2 HA2 HR2 HS2
    refine (tfresh_any HA3.out HLs.out G3.out.tree HF.out HR3.out HL1o.out HLEN.out (parse_small s) (parseP s).2.slash _ HE3.out).mono ?_
    rintro e w4 ⟨rfl, h4, k4⟩
    have hfc := freshP_code st ⟨(parseP s).2.parts, (parseP s).2.slash⟩
    have G4 := Lib.hid (G3.out.then h4 k4)
    have HE4 := Lib.hid (HE3.out.keep k4.below)
    have HA4 := Lib.hid (HA3.out.kept HLs.out k4)
    clear h4 k4 G3 HE3 HA3 HR3
    rw [HF1.out]
    have hfc2 := hfc _ |> (HF1.out ▸ ·)
    obtain ⟨fc, fd, fn, fname⟩ := F
    simp only at hfc2 ⊢
    clear hfc
    have HFC := Lib.hid hfc2
    clear hfc2
    rcases HFC.out with hz | hz
    · subst hz
      rw [show errOf E 0 = .nilIface from rfl]
      obtain ⟨a0, al⟩ := HA4.out
      have b0 := G4.out.tree.c0
      have bl0 := G4.out.tree.lt.1
      have hlo := HF.out.lo
      go_wp2_with fail
      have G5 : Hid (Gd B L (fun x => x = w4.heap.size ∨ L1 x) w b t dm st (fun _ => False) (w4.alloc (.cells #[.int .i64 fd, .int .i64 fn, .string fname] 127))) :=
        Lib.hid ⟨WL.loc G4.out.tree _, (G4.out.alloc _).kept, fun x hx => .inr (G4.out.sub x hx), fun _ h => h.elim⟩
      have HE5 := Lib.hid (HE4.out.below (bl_alloc (Below.refl w4.heap.size w4) (.cells #[.int .i64 fd, .int .i64 fn, .string fname] 127)))
      have HA5 := Lib.hid (HA4.out.below (bl_alloc (Below.refl w4.heap.size w4) (.cells #[.int .i64 fd, .int .i64 fn, .string fname] 127)))
      have HL2 : Hid ((fun x => x = w4.heap.size ∨ L1 x) a) := Lib.hid (.inr HLs.out)
      by_cases hfull : 512 ≤ st.ns.length ∨ 16777215 ≤ st.last
      · have HQ : Hid (R = (104, 0, st)) := Lib.hid (by rw [HRF.out, if_neg (by simp), if_pos hfull])
        refine (wb_new_full G5.out.tree (by decide) hfull HE5.out.toEnv).mono ?_
        rintro e w6 ⟨rfl, hb6⟩
        have c1 : errOf E 104 = errV E 11 := errOf_code (g := 11) (by decide)
        have CE := Lib.hid c1
        have G6 := Lib.hid (G5.out.below hb6)
        clear c1 hb6 hfull a0 al b0 bl0
        go_wp2
        rw [← HP.out]
        unfold MakeR
        rw [HQ.out]
        exact ⟨by rw [CE.out]; rfl, G6.out.out.1, G6.out.out.2⟩
      · have HQ : Hid (R = (0, st.last + 1, (st.put (mkNd st 2 to fd)).addE fd ⟨fname, st.last + 1, 2⟩)) := Lib.hid (by rw [HRF.out, if_neg (by simp), if_neg hfull])
        have hlen : st.ns.length < 512 := by omega
        have hlast : st.last < 16777215 := by omega
        have HLEN2 := Lib.hid hlen
        have HLAST := Lib.hid hlast
        refine (wb_new G5.out.tree HF.out (by decide) hlen hlast HE5.out.toEnv).mono ?_
        rintro e w6 ⟨rfl, h6, k6⟩
        have rf6 := (Row.new w4 127 [.int .i64 fd, .int .i64 fn, .string fname]).keep (k6.loc _ (.inl rfl))
        have G6 := Lib.hid (G5.out.then h6 k6)
        have HE6 := Lib.hid (HE5.out.keep k6.below)
        have HA6 := Lib.hid (HA5.out.kept HL2.out k6)
        have RF6 := Lib.hid rf6
        have x0 : w6.cell? ⟨w4.heap.size, 0, none⟩ = some (.int .i64 fd) := (rf6.cell 0).trans rfl
        have x2 : w6.cell? ⟨w4.heap.size, 2, none⟩ = some (.string fname) := (rf6.cell 2).trans rfl
        have xl := rf6.lt
        clear h6 k6 rf6 a0 al b0 bl0 hfull hlen hlast G4 HE4 HA4
        go_wp2_with fail
        have HFA : Hid (∀ k : Int, 1 ≤ k ∧ k ≤ 3 → ∀ n : Nd, n.id = st.last + 1 → (∃ x, st.get fd = some x) ∧ (st.put n).isDir fd = true ∧ addCode (entOf ((st.put n).ents fd)) ⟨fname, st.last + 1, k⟩ = 0 ∧ 1 ≤ fd ∧ fd ≤ 16777215) := Lib.hid (fun k hk n hn => fresh_add HF.out HF1.out H0.out hk HLAST.out n hn)
        obtain ⟨xd, hxd⟩ := (HFA.out 1 (by decide) (newNd (st.last + 1) 1) rfl).1
        have HV := Lib.hid (make_valid (kind := 2) (t := to) HF.out.toGood hxd (by decide) (fun h => absurd h (by decide)) HLAST.out)
        have HGN : Hid (st.get (st.last + 1) = none) := Lib.hid (HF.out.no (.inl (by omega)))
        clear hxd
        refine (tput_ok (HA6.out.below (bl_alloc (Below.refl _ _) _)) HL2.out (G6.out.alloc _).tree (putN_rise HF.out.rise) (mkNd st 2 to fd) HV.out (fun h => by
          have h1 := get_put HF.out.rise (n := newNd (st.last + 1) 2) (st.last + 1)
          rw [show ((mkNd st 2 to fd).id) = st.last + 1 from rfl] at h
          rw [h1] at h
          rw [if_pos (show st.last + 1 = (newNd (st.last + 1) _).id from rfl)] at h
          cases h) (HE6.out.below (bl_alloc (Below.refl _ _) _)).toEnv).mono ?_
        rintro e w7 ⟨rfl, h7, k7⟩
        rw [put_twice (n := mkNd st _ to fd) (n0 := newNd (st.last + 1) 2) rfl HGN.out] at h7
        have rf7 := (RF6.out.alloc _).keep (k7.loc _ (.inl rfl))
        have G7 := Lib.hid ((G6.out.alloc _).then h7 k7)
        have HE7 := Lib.hid ((HE6.out.below (bl_alloc (Below.refl _ _) _)).keep k7.below)
        have HA7 := Lib.hid ((HA6.out.below (bl_alloc (Below.refl _ _) _)).kept HL2.out k7)
        have y0 : w7.cell? ⟨w4.heap.size, 0, none⟩ = some (.int .i64 fd) := (rf7.cell 0).trans rfl
        have y2 : w7.cell? ⟨w4.heap.size, 2, none⟩ = some (.string fname) := (rf7.cell 2).trans rfl
        have yl := rf7.lt
        clear h7 k7 rf7 x0 x2 xl HA6 HE6 G6 RF6
        go_wp2_with fail
        have hfd := (HFA.out 1 (by decide) (newNd (st.last + 1) 1) rfl).2.2.2
        refine (tadd_ok HA7.out HL2.out G7.out.tree (by omega) (HFA.out 2 (by decide) (mkNd st 2 to fd) rfl).2.1 ⟨fname, st.last + 1, 2⟩ (HFA.out 2 (by decide) (mkNd st 2 to fd) rfl).2.2.1 HE7.out.toEnv).mono ?_
        rintro v w8 ⟨rfl, h8, k8⟩
        have G8 := Lib.hid (G7.out.then h8 k8)
        clear h8 k8 y0 y2 yl
        go_wp2
        rw [← HP.out]
        unfold MakeR
        rw [HQ.out]
        exact ⟨rfl, G8.out.out.1, G8.out.out.2⟩
    · obtain ⟨ad, had⟩ := errOf_some (E := E) hz
      have HQ : Hid (R = (fc, 0, st)) := Lib.hid (by rw [HRF.out, if_pos (show fc ≠ 0 by omega)])
      rw [had]
      have CE := Lib.hid had
      clear had hz
      go_wp2
      rw [← HP.out]
      unfold MakeR
      rw [HQ.out]
      have g := (G4.out.alloc (.cells #[.int .i64 fd, .int .i64 fn, .string fname] 127)).out
      exact ⟨by rw [CE.out], g.1, g.2⟩
  · have HRT : Hid (tgtCode to ≠ 0 → R = (tgtCode to, 0, st)) := Lib.hid (fun h => by rw [← HR.out, if_pos ⟨rfl, h⟩])
    obtain ⟨F, hF⟩ : ∃ F, freshP st ⟨(parseP s).2.parts, (parseP s).2.slash⟩ false = F := ⟨_, rfl⟩
    have hF0 : freshP st (parseP s).2 ((3 : Int) == 2) = F := hF
    have HRF : Hid (tgtCode to = 0 → R = if F.1 ≠ 0 then (F.1, 0, st) else if 512 ≤ st.ns.length ∨ 16777215 ≤ st.last then (104, 0, st) else (0, st.last + 1, (st.put (mkNd st 3 to F.2.dir)).addE F.2.dir ⟨F.2.name, st.last + 1, 3⟩)) := Lib.hid (fun h3 => by
      have h1 := HR.out
      rw [if_neg (fun h => h.2 h3), hF0] at h1
      exact h1.symm)
    have HF1 := Lib.hid hF
    clear hF0 hF
    have b23 := bl_alloc (Below.refl w2.heap.size w2) (.cells #[.slice sp2 (parseP s).2.parts.length cap2, .bool (parseP s).2.slash] 120)
    go_wp2_with fail
    refine (ttarget_any to _ (HE2.out.below b23).toEnv).mono ?_
    rintro e w3 ⟨rfl, hb3⟩
    have HB := Lib.hid (bl_trans b23 hb3)
    have p0 : w3.cell? ⟨w2.heap.size, 0, none⟩ = some (.slice sp2 (parseP s).2.parts.length cap2) := (((Row.new w2 120 [.slice sp2 (parseP s).2.parts.length cap2, .bool (parseP s).2.slash]).below hb3).cell 0).trans rfl
    have p1 : w3.cell? ⟨w2.heap.size, 1, none⟩ = some (.bool (parseP s).2.slash) := (((Row.new w2 120 [.slice sp2 (parseP s).2.parts.length cap2, .bool (parseP s).2.slash]).below hb3).cell 1).trans rfl
    have pl : w2.heap.size < w3.heap.size := ((Row.new w2 120 [.slice sp2 (parseP s).2.parts.length cap2, .bool (parseP s).2.slash]).below hb3).lt
    clear b23 hb3
    by_cases htc : tgtCode to = 0
    case' neg =>
      obtain ⟨ad, had⟩ := errOf_some (E := E) (c := tgtCode to) (by rcases tgtCode_ok to with h | h; exact absurd h htc; exact h)
      have HQ := Lib.hid (HRT.out htc)
      rw [had]
      have CE := Lib.hid had
      clear had htc
      go_wp2
      rw [← HP.out]
      unfold MakeR
      rw [HQ.out]
      have g := (G2.out.below HB.out).out
      refine ⟨by rw [CE.out]; rfl, g.1, g.2⟩
    have HRF0 := Lib.hid (HRF.out htc)
    have HTK0 := Lib.hid htc
    rw [htc, show errOf E 0 = .nilIface from rfl]
    clear htc HRF
    have HRF := HRF0
    clear HRF0
    go_wp2_with fail
    have G3 := Lib.hid (G2.out.below HB.out)
    have HE3 := Lib.hid (HE2.out.below HB.out)
    have HA3 := Lib.hid (HA2.out.below HB.out)
    have HR3 := Lib.hid (HR2.out.below HB.out)
    clear G2 HE2 HA2 HR2 HS2
    refine (tfresh_any HA3.out HLs.out G3.out.tree HF.out HR3.out HL1o.out HLEN.out (parse_small s) (parseP s).2.slash _ HE3.out).mono ?_
    rintro e w4 ⟨rfl, h4, k4⟩
    have hfc := freshP_code st ⟨(parseP s).2.parts, (parseP s).2.slash⟩
    have G4 := Lib.hid (G3.out.then h4 k4)
    have HE4 := Lib.hid (HE3.out.keep k4.below)
    have HA4 := Lib.hid (HA3.out.kept HLs.out k4)
    clear h4 k4 G3 HE3 HA3 HR3
    rw [HF1.out]
    have hfc2 := hfc _ |> (HF1.out ▸ ·)
    obtain ⟨fc, fd, fn, fname⟩ := F
    simp only at hfc2 ⊢
    clear hfc
    have HFC := Lib.hid hfc2
    clear hfc2
    rcases HFC.out with hz | hz
    · subst hz
      rw [show errOf E 0 = .nilIface from rfl]
      obtain ⟨a0, al⟩ := HA4.out
      have b0 := G4.out.tree.c0
      have bl0 := G4.out.tree.lt.1
      have hlo := HF.out.lo
      go_wp2_with fail
      have G5 : Hid (Gd B L (fun x => x = w4.heap.size ∨ L1 x) w b t dm st (fun _ => False) (w4.alloc (.cells #[.int .i64 fd, .int .i64 fn, .string fname] 127))) :=
        Lib.hid ⟨WL.loc G4.out.tree _, (G4.out.alloc _).kept, fun x hx => .inr (G4.out.sub x hx), fun _ h => h.elim⟩
      have HE5 := Lib.hid (HE4.out.below (bl_alloc (Below.refl w4.heap.size w4) (.cells #[.int .i64 fd, .int .i64 fn, .string fname] 127)))
      have HA5 := Lib.hid (HA4.out.below (bl_alloc (Below.refl w4.heap.size w4) (.cells #[.int .i64 fd, .int .i64 fn, .string fname] 127)))
      have HL2 : Hid ((fun x => x = w4.heap.size ∨ L1 x) a) := Lib.hid (.inr HLs.out)
      by_cases hfull : 512 ≤ st.ns.length ∨ 16777215 ≤ st.last
      · have HQ : Hid (R = (104, 0, st)) := Lib.hid (by rw [HRF.out, if_neg (by simp), if_pos hfull])
        refine (wb_new_full G5.out.tree (by decide) hfull HE5.out.toEnv).mono ?_
        rintro e w6 ⟨rfl, hb6⟩
        have c1 : errOf E 104 = errV E 11 := errOf_code (g := 11) (by decide)
        have CE := Lib.hid c1
        have G6 := Lib.hid (G5.out.below hb6)
        clear c1 hb6 hfull a0 al b0 bl0
        go_wp2
        rw [← HP.out]
        unfold MakeR
        rw [HQ.out]
        exact ⟨by rw [CE.out]; rfl, G6.out.out.1, G6.out.out.2⟩
      · have HQ : Hid (R = (0, st.last + 1, (st.put (mkNd st 3 to fd)).addE fd ⟨fname, st.last + 1, 3⟩)) := Lib.hid (by rw [HRF.out, if_neg (by simp), if_neg hfull])
        have hlen : st.ns.length < 512 := by omega
        have hlast : st.last < 16777215 := by omega
        have HLEN2 := Lib.hid hlen
        have HLAST := Lib.hid hlast
        refine (wb_new G5.out.tree HF.out (by decide) hlen hlast HE5.out.toEnv).mono ?_
        rintro e w6 ⟨rfl, h6, k6⟩
        have rf6 := (Row.new w4 127 [.int .i64 fd, .int .i64 fn, .string fname]).keep (k6.loc _ (.inl rfl))
        have G6 := Lib.hid (G5.out.then h6 k6)
        have HE6 := Lib.hid (HE5.out.keep k6.below)
        have HA6 := Lib.hid (HA5.out.kept HL2.out k6)
        have RF6 := Lib.hid rf6
        have x0 : w6.cell? ⟨w4.heap.size, 0, none⟩ = some (.int .i64 fd) := (rf6.cell 0).trans rfl
        have x2 : w6.cell? ⟨w4.heap.size, 2, none⟩ = some (.string fname) := (rf6.cell 2).trans rfl
        have xl := rf6.lt
        clear h6 k6 rf6 a0 al b0 bl0 hfull hlen hlast G4 HE4 HA4
        go_wp2_with fail
        have HFA : Hid (∀ k : Int, 1 ≤ k ∧ k ≤ 3 → ∀ n : Nd, n.id = st.last + 1 → (∃ x, st.get fd = some x) ∧ (st.put n).isDir fd = true ∧ addCode (entOf ((st.put n).ents fd)) ⟨fname, st.last + 1, k⟩ = 0 ∧ 1 ≤ fd ∧ fd ≤ 16777215) := Lib.hid (fun k hk n hn => fresh_add HF.out HF1.out H0.out hk HLAST.out n hn)
        obtain ⟨xd, hxd⟩ := (HFA.out 1 (by decide) (newNd (st.last + 1) 1) rfl).1
        have HV := Lib.hid (make_valid (kind := 3) (t := to) HF.out.toGood hxd (by decide) (fun _ => HTK0.out) HLAST.out)
        have HGN : Hid (st.get (st.last + 1) = none) := Lib.hid (HF.out.no (.inl (by omega)))
        clear hxd
        refine (tput_ok (HA6.out.below (bl_alloc (Below.refl _ _) _)) HL2.out (G6.out.alloc _).tree (putN_rise HF.out.rise) (mkNd st 3 to fd) HV.out (fun h => by
          have h1 := get_put HF.out.rise (n := newNd (st.last + 1) 3) (st.last + 1)
          rw [show ((mkNd st 3 to fd).id) = st.last + 1 from rfl] at h
          rw [h1] at h
          rw [if_pos (show st.last + 1 = (newNd (st.last + 1) _).id from rfl)] at h
          cases h) (HE6.out.below (bl_alloc (Below.refl _ _) _)).toEnv).mono ?_
        rintro e w7 ⟨rfl, h7, k7⟩
        rw [put_twice (n := mkNd st _ to fd) (n0 := newNd (st.last + 1) 3) rfl HGN.out] at h7
        have rf7 := (RF6.out.alloc _).keep (k7.loc _ (.inl rfl))
        have G7 := Lib.hid ((G6.out.alloc _).then h7 k7)
        have HE7 := Lib.hid ((HE6.out.below (bl_alloc (Below.refl _ _) _)).keep k7.below)
        have HA7 := Lib.hid ((HA6.out.below (bl_alloc (Below.refl _ _) _)).kept HL2.out k7)
        have y0 : w7.cell? ⟨w4.heap.size, 0, none⟩ = some (.int .i64 fd) := (rf7.cell 0).trans rfl
        have y2 : w7.cell? ⟨w4.heap.size, 2, none⟩ = some (.string fname) := (rf7.cell 2).trans rfl
        have yl := rf7.lt
        clear h7 k7 rf7 x0 x2 xl HA6 HE6 G6 RF6
        go_wp2_with fail
        have hfd := (HFA.out 1 (by decide) (newNd (st.last + 1) 1) rfl).2.2.2
        refine (tadd_ok HA7.out HL2.out G7.out.tree (by omega) (HFA.out 3 (by decide) (mkNd st 3 to fd) rfl).2.1 ⟨fname, st.last + 1, 3⟩ (HFA.out 3 (by decide) (mkNd st 3 to fd) rfl).2.2.1 HE7.out.toEnv).mono ?_
        rintro v w8 ⟨rfl, h8, k8⟩
        have G8 := Lib.hid (G7.out.then h8 k8)
        clear h8 k8 y0 y2 yl
        go_wp2
        rw [← HP.out]
        unfold MakeR
        rw [HQ.out]
        exact ⟨rfl, G8.out.out.1, G8.out.out.2⟩
    · obtain ⟨ad, had⟩ := errOf_some (E := E) hz
      have HQ : Hid (R = (fc, 0, st)) := Lib.hid (by rw [HRF.out, if_pos (show fc ≠ 0 by omega)])
      rw [had]
      have CE := Lib.hid had
      clear had hz
      go_wp2
      rw [← HP.out]
      unfold MakeR
      rw [HQ.out]
      have g := (G4.out.alloc (.cells #[.int .i64 fd, .int .i64 fn, .string fname] 127)).out
      exact ⟨by rw [CE.out], g.1, g.2⟩
end
end Go.Proofs.YtjekpbkmhgfhoaaGreatDoor
end

section
/- The walks of package tree: Unlink, Rmdir. -/
namespace Go.Proofs.YtjekpbkmhgfhoaaGreatDoor
open Go Go.RowKit
set_option maxRecDepth 100000
set_option linter.unusedSimpArgs false
set_option linter.unusedVariables false
attribute [local go_sem] giv
variable {E : Nat → Addr} {B : Nat}

theorem nmCode_size {s : ByteArray} (h : nmCode s = 0) : s.size ≤ 24 := by
  unfold nmCode at h
  split at h
  · omega
  · split at h
    · omega
    · omega
/-- What is there, of what there finds. -/
theorem there_facts {st : St} (f : Full st) {s : ByteArray} (h0 : (parseP s).1 = 0) {fd fn : Int} {fname : ByteArray} {n : Nd} (h : thereP st (parseP s).2 = (0, ⟨fd, fn, fname⟩, n)) :
    1 ≤ fd ∧ fd ≤ 16777215 ∧ st.isDir fd = true ∧ RiseE (st.ents fd) ∧ fname.size ≤ maxLen ∧ validB n = true ∧ RiseN (st.delE fd fname).ns ∧ (∃ x, (st.delE fd fname).get n.id = some x) ∧ n.id = fn ∧ 1 ≤ fn ∧ fn ≤ 16777215 := by
  obtain ⟨hl, x, e, r, h1, h2, h3, h4, h5, h6⟩ := thereP_ok f.toGood h
  obtain ⟨h7, h8⟩ := hl.name (show parseP s = (0, (parseP s).2) by rw [← h0])
  have hfd := dir_ids f.toGood h1
  simp only at h1 h3 h4 h5 h7
  subst h6
  have hid := findN_id h5
  have hv := f.val r (findN_mem h5)
  have hvi := valid_ids hv
  refine ⟨hfd.1, hfd.2.1, by unfold St.isDir; rw [h1]; simp [h2], ?_, Nat.le_trans (nmCode_size h7) (by decide), hv, onR_rise f.rise, ?_, hid, by omega, by omega⟩
  · rw [show st.ents fd = x.ents by unfold St.ents; rw [h1]; rfl]
    exact f.erise x (findN_mem h1)
  · rw [hid]
    obtain ⟨y, hy, _⟩ := get_delE_of (d := fd) (n := fname) h5
    exact ⟨y, hy⟩
theorem thereP_code (st : St) (p : Pth) : CodeOk (thereP st p).1 := by
  unfold thereP
  simp only
  split
  · exact lastP_code _ _
  · split
    · exact .inr (by decide)
    · exact .inl rfl
section
variable {L : Nat → Prop} {w : World} {a b t dm : Nat} {st : St}
def UnlR (E : Nat → Addr) (B : Nat) (L : Nat → Prop) (b t dm : Nat) (R : Int × Int × St) (w : World) (e : Ending) (w' : World) : Prop :=
  e = .returned (.tuple #[.int .i64 R.2.1, errOf E R.1]) ∧ WB B L w' b t dm R.2.2 ∧ KeptP B L w w'
set_option maxHeartbeats 4000000 in
theorem tunlink_any (ha : TA w a b) (hl : L a) (h : WB B L w b t dm st) (f : Full st) (s : ByteArray) (hE : EnvM E B w) :
    Calls Tryz.prog 34 #[.pointer (some ⟨a, 0, none⟩), .string s] w (UnlR E B L b t dm (unlinkT st s) w) := by
  have H := Lib.hid h
  have HF := Lib.hid f
  have HE := Lib.hid hE
  have HA := Lib.hid ha
  have HLA := Lib.hid hl
  obtain ⟨R, hR⟩ : ∃ R, unlinkT st s = R := ⟨_, rfl⟩
  rw [hR]
  unfold unlinkT at hR
  simp only at hR
  have HR := Lib.hid hR
  generalize hP : UnlR E B L b t dm R w = Post
  have HP := Lib.hid hP
  clear hP h hE hR ha hl f
  go_enter Tryz.func34, Tryz.ntmps34
  go_wp2_with fail
  refine (parse_any s w HE.out).mono ?_
  rintro e w2 ⟨⟨v, rfl, hs2⟩, hb2⟩
  obtain ⟨sp2, cap2, rfl⟩ := slShape hs2
  have HS2 := Lib.hid hs2
  have HLP : Hid (∀ x, (Value.slice sp2 (parseP s).2.parts.length cap2).ownBlock = some x → w.heap.size ≤ x ∧ x < w2.heap.size) := Lib.hid hs2.lt
  obtain ⟨L1, hL1⟩ : ∃ L1 : Nat → Prop, L1 = fun x => (Value.slice sp2 (parseP s).2.parts.length cap2).ownBlock = some x ∨ L x := ⟨_, rfl⟩
  have G2 : Hid (Gd B L L1 w b t dm st (fun x => (Value.slice sp2 (parseP s).2.parts.length cap2).ownBlock = some x) w2) := Lib.hid (by
    rw [hL1]
    exact Gd.first H.out hb2 HLP.out)
  have HLs : Hid (L1 a) := Lib.hid (by rw [hL1]; exact .inr HLA.out)
  have HL1o : Hid (∀ x, (Value.slice sp2 (parseP s).2.parts.length cap2).ownBlock = some x → L1 x) := Lib.hid (fun x hx => by rw [hL1]; exact .inl hx)
  have HE2 := Lib.hid (HE.out.below hb2)
  have HA2 := Lib.hid (HA.out.below hb2)
  have HR2 := Lib.hid (HS2.out.rd (fun _ => rfl))
  have HLEN := Lib.hid (Nat.le_trans (parse_len s) (show 257 ≤ 1000 by decide))
  clear hs2 hb2 hL1
  rcases path_code s with hz | hz
  · rw [hz, show errOf E 0 = .nilIface from rfl]
    have H0 := Lib.hid hz
    clear hz
    have b23 := bl_alloc (Below.refl w2.heap.size w2) (.cells #[.slice sp2 (parseP s).2.parts.length cap2, .bool (parseP s).2.slash] 120)
    have G3 := Lib.hid (G2.out.below b23)
    have HE3 := Lib.hid (HE2.out.below b23)
    have HA3 := Lib.hid (HA2.out.below b23)
    have HR3 := Lib.hid (HR2.out.below b23)
    clear b23 G2 HE2 HA2 HR2 HS2
    go_wp2_with fail
    refine (tthere_any HA3.out HLs.out G3.out.tree HF.out HR3.out HL1o.out HLEN.out (parse_small s) (parseP s).2.slash HE3.out).mono ?_
    rintro e w4 ⟨rfl, h4, k4⟩
    have hfc := thereP_code st (parseP s).2
    have G4 := Lib.hid (G3.out.then h4 k4)
    have HE4 := Lib.hid (HE3.out.keep k4.below)
    have HA4 := Lib.hid (HA3.out.kept HLs.out k4)
    clear h4 k4 G3 HE3 HA3 HR3
    obtain ⟨F, hF⟩ : ∃ F, thereP st ⟨(parseP s).2.parts, (parseP s).2.slash⟩ = F := ⟨_, rfl⟩
    rw [hF]
    have hF2 : thereP st (parseP s).2 = F := hF
    rw [hF2] at hfc
    have HR1 := HR.out
    rw [if_neg (by simp [H0.out]), hF2] at HR1
    have HRF := Lib.hid HR1
    have HF1 := Lib.hid hF2
    clear hF hF2 HR1
    obtain ⟨fc, ⟨fd, fn, fname⟩, q⟩ := F
    simp only at hfc
    have HFC := Lib.hid hfc
    clear hfc
    rcases HFC.out with hz | hz
    · subst hz
      have hfacts := there_facts HF.out H0.out HF1.out
      have HFACT := Lib.hid hfacts
      clear hfacts
      obtain ⟨q1, q2, q3, q4, q5, q6⟩ := q
      simp only [encN]
      rw [show errOf E 0 = .nilIface from rfl]
      obtain ⟨w5, hw5⟩ : ∃ w5, w5 = (w4.alloc (.cells #[.int .i64 fd, .int .i64 fn, .string fname] 127)).alloc (.cells #[.int .i64 q1, .int .i64 q2, .int .i64 q3, .int .i64 q4, .string q5, .int .i64 q6] 59) := ⟨_, rfl⟩
      have b45 : Below w4.heap.size w4 w5 := by rw [hw5]; exact bl_alloc (bl_alloc (Below.refl _ _) _) _
      have z5 : w5.heap.size = w4.heap.size + 2 := by rw [hw5]; simp
      have rf5 : Row w5 w4.heap.size 127 [.int .i64 fd, .int .i64 fn, .string fname] := by rw [hw5]; exact (Row.new w4 _ [.int .i64 fd, .int .i64 fn, .string fname]).alloc _
      have rn5 : Row w5 (w4.heap.size + 1) 59 [.int .i64 q1, .int .i64 q2, .int .i64 q3, .int .i64 q4, .string q5, .int .i64 q6] := by
        have := Row.new (w4.alloc (.cells #[.int .i64 fd, .int .i64 fn, .string fname] 127)) 59 [.int .i64 q1, .int .i64 q2, .int .i64 q3, .int .i64 q4, .string q5, .int .i64 q6]
        rw [hw5]
        simpa using this
      have G5 : Hid (Gd B L (fun x => (x = w4.heap.size ∨ x = w4.heap.size + 1) ∨ L1 x) w b t dm st (fun _ => False) w5) := Lib.hid (by
        have g := Gd.first (B := B) G4.out.tree b45 (S := fun x => x = w4.heap.size ∨ x = w4.heap.size + 1) (fun x hx => by rcases hx with rfl | rfl <;> omega)
        exact ⟨g.tree, (G4.out.below b45).kept, fun x hx => .inr (G4.out.sub x hx), fun _ h => h.elim⟩)
      have HE5 := Lib.hid (HE4.out.below b45)
      have HA5 := Lib.hid (HA4.out.below b45)
      have HL2 : Hid ((fun x => (x = w4.heap.size ∨ x = w4.heap.size + 1) ∨ L1 x) a) := Lib.hid (.inr HLs.out)
      have RF5 := Lib.hid rf5
      have RN5 := Lib.hid rn5
      have HW5 := Lib.hid hw5
      clear rf5 rn5 b45 z5 G4 HE4 HA4 hw5
      by_cases hk2 : q2 = 2
      · subst hk2
        have HQ : Hid (R = (112, 0, st)) := Lib.hid (by rw [← HRF.out]; rw [if_neg (by simp), if_pos rfl])
        have c1 : errOf E 112 = errV E 1 := errOf_code (g := 1) (by decide)
        have CE := Lib.hid c1
        have e1 := HE5.out.cell 1 (by decide)
        have l1 : 1 < w5.heap.size := Nat.lt_of_lt_of_le (HE5.out.glt _ (by decide)) HE5.out.size
        have l1_z : 0 < w5.heap.size := Nat.lt_of_le_of_lt (Nat.zero_le _) l1
        clear c1
        go_wp2_with fail
        rw [← HW5.out]
        go_region
        go_wp2
        rw [← HP.out]
        unfold UnlR
        rw [HQ.out]
        have g := G5.out.drew.out
        exact ⟨by rw [← CE.out]; rfl, g.1, g.2⟩
      · have hkb : (q2 == 2) = false := by rw [beq_eq_false_iff_ne]; exact hk2
        have HQ : Hid (R = (0, q1, (st.delE fd fname).put (setLinks ⟨q1, q2, q3, q4, q5, q6⟩ (max (q3 - 1) 0)))) := Lib.hid (by rw [← HRF.out, if_neg (by simp), if_neg hk2])
        clear hk2
        go_wp2_with fail
        rw [← HW5.out]
        refine (tdrop_ok HA5.out G5.out.tree (by have := HFACT.out; omega) HFACT.out.2.2.1 HFACT.out.2.2.2.2.1 HFACT.out.2.2.2.1).mono ?_
        rintro v w6 ⟨rfl, h6, k6⟩
        have G6 := Lib.hid (G5.out.then h6 k6)
        have HE6 := Lib.hid (HE5.out.keep k6.below)
        have HA6 := Lib.hid (HA5.out.kept HL2.out k6)
        have RN6 := Lib.hid (RN5.out.keep (k6.loc _ (.inl (.inr rfl))))
        clear h6 k6
        have n0 : w6.cell? ⟨w4.heap.size + 1, 0, none⟩ = some (.int .i64 q1) := (RN6.out.cell 0).trans rfl
        have n1 : w6.cell? ⟨w4.heap.size + 1, 1, none⟩ = some (.int .i64 q2) := (RN6.out.cell 1).trans rfl
        have n2 : w6.cell? ⟨w4.heap.size + 1, 2, none⟩ = some (.int .i64 q3) := (RN6.out.cell 2).trans rfl
        have n3 : w6.cell? ⟨w4.heap.size + 1, 3, none⟩ = some (.int .i64 q4) := (RN6.out.cell 3).trans rfl
        have n4 : w6.cell? ⟨w4.heap.size + 1, 4, none⟩ = some (.string q5) := (RN6.out.cell 4).trans rfl
        have n5 : w6.cell? ⟨w4.heap.size + 1, 5, none⟩ = some (.int .i64 q6) := (RN6.out.cell 5).trans rfl
        have nl := RN6.out.lt
        go_wp2_with fail
        refine (tless_ok HA6.out HL2.out G6.out.tree HFACT.out.2.2.2.2.2.2.1 ⟨q1, q2, q3, q4, q5, q6⟩ HFACT.out.2.2.2.2.2.1 HFACT.out.2.2.2.2.2.2.2.1 HE6.out.toEnv).mono ?_
        rintro v w7 ⟨rfl, h7, k7⟩
        have G7 := Lib.hid (G6.out.then h7 k7)
        have RN7 := Lib.hid (RN6.out.keep (k7.loc _ (.inl (.inr rfl))))
        clear h7 k7 n0 n1 n2 n3 n4 n5 nl
        have n0 : w7.cell? ⟨w4.heap.size + 1, 0, none⟩ = some (.int .i64 q1) := (RN7.out.cell 0).trans rfl
        have n1 : w7.cell? ⟨w4.heap.size + 1, 1, none⟩ = some (.int .i64 q2) := (RN7.out.cell 1).trans rfl
        have n2 : w7.cell? ⟨w4.heap.size + 1, 2, none⟩ = some (.int .i64 q3) := (RN7.out.cell 2).trans rfl
        have n3 : w7.cell? ⟨w4.heap.size + 1, 3, none⟩ = some (.int .i64 q4) := (RN7.out.cell 3).trans rfl
        have n4 : w7.cell? ⟨w4.heap.size + 1, 4, none⟩ = some (.string q5) := (RN7.out.cell 4).trans rfl
        have n5 : w7.cell? ⟨w4.heap.size + 1, 5, none⟩ = some (.int .i64 q6) := (RN7.out.cell 5).trans rfl
        have nl := RN7.out.lt
        go_wp2
        rw [← HP.out]
        unfold UnlR
        rw [HQ.out]
        exact ⟨rfl, G7.out.out.1, G7.out.out.2⟩

    · obtain ⟨ad, had⟩ := errOf_some (E := E) hz
      have HQ : Hid (R = (fc, 0, st)) := Lib.hid (by rw [← HRF.out]; exact if_pos (show fc ≠ 0 by omega))
      rw [had]
      have CE := Lib.hid had
      clear had hz
      obtain ⟨q1, q2, q3, q4, q5, q6⟩ := q
      simp only [encN]
      go_wp2
      rw [← HP.out]
      unfold UnlR
      rw [HQ.out]
      have g := ((G4.out.alloc (.cells #[.int .i64 fd, .int .i64 fn, .string fname] 127)).alloc (.cells #[.int .i64 q1, .int .i64 q2, .int .i64 q3, .int .i64 q4, .string q5, .int .i64 q6] 59)).out
      exact ⟨by rw [CE.out]; first | done | rfl, g.1, g.2⟩
  · obtain ⟨ad, had⟩ := errOf_some (E := E) hz
    have HQ : Hid (R = ((parseP s).1, 0, st)) := Lib.hid (by rw [← HR.out]; exact if_pos (show (parseP s).1 ≠ 0 by omega))
    rw [had]
    have CE := Lib.hid had
    clear had hz
    go_wp2
    rw [← HP.out]
    unfold UnlR
    rw [HQ.out]
    have g := (G2.out.alloc (.cells #[.slice sp2 (parseP s).2.parts.length cap2, .bool (parseP s).2.slash] 120)).out
    exact ⟨by rw [CE.out]; first | done | rfl, g.1, g.2⟩
end
end Go.Proofs.YtjekpbkmhgfhoaaGreatDoor
end

section
/- The walk of package tree's Look. -/
namespace Go.Proofs.YtjekpbkmhgfhoaaGreatDoor
open Go Go.RowKit
set_option maxRecDepth 100000
set_option linter.unusedSimpArgs false
set_option linter.unusedVariables false
attribute [local go_sem] giv
variable {E : Nat → Addr} {B : Nat}

section
variable {L : Nat → Prop} {w : World} {a b t dm : Nat} {st : St}
def LookR (E : Nat → Addr) (B : Nat) (L : Nat → Prop) (b t dm : Nat) (st : St) (R : Int × Nd) (w : World) (e : Ending) (w' : World) : Prop :=
  e = .returned (.tuple #[encN R.2, errOf E R.1]) ∧ WB B L w' b t dm st ∧ KeptP B L w w'
set_option maxHeartbeats 4000000 in
theorem tlook_any (ha : TA w a b) (hl : L a) (h : WB B L w b t dm st) (f : Full st) (s : ByteArray) (follow : Bool) (hE : EnvM E B w) :
    Calls Tryz.prog 24 #[.pointer (some ⟨a, 0, none⟩), .string s, .bool follow] w (LookR E B L b t dm st (lookT st s follow) w) := by
  have H := Lib.hid h
  have HF := Lib.hid f
  have HE := Lib.hid hE
  have HA := Lib.hid ha
  have HLA := Lib.hid hl
  obtain ⟨R, hR⟩ : ∃ R, lookT st s follow = R := ⟨_, rfl⟩
  rw [hR]
  unfold lookT at hR
  simp only at hR
  have HR := Lib.hid hR
  generalize hP : LookR E B L b t dm st R w = Post
  have HP := Lib.hid hP
  clear hP h hE hR ha hl f
  go_enter Tryz.func24, Tryz.ntmps24
  go_wp2_with fail
  obtain ⟨w1, hw1⟩ : ∃ w1, w1 = w.alloc (.cells #[.int .i64 0, .int .i64 0, .int .i64 0, .int .i64 0, .string ⟨#[]⟩, .int .i64 0] 59) := ⟨_, rfl⟩
  have b1 : Below w.heap.size w w1 := by rw [hw1]; exact bl_alloc (Below.refl _ _) _
  have rn1 : Row w1 w.heap.size 59 [.int .i64 0, .int .i64 0, .int .i64 0, .int .i64 0, .string ⟨#[]⟩, .int .i64 0] := by rw [hw1]; exact Row.new w _ [.int .i64 0, .int .i64 0, .int .i64 0, .int .i64 0, .string ⟨#[]⟩, .int .i64 0]
  have z1 : w1.heap.size = w.heap.size + 1 := by rw [hw1]; simp
  rw [← hw1]
  have Z1 := Lib.hid z1
  have HE1 := Lib.hid (HE.out.below b1)
  have B1 := Lib.hid b1
  have RN1 := Lib.hid rn1
  clear hw1 rn1 b1 z1
  refine (parse_any s w1 HE1.out).mono ?_
  rintro e w2 ⟨⟨v, rfl, hs2⟩, hb2⟩
  obtain ⟨sp2, cap2, rfl⟩ := slShape hs2
  have HS2 := Lib.hid hs2
  have B2 := Lib.hid (B1.out.trans (hb2.mono B1.out.size))
  have RN2 := Lib.hid (RN1.out.below hb2)
  have HE2 := Lib.hid (HE1.out.below hb2)
  have HA2 := Lib.hid (HA.out.below B2.out)
  have HLEN := Lib.hid (Nat.le_trans (parse_len s) (show 257 ≤ 1000 by decide))
  clear hs2 hb2 RN1 HE1 B1
  obtain ⟨L1, hL1⟩ : ∃ L1 : Nat → Prop, L1 = fun x => (x = w.heap.size ∨ x = w2.heap.size ∨ (Value.slice sp2 (parseP s).2.parts.length cap2).ownBlock = some x) ∨ L x := ⟨_, rfl⟩
  obtain ⟨w3, hw3⟩ : ∃ w3, w3 = w2.alloc (.cells #[.slice sp2 (parseP s).2.parts.length cap2, .bool (parseP s).2.slash] 120) := ⟨_, rfl⟩
  have b23 : Below w2.heap.size w2 w3 := by rw [hw3]; exact bl_alloc (Below.refl _ _) _
  have z3 : w3.heap.size = w2.heap.size + 1 := by rw [hw3]; simp
  have rp3 : Row w3 w2.heap.size 120 [.slice sp2 (parseP s).2.parts.length cap2, .bool (parseP s).2.slash] := by rw [hw3]; exact Row.new w2 _ [.slice sp2 (parseP s).2.parts.length cap2, .bool (parseP s).2.slash]
  have B3 := Lib.hid (B2.out.trans (b23.mono B2.out.size))
  have G3 : Hid (Gd B L L1 w b t dm st (fun x => x = w.heap.size) w3) := Lib.hid (by
    rw [hL1]
    refine (Gd.first H.out B3.out (S := fun x => x = w.heap.size ∨ x = w2.heap.size ∨ (Value.slice sp2 (parseP s).2.parts.length cap2).ownBlock = some x) (fun x hx => ?_)).less (fun c hc => .inl hc)
    have h1 := RN2.out.lt
    have h2 := Z1.out
    have h3 := B2.out.size
    rcases hx with rfl | rfl | hx
    · omega
    · omega
    · have := HS2.out.lt x hx
      omega)
  have RN3 := Lib.hid (RN2.out.below b23)
  have RP3 := Lib.hid rp3
  have HE3 := Lib.hid (HE2.out.below b23)
  have HA3 := Lib.hid (HA2.out.below b23)
  have HR3 := Lib.hid ((HS2.out.rd (fun _ => rfl)).below b23)
  have HW3 := Lib.hid hw3
  have HL1 := Lib.hid hL1
  clear b23 z3 rp3 hw3 hL1 HA2 HS2
  rcases path_code s with hz | hz
  · rw [hz, show errOf E 0 = .nilIface from rfl]
    have H0 := Lib.hid hz
    clear hz HE2 RN2
    go_wp2_with fail
    rw [← HW3.out]
    have hl1 : L1 w.heap.size := by rw [HL1.out]; exact .inl (.inl rfl)
    have hl2 : L1 w2.heap.size := by rw [HL1.out]; exact .inl (.inr (.inl rfl))
    have hl3 : L1 a := by rw [HL1.out]; exact .inr HLA.out
    have HLO : Hid (∀ x, (Value.slice sp2 (parseP s).2.parts.length cap2).ownBlock = some x → L1 x) := Lib.hid (fun x hx => by rw [HL1.out]; exact .inl (.inr (.inr hx)))
    have HL_1 := Lib.hid hl1
    have HL_2 := Lib.hid hl2
    have HL_3 := Lib.hid hl3
    obtain ⟨F, hF⟩ : ∃ F, toP st ⟨(parseP s).2.parts, (parseP s).2.slash⟩ follow = F := ⟨_, rfl⟩
    have hF2 : toP st (parseP s).2 follow = F := hF
    have HR1 := HR.out
    rw [if_neg (by simp [H0.out]), hF2] at HR1
    have HRF := Lib.hid HR1
    have HF1 := Lib.hid hF
    have hfc := toP_code st (parseP s).2 follow
    rw [hF2] at hfc
    have hfs : F.1 = 0 → ∃ y, st.get F.2 = some y := fun h => by
      rw [← hF2] at h ⊢
      exact toP_some HF.out (show toP st (parseP s).2 follow = (0, _) by rw [← h])
    have HFS := Lib.hid hfs
    clear hF hF2 HR1 hfs hl1 hl2 hl3
    obtain ⟨fc, id⟩ := F
    simp only at hfc
    have HFC := Lib.hid hfc
    clear hfc
    have HW0 := Lib.hid G3.out.tree
    have S : ∀ w', WB B L1 w' b t dm st ∧ KeptP B L1 w3 w' → w'.cell? ⟨a, 0, none⟩ = some (.pointer (some ⟨b, 0, none⟩)) ∧ w'.cell? ⟨w2.heap.size, 0, none⟩ = some (.slice sp2 (parseP s).2.parts.length cap2) ∧ w'.cell? ⟨w2.heap.size, 1, none⟩ = some (.bool (parseP s).2.slash) := by
      intro w' hc
      exact ⟨(HA3.out.kept HL_3.out hc.2).1, (hc.2.cell HL_2.out 0).trans ((RP3.out.cell 0).trans rfl), (hc.2.cell HL_2.out 1).trans ((RP3.out.cell 1).trans rfl)⟩
    have HT : Hid (∀ w', WB B L1 w' b t dm st ∧ KeptP B L1 w3 w' → Calls Tryz.prog 53 #[.pointer (some ⟨b, 0, none⟩), .agg #[.slice sp2 (parseP s).2.parts.length cap2, .bool (parseP s).2.slash], .bool follow] w' fun e w'' =>
        e = .returned (.tuple #[.int .i64 id, errOf E fc]) ∧ WB B (fun x => L1 x ∨ (x < w'.heap.size ∧ Plain w' x)) w'' b t dm st ∧ KeptP B (fun x => L1 x ∨ (x < w'.heap.size ∧ Plain w' x)) w' w'') := Lib.hid (by
      intro w' hc
      have := wto_any (WL.wide hc.1) HF.out (RdE.kept HR3.out hc.2 (fun x hx => HLO.out x hx)) HLEN.out (parse_small s) follow (parseP s).2.slash (HE3.out.keep hc.2.below)
      unfold ToR at this
      rw [HF1.out] at this
      exact this)
    apply wp_region_rel _ (by kernel_rfl) (by kernel_rfl) (fun w' => WB B L1 w' b t dm st ∧ KeptP B L1 w3 w') (fun w' w'' => ShT B L1 b t dm st w3.heap.size ([] : List Value) 0 w' w'') (fun w' w'' h1 h2 => ⟨h2.tree h1.1, h1.2.trans (h2.kept h1.1)⟩) ⟨HW0.out.below (Below.refl _ _).drew, HW0.out.kept (Below.refl _ _).drew⟩
    repeat (first
      | (apply wpRel_fix (by rfl)
         · intro w' hC hf R hR
           have hS := S w' hC
           go_simp
           exact hR _ (ShT.refl _ _ _ _ _ _ _ _ _ _)
         simp only [Act.put, List.setIfInBounds_toArray, List.set_cons_zero, List.set_cons_succ])
      | (apply wpRel_fix (by rfl)
         · intro w' hC hf R hR
           have hS := S w' hC
           go_simp
           refine (HT.out w' hC).mono ?_
           rintro e w'' ⟨rfl, hw9, hk9⟩
           exact ⟨_, rfl, hR _ (ShT.call hw9 hk9)⟩
         simp only [Act.put, List.setIfInBounds_toArray, List.set_cons_zero, List.set_cons_succ]))
    refine wpRel_nil (fun w4 hC hf => ?_)
    have G4 := Lib.hid (G3.out.then hC.1 hC.2)
    have RN4 := Lib.hid (RN3.out.keep (hC.2.loc _ HL_1.out))
    have HE4 := Lib.hid (HE3.out.keep hC.2.below)
    have HA4 := Lib.hid (HA3.out.kept HL_3.out hC.2)
    clear S hC hf HT HW0 G3 RN3 RP3 HE3 HA3 HR3 HW3
    rcases HFC.out with hz | hz
    · subst hz
      rw [show errOf E 0 = .nilIface from rfl]
      obtain ⟨y, hy⟩ := HFS.out rfl
      have hid := dir_ids HF.out.toGood hy
      have hnd : st.nd id = some y.nd := by unfold St.nd; rw [hy]; rfl
      have HQ : Hid (R = (0, y.nd)) := Lib.hid (by rw [← HRF.out, if_neg (by simp)]; simp only; rw [hy])
      have HND := Lib.hid hnd
      clear hy hnd
      obtain ⟨a0, al⟩ := HA4.out
      have b0 := G4.out.tree.c0
      have bl0 := G4.out.tree.lt.1
      generalize y.nd = q at *
      obtain ⟨q1, q2, q3, q4, q5, q6⟩ := q
      go_wp2_with fail
      refine (wl_get G4.out.tree (k := id) (by omega)).mono ?_
      rw [HND.out]
      rintro e w5 ⟨rfl, hb5⟩
      have G5 := Lib.hid (G4.out.below hb5)
      have RN5 := Lib.hid (RN4.out.below hb5)
      clear hb5 a0 al b0 bl0
      simp only [Option.getD_some, encN, Option.isSome_some]
      have v0 : w5.cell? ⟨w.heap.size, 0, none⟩ = some (.int .i64 0) := (RN5.out.cell 0).trans rfl
      have v1 : w5.cell? ⟨w.heap.size, 1, none⟩ = some (.int .i64 0) := (RN5.out.cell 1).trans rfl
      have v2 : w5.cell? ⟨w.heap.size, 2, none⟩ = some (.int .i64 0) := (RN5.out.cell 2).trans rfl
      have v3 : w5.cell? ⟨w.heap.size, 3, none⟩ = some (.int .i64 0) := (RN5.out.cell 3).trans rfl
      have v4 : w5.cell? ⟨w.heap.size, 4, none⟩ = some (.string ⟨#[]⟩) := (RN5.out.cell 4).trans rfl
      have v5 : w5.cell? ⟨w.heap.size, 5, none⟩ = some (.int .i64 0) := (RN5.out.cell 5).trans rfl
      have vf : ∀ i, w5.frozen? ⟨w.heap.size, i, none⟩ = false := fun i => RN5.out.froz i
      have vl : w.heap.size < w5.heap.size := RN5.out.lt
      go_wp2
      rw [← HP.out]
      refine bodyPost_ret (v := .tuple #[.agg #[.int .i64 q1, .int .i64 q2, .int .i64 q3, .int .i64 q4, .string q5, .int .i64 q6], .nilIface]) (by simp [results, Tryz.results24, go_sem, v0, v1, v2, v3, v4, v5, vl]) rfl ?_
      refine ⟨?_, (by repeat (first | with_reducible exact G5.out | with_reducible refine Gd.set ?_ (by exact rfl) _ | with_reducible refine Gd.alloc ?_ _ | with_reducible refine Gd.drew ?_) : Gd B L L1 w b t dm st (fun x => x = w.heap.size) _).out⟩
      rw [HQ.out]
      rfl
    · obtain ⟨ad, had⟩ := errOf_some (E := E) hz
      have HQ : Hid (R = (fc, noNd)) := Lib.hid (by rw [← HRF.out]; exact if_pos (show fc ≠ 0 by omega))
      rw [had]
      have CE := Lib.hid had
      clear had hz
      have v0 : w4.cell? ⟨w.heap.size, 0, none⟩ = some (.int .i64 0) := (RN4.out.cell 0).trans rfl
      have v1 : w4.cell? ⟨w.heap.size, 1, none⟩ = some (.int .i64 0) := (RN4.out.cell 1).trans rfl
      have v2 : w4.cell? ⟨w.heap.size, 2, none⟩ = some (.int .i64 0) := (RN4.out.cell 2).trans rfl
      have v3 : w4.cell? ⟨w.heap.size, 3, none⟩ = some (.int .i64 0) := (RN4.out.cell 3).trans rfl
      have v4 : w4.cell? ⟨w.heap.size, 4, none⟩ = some (.string ⟨#[]⟩) := (RN4.out.cell 4).trans rfl
      have v5 : w4.cell? ⟨w.heap.size, 5, none⟩ = some (.int .i64 0) := (RN4.out.cell 5).trans rfl
      have vf : ∀ i, w4.frozen? ⟨w.heap.size, i, none⟩ = false := fun i => RN4.out.froz i
      have vl : w.heap.size < w4.heap.size := RN4.out.lt
      go_wp2
      rw [← HP.out]
      refine bodyPost_ret (v := .tuple #[.agg #[.int .i64 0, .int .i64 0, .int .i64 0, .int .i64 0, .string ⟨#[]⟩, .int .i64 0], .iface 295 (.pointer (some ad))]) (by simp [results, Tryz.results24, go_sem, v0, v1, v2, v3, v4, v5, vl]) rfl ?_
      refine ⟨?_, (by repeat (first | with_reducible exact G4.out | with_reducible refine Gd.set ?_ (by exact rfl) _ | with_reducible refine Gd.alloc ?_ _ | with_reducible refine Gd.drew ?_) : Gd B L L1 w b t dm st (fun x => x = w.heap.size) _).out⟩
      rw [HQ.out, ← CE.out]
      rfl
  · obtain ⟨ad, had⟩ := errOf_some (E := E) hz
    have HQ : Hid (R = ((parseP s).1, noNd)) := Lib.hid (by rw [← HR.out]; exact if_pos (show (parseP s).1 ≠ 0 by omega))
    rw [had]
    have CE := Lib.hid had
    have G2 : Hid (Gd B L (fun x => x = w.heap.size ∨ L x) w b t dm st (fun x => x = w.heap.size) w2) := Lib.hid (Gd.first H.out B2.out (S := fun x => x = w.heap.size) (fun x hx => by subst hx; exact ⟨Nat.le_refl _, RN2.out.lt⟩))
    clear had hz
    have v0 : w2.cell? ⟨w.heap.size, 0, none⟩ = some (.int .i64 0) := (RN2.out.cell 0).trans rfl
    have v1 : w2.cell? ⟨w.heap.size, 1, none⟩ = some (.int .i64 0) := (RN2.out.cell 1).trans rfl
    have v2 : w2.cell? ⟨w.heap.size, 2, none⟩ = some (.int .i64 0) := (RN2.out.cell 2).trans rfl
    have v3 : w2.cell? ⟨w.heap.size, 3, none⟩ = some (.int .i64 0) := (RN2.out.cell 3).trans rfl
    have v4 : w2.cell? ⟨w.heap.size, 4, none⟩ = some (.string ⟨#[]⟩) := (RN2.out.cell 4).trans rfl
    have v5 : w2.cell? ⟨w.heap.size, 5, none⟩ = some (.int .i64 0) := (RN2.out.cell 5).trans rfl
    have vf : ∀ i, w2.frozen? ⟨w.heap.size, i, none⟩ = false := fun i => RN2.out.froz i
    have vl : w.heap.size < w2.heap.size := RN2.out.lt
    go_wp2
    rw [← HP.out]
    refine bodyPost_ret (v := .tuple #[.agg #[.int .i64 0, .int .i64 0, .int .i64 0, .int .i64 0, .string ⟨#[]⟩, .int .i64 0], .iface 295 (.pointer (some ad))]) (by simp [results, Tryz.results24, go_sem, v0, v1, v2, v3, v4, v5, vl]) rfl ?_
    refine ⟨?_, (by repeat (first | with_reducible exact G2.out | with_reducible refine Gd.set ?_ (by exact rfl) _ | with_reducible refine Gd.alloc ?_ _ | with_reducible refine Gd.drew ?_) : Gd B L (fun x => x = w.heap.size ∨ L x) w b t dm st (fun x => x = w.heap.size) _).out⟩
    rw [HQ.out, ← CE.out]
    rfl
end
end Go.Proofs.YtjekpbkmhgfhoaaGreatDoor
end

section
/- The walks of package tree: New, Free. -/
namespace Go.Proofs.YtjekpbkmhgfhoaaGreatDoor
open Go Go.RowKit
set_option maxRecDepth 100000
set_option linter.unusedSimpArgs false
set_option linter.unusedVariables false
attribute [local go_sem] giv
variable {E : Nat → Addr} {B : Nat}

section
variable {L : Nat → Prop} {w : World} {a b t dm : Nat} {st : St}
def NewR (B : Nat) (L : Nat → Prop) (w : World) (e : Ending) (w' : World) : Prop :=
  ∃ a b t dm, e = .returned (.pointer (some ⟨a, 0, none⟩)) ∧ w.heap.size ≤ a ∧ TA w' a b ∧ WB B (fun x => x = a ∨ L x) w' b t dm newSt ∧ KeptP B L w w'
theorem tnew_any (w : World) (hB : B ≤ w.heap.size) (hL : ∀ x, L x → x < w.heap.size) (hE : Env E B w) : Calls Tryz.prog 22 #[] w (NewR B L w) := by
  have HE := Lib.hid hE
  have HB := Lib.hid hB
  have HL := Lib.hid hL
  generalize hP : NewR B L w = Post
  have HP := Lib.hid hP
  clear hE hB hL hP
  go_enter Tryz.func22, Tryz.ntmps22
  go_wp2_with fail
  refine (wnew_any (E := E) w HB.out HL.out HE.out).mono ?_
  rintro e w1 ⟨rfl, h1, k1⟩
  have H1 := Lib.hid h1
  have K1 := Lib.hid k1
  clear h1 k1
  go_wp2
  rw [← HP.out]
  refine ⟨w1.heap.size, w.heap.size + 2, w.heap.size, w.heap.size + 1, rfl, K1.out.below.size, ⟨by simp, by simp⟩, H1.out.loc _, K1.out.trans (H1.out.kept (bl_alloc (Below.refl _ _) _))⟩
theorem tfree_any (ha : TA w a b) (h : WB B L w b t dm st) (f : Full st) {k : Int} (hk : -9223372036854775808 ≤ k ∧ k ≤ 9223372036854775807) :
    Calls Tryz.prog 70 #[.pointer (some ⟨a, 0, none⟩), .int .i64 k] w fun e w' => e = .returned (.bool (freeT st k).1) ∧ WB B L w' b t dm (freeT st k).2 ∧ KeptP B L w w' := by
  have H := Lib.hid h
  have HF := Lib.hid f
  have HA := Lib.hid ha
  obtain ⟨R, hR⟩ : ∃ R, freeT st k = R := ⟨_, rfl⟩
  rw [hR]
  unfold freeT at hR
  have HR := Lib.hid hR
  generalize hP : (fun (e : Ending) (w' : World) => e = .returned (.bool R.1) ∧ WB B L w' b t dm R.2 ∧ KeptP B L w w') = Post
  have HP := Lib.hid hP
  clear hP h hR f ha
  obtain ⟨a0, al⟩ := HA.out
  have b0 := H.out.c0
  have bl0 := H.out.lt.1
  obtain ⟨is, his⟩ : ∃ is, (st.nd k).isSome = is := ⟨_, rfl⟩
  obtain ⟨q, hq⟩ : ∃ q, (st.nd k).getD noNd = q := ⟨_, rfl⟩
  have HI := Lib.hid his
  have HQ := Lib.hid hq
  clear his hq
  obtain ⟨q1, q2, q3, q4, q5, q6⟩ := q
  go_enter Tryz.func70, Tryz.ntmps70
  go_wp2_with fail
  refine (wl_get H.out hk).mono ?_
  rw [HI.out, HQ.out]
  rintro e w1 ⟨rfl, hb1⟩
  have H1 := Lib.hid (H.out.below hb1)
  have K1 := Lib.hid (H.out.kept hb1)
  have HA1 := Lib.hid (HA.out.below hb1)
  clear hb1 a0 al b0 bl0
  simp only [encN]
  have bb := bl_alloc (Below.refl w1.heap.size w1) (.cells #[.int .i64 q1, .int .i64 q2, .int .i64 q3, .int .i64 q4, .string q5, .int .i64 q6] 59)
  have H2 := Lib.hid (H1.out.below bb)
  have K2 := Lib.hid (K1.out.trans (H1.out.kept bb))
  have HA2 := Lib.hid (HA1.out.below bb)
  clear bb
  cases is with
  | false =>
    have HRR : Hid (R = (false, st)) := Lib.hid (by rw [← HR.out, nd_none (by simpa using HI.out)])
    go_wp2
    rw [← HP.out, HRR.out]
    exact ⟨rfl, H2.out, K2.out⟩
  | true =>
    obtain ⟨x, hx, hx2⟩ : ∃ x, st.get k = some x ∧ x.nd.links = q3 := by
      have h1 := HI.out
      have h2 := HQ.out
      unfold St.nd at h1 h2
      cases hg : st.get k with
      | none => rw [hg] at h1; cases h1
      | some r => rw [hg] at h2; exact ⟨r, rfl, by rw [show r.nd = _ from h2]⟩
    by_cases hl : 0 < q3
    · have HRR : Hid (R = (false, st)) := Lib.hid (by rw [← HR.out, hx]; simp only; rw [if_pos (by rw [hx2]; exact hl)])
      have hl' : q3 > 0 := hl
      clear hx hx2
      go_wp2
      rw [← HP.out, HRR.out]
      exact ⟨rfl, H2.out, K2.out⟩
    · have HRR : Hid (R = (true, st.drop k)) := Lib.hid (by rw [← HR.out, hx]; simp only; rw [if_neg (by rw [hx2]; exact hl)])
      have hl' : ¬ q3 > 0 := hl
      clear hx hx2
      go_wp2_with fail
      refine (tgone_any HA2.out H2.out HF.out.rise hk).mono ?_
      rintro v w3 ⟨rfl, h3, k3⟩
      have H3 := Lib.hid h3
      have K3 := Lib.hid (K2.out.trans k3)
      clear h3 k3
      go_wp2
      rw [← HP.out, HRR.out]
      exact ⟨rfl, H3.out, K3.out⟩
end
end Go.Proofs.YtjekpbkmhgfhoaaGreatDoor
end

section
/- The walk of package tree's Hard. -/
namespace Go.Proofs.YtjekpbkmhgfhoaaGreatDoor
open Go Go.RowKit
set_option maxRecDepth 100000
set_option linter.unusedSimpArgs false
set_option linter.unusedVariables false
attribute [local go_sem] giv
variable {E : Nat → Addr} {B : Nat}

section
variable {L : Nat → Prop} {w : World} {a b t dm : Nat} {st : St}
theorem TA.set (h : TA w a b) {p : Addr} (hne : ¬ a = p.block) (u : Value) : TA (w.setCell p u) a b :=
  ⟨(World.cell?_of_block (w := w) (Below.heap_setCell _ _ _ _ hne)).trans h.1, by simpa using h.2⟩
def HardR (E : Nat → Addr) (B : Nat) (L : Nat → Prop) (b t dm : Nat) (R : Int × St) (w : World) (e : Ending) (w' : World) : Prop :=
  e = .returned (errOf E R.1) ∧ WB B L w' b t dm R.2 ∧ KeptP B L w w'
end
end Go.Proofs.YtjekpbkmhgfhoaaGreatDoor
end

section
/- Plain facts for package tree's Rename. -/
namespace Go.Proofs.YtjekpbkmhgfhoaaGreatDoor
open Go Go.RowKit
set_option maxRecDepth 100000
set_option linter.unusedSimpArgs false
set_option linter.unusedVariables false
/-- The place where a name is to be. -/
theorem ren_place {st : St} (f : Full st) {y : ByteArray} (h0 : (parseP y).1 = 0) {gd gn : Int} {gname : ByteArray} (hg : lastP st (parseP y).2 = (0, ⟨gd, gn, gname⟩)) :
    1 ≤ gd ∧ gd ≤ 16777215 ∧ st.isDir gd = true ∧ RiseE (st.ents gd) ∧ gname.size ≤ maxLen ∧ RiseN (st.delE gd gname).ns ∧ nmCode gname = 0 ∧ nmSpecial gname = false := by
  have hl := lastP_ok hg
  obtain ⟨h7, h8⟩ := hl.name (show parseP y = (0, (parseP y).2) by rw [← h0])
  obtain ⟨x, h1, h2, h3⟩ := hl.at'
  have hfd := dir_ids f.toGood h1
  simp only at h1 h3 h7 h8 hfd
  refine ⟨hfd.1, hfd.2.1, by unfold St.isDir; rw [h1]; simp [h2], ?_, Nat.le_trans (nmCode_size h7) (by decide), onR_rise f.rise, h7, h8⟩
  rw [show st.ents gd = x.ents by unfold St.ents; rw [h1]; rfl]
  exact f.erise x (findN_mem h1)
theorem ren_old {st : St} (f : Full st) {gd gn : Int} {gname : ByteArray} {m : NR} (hm : st.get gn = some m) :
    validB m.nd = true ∧ m.nd.id = gn ∧ 1 ≤ gn ∧ gn ≤ 16777215 ∧ ∃ x, (st.delE gd gname).get m.nd.id = some x := by
  have hid := findN_id hm
  have hv := f.val m (findN_mem hm)
  have hvi := valid_ids hv
  refine ⟨hv, hid, by omega, by omega, ?_⟩
  rw [hid]
  obtain ⟨y, hy, _⟩ := get_delE_of (d := gd) (n := gname) hm
  exact ⟨y, hy⟩
theorem ren_tail {st : St} (f : Full st) {x y : ByteArray} (hx : (parseP x).1 = 0) (hy : (parseP y).1 = 0) {fd fn : Int} {fname : ByteArray} {n : Nd} (hf : thereP st (parseP x).2 = (0, ⟨fd, fn, fname⟩, n))
    {gd gn : Int} {gname : ByteArray} (hg : lastP st (parseP y).2 = (0, ⟨gd, gn, gname⟩)) (hne : fn ≠ gn) (hc : renC st ⟨gd, gn, gname⟩ (parseP y).2.slash n = 0) :
    (ousted st ⟨gd, gn, gname⟩).isDir fd = true ∧ RiseE ((ousted st ⟨gd, gn, gname⟩).ents fd) ∧ RiseN ((ousted st ⟨gd, gn, gname⟩).delE fd fname).ns ∧
      (∃ z, ((ousted st ⟨gd, gn, gname⟩).delE fd fname).get n.id = some z) ∧ (n.kind = 2 → validB (setPar n gd) = true) ∧
      (if n.kind = 2 then ((ousted st ⟨gd, gn, gname⟩).delE fd fname).put (setPar n gd) else (ousted st ⟨gd, gn, gname⟩).delE fd fname).isDir gd = true ∧
      addCode (entOf ((if n.kind = 2 then ((ousted st ⟨gd, gn, gname⟩).delE fd fname).put (setPar n gd) else (ousted st ⟨gd, gn, gname⟩).delE fd fname).ents gd)) ⟨gname, n.id, n.kind⟩ = 0 := by
  obtain ⟨_, x0, e, r, h1, h2, h3, h4, h5, h6⟩ := thereP_ok f.toGood hf
  subst h6
  have hl := lastP_ok hg
  obtain ⟨hc1, hs1⟩ := hl.name (show parseP y = (0, (parseP y).2) by rw [← hy])
  obtain ⟨F, ⟨z, hz1, hz2, hz3⟩, H1, H2⟩ := ousted_full f hl (fun m hm hk => by
    unfold renC at hc
    rw [hm] at hc
    simp only at hc
    unfold ontoC at hc
    by_cases hr2 : r.nd.kind = 2
    · rw [if_neg (fun h => h.2 hk), if_neg (fun h => h.1 hr2)] at hc
      cases hb : st.full m.nd.id with
      | false => rfl
      | true => rw [if_pos ⟨hk, hb⟩] at hc; exact absurd hc (by decide)
    · rw [if_neg (fun h => hr2 h.1), if_pos ⟨hr2, hk⟩] at hc
      exact absurd hc (by decide))
  simp only at h1 h3 h4 h5 hz1 hz3 hc1 hs1
  obtain ⟨x', h7, h8, h9⟩ := H1 _ _ _ _ h1 h2 h3 (by rw [h4]; exact hne)
  obtain ⟨n', h10, h11⟩ := H2 _ _ h5 hne
  have hid := findN_id h5
  have hv := f.val r (findN_mem h5)
  obtain ⟨n2, h12, h13, _⟩ := get_delE_of (d := fd) (n := fname) h10
  obtain ⟨z2, h14, h15, h16, h17⟩ := get_delE_of (d := fd) (n := fname) hz1
  have hgd := dir_ids F.toGood hz1
  have hz2no : entOf z2.ents gname = none := by
    by_cases hdd : gd = fd
    · rw [h17 hdd, entOf_cutE]
      split
      · rfl
      · exact hz3
    · rw [h16 hdd]
      exact hz3
  generalize ho : (ousted st ⟨gd, gn, gname⟩) = o at *
  have hrise : RiseN (o.delE fd fname).ns := onR_rise F.rise
  have hkk : 1 ≤ r.nd.kind ∧ r.nd.kind ≤ 3 := by
    simp only [validB, kindB, Bool.and_eq_true, decide_eq_true_eq] at hv
    omega
  have hids := valid_ids hv
  have hm : mayB ⟨gname, r.nd.id, r.nd.kind⟩ = true := by
    simp only [mayB, Bool.and_eq_true, decide_eq_true_eq]
    omega
  refine ⟨by unfold St.isDir; rw [h7]; simp [h8, h2], ?_, hrise, ⟨n2, by rw [hid]; exact h12⟩, fun hk => valid_par hv hk ⟨hgd.1, hgd.2.1⟩, ?_⟩
  · rw [show o.ents fd = x'.ents by unfold St.ents; rw [h7]; rfl]
    exact F.erise x' (findN_mem h7)
  · obtain ⟨v, hv1, hv2, hv3⟩ : ∃ v, (if r.nd.kind = 2 then (o.delE fd fname).put (setPar r.nd gd) else o.delE fd fname).get gd = some v ∧ v.nd.kind = 2 ∧ entOf v.ents gname = none := by
      by_cases hk : r.nd.kind = 2
      · rw [if_pos hk, get_put hrise]
        by_cases hgi : gd = (setPar r.nd gd).id
        · rw [if_pos hgi]
          refine ⟨_, rfl, hk, ?_⟩
          rw [← hgi, h14]
          simp only
          rw [keepE_both (by exact hk) (by rw [h15]; exact hz2)]
          exact hz2no
        · rw [if_neg hgi]
          exact ⟨z2, h14, by rw [h15]; exact hz2, hz2no⟩
      · rw [if_neg hk]
        exact ⟨z2, h14, by rw [h15]; exact hz2, hz2no⟩
    refine ⟨by unfold St.isDir; rw [hv1]; simp [hv2], ?_⟩
    have he : (if r.nd.kind = 2 then (o.delE fd fname).put (setPar r.nd gd) else o.delE fd fname).ents gd = v.ents := by unfold St.ents; rw [hv1]; rfl
    unfold addCode
    rw [if_pos hc1, if_neg (by rw [hs1]; decide), if_pos hm, he, hv3]
    rfl
end Go.Proofs.YtjekpbkmhgfhoaaGreatDoor
end

section
/- The walks of Clone of package walk and of package tree: a tree of one's own. -/
namespace Go.Proofs.YtjekpbkmhgfhoaaGreatDoor
open Go Go.RowKit
set_option maxRecDepth 100000
set_option linter.unusedSimpArgs false
set_option linter.unusedVariables false
attribute [local go_sem] giv
variable {E : Nat → Addr} {B : Nat}
section
variable {w w' : World} {b t dm : Nat} {nm : Option Nat} {dirs : Dirs} {pn : Nat} {lab : Nat → Int} {nd : Int → Option Nd} {n : Nat} {last : Int} {de : Int → List En}
open Classical in
/-- A table, and a map without directories. -/
theorem LowAt.start (c0 : w.cell? ⟨b, 0, none⟩ = some (.pointer (some ⟨t, 0, none⟩))) (c1 : w.cell? ⟨b, 1, none⟩ = some (.map (some dm))) (hN : NodesAt w t nm nd n last) (hm : PMap w dm (fun _ => none) 0)
    (h1 : ∀ x, OwnN t nm x → x ≠ b ∧ x ≠ dm) (hbd : b ≠ dm) (hb : b < w.heap.size) (hd : dm < w.heap.size) :
    ∃ lab, LowAt w b t dm nm (fun _ => none) 0 lab nd n last (fun _ => []) ∧ ∀ x, lab x ≠ 0 → x = b ∨ x = dm ∨ OwnN t nm x := by
  have key : ∀ x, (if x = b then (-1 : Int) else if x = dm then -4 else if OwnN t nm x then -2 else 0) ≠ 0 → x = b ∨ x = dm ∨ OwnN t nm x := fun x hx => by
    split at hx
    · rename_i h; exact .inl h
    · split at hx
      · rename_i h; exact .inr (.inl h)
      · split at hx
        · rename_i h; exact .inr (.inr h)
        · exact absurd rfl hx
  refine ⟨fun x => if x = b then -1 else if x = dm then -4 else if OwnN t nm x then -2 else 0, ⟨c0, c1, hN, hm, fun k p hp => (by cases hp), fun _ _ => rfl, fun x hx => ?_, fun k p hp => (by cases hp), if_pos rfl, ?_, fun x hx => ?_⟩, key⟩
  · obtain ⟨h2, h3⟩ := h1 x hx
    show (if x = b then (-1 : Int) else if x = dm then -4 else if OwnN t nm x then -2 else 0) = -2
    rw [if_neg h2, if_neg h3, if_pos hx]
  · show (if dm = b then (-1 : Int) else if dm = dm then -4 else if OwnN t nm dm then -2 else 0) = -4
    rw [if_neg (fun e => hbd e.symm), if_pos rfl]
  · rcases key x hx with rfl | rfl | h
    · exact hb
    · exact hd
    · exact hN.own_lt x h
open Classical in
/-- A directory that is there already, in blocks of its own, is put into the map. -/
theorem LowAt.turnC (h : LowAt w b t dm nm dirs pn lab nd n last de) {k : Int} (hk : 1 ≤ k) (hno : dirs k = none) {x pn' : Nat} {m' : Option Nat} {l : List En} (hx : ∀ y, OwnD x m' y → w.heap.size ≤ y) (hd : DirAt w' x m' (entOf l) l.length) (hm : PMap w' dm (upd (blocks dirs) k x) pn') (t1 : Touch (fun y => y = dm) w w') :
    ∃ lab', LowAt w' b t dm nm (upd dirs k (x, m')) pn' lab' nd n last (fun i => if i = k then l else de i) ∧ ∀ y, lab' y ≠ 0 → lab y ≠ 0 ∨ w.heap.size ≤ y := by
  have hb : lab b ≠ 0 := by rw [h.labb]; decide
  have hdm : lab dm ≠ 0 := by rw [h.labm]; decide
  have nb : ¬ b = dm := fun hx => by have := h.labb; rw [hx, h.labm] at this; omega
  have hbl : blocks (upd dirs k (x, m')) = upd (blocks dirs) k x := by
    funext i
    unfold blocks upd
    split <;> rfl
  have old : ∀ y, y < w.heap.size → (if OwnD x m' y then k else lab y) = lab y := fun y hy => if_neg (fun hh => by have := hx y hh; omega)
  have hle := t1.size
  refine ⟨fun y => if OwnD x m' y then k else lab y, ⟨?_, ?_, ?_, by rw [hbl]; exact hm, ?_, ?_, ?_, ?_, ?_, ?_, ?_⟩, ?_⟩
  · exact (t1.cell (p := ⟨b, 0, none⟩) (h.lt b hb) nb).trans h.c0
  · exact (t1.cell (p := ⟨b, 1, none⟩) (h.lt b hb) nb).trans h.c1
  · exact h.nodes.touch t1 (fun y hy hn => by subst hn; have := h.labn _ hy; rw [h.labm] at this; omega)
  · intro i p hp
    unfold upd at hp
    by_cases hi : i = k
    · rw [if_pos hi] at hp
      injection hp with hp
      subst hp
      simp only [if_pos hi]
      exact hd
    · rw [if_neg hi] at hp
      obtain ⟨h4, h5⟩ := h.labd i p hp
      simp only [if_neg hi]
      exact (h.own i p hp).touch t1 (fun y hy hn => by subst hn; have := h5 _ hy; rw [h.labm] at this; omega)
  · intro i hi
    unfold upd at hi
    by_cases he : i = k
    · rw [if_pos he] at hi; cases hi
    · rw [if_neg he] at hi
      simp only [if_neg he]
      exact h.bare i hi
  · intro y hy
    exact (old y (h.lt y (by rw [h.labn y hy]; decide))).trans (h.labn y hy)
  · intro i p hp
    unfold upd at hp
    by_cases hi : i = k
    · rw [if_pos hi] at hp
      injection hp with hp
      subst hp
      rw [hi]
      exact ⟨hk, fun y hy => if_pos hy⟩
    · rw [if_neg hi] at hp
      obtain ⟨h4, h5⟩ := h.labd i p hp
      exact ⟨h4, fun y hy => (old y (h.lt y (by rw [h5 y hy]; omega))).trans (h5 y hy)⟩
  · exact (old b (h.lt b hb)).trans h.labb
  · exact (old dm (h.lt dm hdm)).trans h.labm
  · intro y hy
    try simp only at hy
    split at hy
    · rename_i hc; exact hd.own_lt y hc
    · exact Nat.lt_of_lt_of_le (h.lt y hy) hle
  · intro y hy
    try simp only at hy
    split at hy
    · rename_i hc; exact .inr (hx y hc)
    · exact .inl hy
end
theorem rng_nodup {K V : Type} [DecidableEq K] {eK : K → Value} {eV : V → Value} {w : World} {r b cnt : Nat} {g : K → Option V} {left : List K} (h : Rng eK eV w r b g left cnt) : left.Nodup := by
  obtain ⟨es, clock, since, seen, c0, h1, h2, h3, h4, h5, h6, h7, h8, h9, h10⟩ := h
  exact h9
theorem rng_step {K : Type} [DecidableEq K] {left ss ks : List K} (hp : (ss ++ left).Perm ks) (hn : ks.Nodup) {k : K} (hk : k ∈ left) : ((ss ++ [k]) ++ left.filter (fun x => decide (x ≠ k))).Perm ks := by
  have h1 : left.Nodup := (List.nodup_append.1 (hp.nodup_iff.2 hn)).2.1
  have h2 : left.filter (fun x => decide (x ≠ k)) = left.erase k := by
    rw [h1.erase_eq_filter]
    refine List.filter_congr fun x _ => ?_
    simp [bne]
    rfl
  rw [h2, List.append_assoc]
  exact ((List.perm_cons_erase hk).symm.append_left ss).trans hp
section
variable {L : Nat → Prop} {w : World} {a b t dm : Nat} {st : St}
set_option maxHeartbeats 4000000 in
theorem wclone_any (h : WB B L w b t dm st) (f : Full st) :
    Calls Tryz.prog 140 #[.pointer (some ⟨b, 0, none⟩)] w fun e w' => (∃ b' t' dm', e = .returned (.pointer (some ⟨b', 0, none⟩)) ∧ WB w.heap.size (fun _ => False) w' b' t' dm' st) ∧ Below w.heap.size w w' := by
  have hkeys : ∀ k, st.isDir k = true → 1 ≤ k ∧ k ≤ 16777215 := fun k hk => by
    unfold St.isDir at hk
    split at hk
    · rename_i r hr
      have := valid_ids (f.val r (findN_mem hr))
      rwa [findN_id hr] at this
    · cases hk
  have HKEY := Lib.hid hkeys
  obtain ⟨h1, h2, nm, dirs, pn, lab, h3, h4, h5⟩ := h
  have H := Lib.hid h3
  have HQ := Lib.hid h5
  have c0 := h3.c0
  have bl := h3.lt b (by rw [h3.labb]; decide)
  have hmm := @run_makeMap Tryz.prog
  generalize hP : (fun (e : Ending) (w' : World) => (∃ b' t' dm', e = .returned (.pointer (some ⟨b', 0, none⟩)) ∧ WB w.heap.size (fun _ => False) w' b' t' dm' st) ∧ Below w.heap.size w w') = Post
  have HP := Lib.hid hP
  clear hP h1 h2 h3 h4 h5 hkeys
  go_enter Tryz.func140, Tryz.ntmps140
  go_wp2_with fail
  refine (nclone_any H.out.nodes).mono ?_
  rintro e w1 ⟨⟨t', nm', rfl, hN, hown⟩, hb1⟩
  have HN := Lib.hid (And.intro hN (And.intro hown hb1))
  clear hN hown hb1 c0 bl
  go_upto_region 2 with fail
  obtain ⟨D, hD⟩ : ∃ D, w1.heap.size = D := ⟨_, rfl⟩
  obtain ⟨X, hX⟩ : ∃ X, X = D + 1 := ⟨_, rfl⟩
  have s1 : (w1.alloc (.map #[] 0)).heap.size = D + 1 := by simp [hD]
  obtain ⟨w2, hw2⟩ : ∃ w2, w2 = (w1.alloc (.map #[] 0)).alloc (.cells #[.pointer (some ⟨t', 0, none⟩), .map (some D)] 92) := ⟨_, rfl⟩
  have rX : Row w2 X 92 [.pointer (some ⟨t', 0, none⟩), .map (some D)] := by
    have := Row.new (w1.alloc (.map #[] 0)) 92 [.pointer (some ⟨t', 0, none⟩), .map (some D)]
    rw [s1, ← hX] at this
    rw [hw2]; exact this
  have hb2 : Below w1.heap.size w1 w2 := by rw [hw2]; exact bl_alloc (bl_alloc (Below.refl _ _) _) _
  have hpm : PMap w2 D (fun _ => none) 0 := by rw [hw2]; exact (mapAt_new' _ _ _ _ w1 hD.symm).alloc _
  have hz2 : w2.heap.size = D + 2 := by rw [hw2]; simp [hD]
  obtain ⟨lab0, hlow, hlab⟩ := LowAt.start (rX.cell 0) (rX.cell 1) (HN.out.1.below hb2) hpm (fun x hx => by have := HN.out.1.own_lt x hx; omega) (by omega) (by omega) (by omega)
  rw [hD, ← hX, ← hw2]
  have HB2 := Lib.hid (HN.out.2.2.trans (hb2.mono HN.out.2.2.size))
  have HSRC := Lib.hid (H.out.touch (Touch.of_below HB2.out NoB) (fun _ _ h => h))
  have HLOW := Lib.hid hlow
  have HLAB : Hid (∀ x, lab0 x ≠ 0 → w.heap.size ≤ x) := Lib.hid (fun x hx => by
    have h9 := HN.out.2.2.size
    rcases hlab x hx with h | h | h
    · omega
    · omega
    · exact HN.out.2.1 x h)
  have HLT := Lib.hid (show ∀ x, lab0 x ≠ 0 → x < w2.heap.size from hlow.lt)
  have c1 := HSRC.out.c1
  have bl := HSRC.out.lt b (by rw [HSRC.out.labb]; decide)
  have HXZ := Lib.hid (And.intro hX hz2)
  clear hw2 s1 rX hb2 hpm hz2 hlow hlab hD hX
  go_wp2_with (at_range; refine wpList_rng rfl _ _ _ rfl rfl HSRC.out.map Tryz.underlying90 inj64 ?_; intro w3 ks hr hk hkn hb hz)
  have HK : Hid (ks.Nodup ∧ ∀ k, k ∈ ks ↔ (blocks dirs k).isSome = true) := Lib.hid ⟨rng_nodup hr, hk⟩
  have HR := Lib.hid hr
  have HB3 := Lib.hid hb
  have HZ3 := Lib.hid hz
  obtain ⟨rr, hrr⟩ : ∃ rr, rr = w2.heap.size := ⟨_, rfl⟩
  rw [← hrr]
  rw [← hrr] at HR
  have HRR := Lib.hid hrr
  clear hr hk hkn hb hz hrr c1 bl
  go_frame
  go_loopw [4, 5] (fun _ _ wr => ∃ (left : List Int) (cnt : Nat) (ss : List Int) (dirs' : Dirs) (pn' : Nat) (lab' : Nat → Int), Rng (Value.int .i64) encP wr rr dm (blocks dirs) left cnt ∧ (ss ++ left).Perm ks ∧
    LowAt wr X t' D nm' dirs' pn' lab' st.nd st.ns.length st.last (fun i => if i ∈ ss then st.ents i else []) ∧ (∀ k, dirs' k ≠ none → k ∈ ss) ∧ (∀ x, lab' x ≠ 0 → w.heap.size ≤ x ∧ x ≠ rr) ∧ Below w.heap.size w wr) (fun _ _ wr => wr.rangeLeft dm rr)
  case atStart =>
    refine ⟨ks, _, [], fun _ => none, 0, lab0, HR.out, List.Perm.refl _, ?_, fun k hk => absurd rfl hk, fun x hx => ⟨HLAB.out x hx, fun e => ?_⟩, HB2.out.trans (HB3.out.mono HB2.out.size)⟩
    · have := HLOW.out.touch (Touch.of_below HB3.out NoB) (fun _ _ h => h)
      simpa using this
    · have := HLT.out x hx
      have := HRR.out
      omega
  case round =>
    obtain ⟨left, cnt, ss, dirs', pn', lab', hr, hp, hl, hd, hlb, hb⟩ := hrel
    have HRG := Lib.hid hr
    have HPM := Lib.hid hp
    have HL := Lib.hid hl
    have HD := Lib.hid hd
    have HLB := Lib.hid hlb
    have HBr := Lib.hid hb
    clear hr hp hl hd hlb hb HR HLOW HLAB HLT
    go_wp2_with (at_next; refine wpList_rnext rfl _ rfl rfl HRG.out inj64 ?_ ?_)
    · intro hl0
      have HL0 := Lib.hid hl0
      clear hl0
      go_wp2
      rw [← HP.out]
      have hp := HPM.out
      rw [HL0.out, List.append_nil] at hp
      have hmem : ∀ i, i ∈ ss ↔ (blocks dirs i).isSome = true := fun i => hp.mem_iff.trans (HK.out.2 i)
      have hde : (fun i => if i ∈ ss then st.ents i else []) = st.ents := by
        funext i
        by_cases hi : i ∈ ss
        · rw [if_pos hi]
        · rw [if_neg hi]
          have hn : dirs i = none := by
            cases hk : dirs i with
            | none => rfl
            | some p => exact absurd ((hmem i).2 (by unfold blocks; rw [hk]; rfl)) hi
          exact (H.out.bare i hn).symm
      have hlow := HL.out
      rw [hde] at hlow
      refine ⟨⟨X, t', D, rfl, HBr.out.size, fun x hx => hx.elim, nm', dirs', pn', lab', hlow, fun x hx => ⟨(HLB.out x hx).1, fun h => h⟩, fun k hk => ?_⟩, HBr.out⟩
      have h1 := (hmem k).1 (HD.out k hk)
      refine HQ.out k (fun h => ?_)
      unfold blocks at h1
      rw [h] at h1
      cases h1
    · rintro k x w4 cnt' hk m hg hr2 hlt2 ht hen
      have HG := Lib.hid hg
      have hkk := HKEY.out k (HQ.out k (by rw [hg]; simp))
      have HRR0 : Hid (w.heap.size ≤ rr) := Lib.hid (by rw [HRR.out]; exact HB2.out.size)
      have HB4 := Lib.hid (HBr.out.trans (ht.below HBr.out.size (fun y hy => by subst hy; exact HRR0.out)))
      have HL4 := Lib.hid (HL.out.touch ht (fun y hy e => (HLB.out y hy).2 e))
      have HDK := Lib.hid ((H.out.own k _ hg).touch (Touch.of_below HB4.out NoB) (fun _ _ h => h))
      have HR2 := Lib.hid hr2
      have HLT := Lib.hid hlt2
      have hnd := HPM.out.nodup_iff.2 HK.out.1
      have hnss : k ∉ ss := fun h => (List.nodup_append.1 hnd).2.2 k h k hk rfl
      have HNO : Hid (dirs' k = none) := Lib.hid (Classical.byContradiction fun h => hnss (HD.out k h))
      have HPM2 := Lib.hid (rng_step HPM.out HK.out.1 hk)
      have hlD : lab' D ≠ 0 := by rw [HL.out.labm]; decide
      have hlX : lab' X ≠ 0 := by rw [HL.out.labb]; decide
      have hX1 := HL4.out.c1
      have hXl := HL4.out.lt X hlX
      have HDL : Hid (w.heap.size ≤ D ∧ D ≠ rr ∧ D < w4.heap.size) := Lib.hid ⟨(HLB.out D hlD).1, (HLB.out D hlD).2, HL4.out.lt D hlD⟩
      have S : ∀ w', Below w4.heap.size w4 w' → w'.cell? ⟨X, 1, none⟩ = some (.map (some D)) := fun w' hb => (hb.cell (p := ⟨X, 1, none⟩) hXl).trans hX1
      clear hr2 hg hk hlt2 ht hnd hnss hlD hlX hX1
      unfold encP at hen
      go_wp2_with fail
      apply wp_region_tail 7 _ (by kernel_rfl) (by kernel_rfl) (by kernel_rfl) (by decide) (fun w' => Below w4.heap.size w4 w') (fun w' w'' => Below w'.heap.size w' w'') (fun w' w'' h1 h2 => bl_trans h1 h2) (Below.refl _ _).drew
      simp only [List.take_succ_cons, List.take_zero, List.drop_succ_cons, List.drop_zero]
      repeat (first
        | (apply wpRel_skip (by rfl)
           simp only [Act.put, List.setIfInBounds_toArray, List.set_cons_zero, List.set_cons_succ])
        | (apply wpRel_fix (by rfl)
           · intro w' hC hf R hR
             have hS := S w' hC
             go_simp
             exact hR _ (Below.refl _ _)
           simp only [Act.put, List.setIfInBounds_toArray, List.set_cons_zero, List.set_cons_succ]))
      apply wpRel_rel (fun v w' => ∃ b2 m2, v = .pointer (some ⟨b2, 0, none⟩) ∧ DirAt w' b2 m2 (entOf (st.ents k)) (st.ents k).length ∧ ∀ y, OwnD b2 m2 y → w4.heap.size ≤ y) (by rfl) (fun v w1 w2 ⟨b2, m2, h1, h2, h3⟩ hE => ⟨b2, m2, h1, h2.touch (Touch.of_below hE NoB) (fun _ _ h => h), h3⟩)
      · intro w' hC hf R hR
        go_simp
        refine (dclone_any (HDK.out.touch (Touch.of_below hC NoB) (fun _ _ h => h))).mono ?_
        rintro e w'' ⟨⟨b2, m2, rfl, h1, h2⟩, hb⟩
        exact ⟨_, rfl, hR _ _ ⟨b2, m2, rfl, h1, fun y hy => Nat.le_trans hC.size (h2 y hy)⟩ hb⟩
      intro v
      simp only [Act.put, List.setIfInBounds_toArray, List.set_cons_zero, List.set_cons_succ]
      refine wpRel_nil (fun w6 hC hf => ?_)
      obtain ⟨b2, m2, rfl, hd2, ho2⟩ := hf _ (List.mem_cons_self ..)
      have hl6 := HL4.out.touch (Touch.of_below hC NoB) (fun _ _ h => h)
      clear S hf
      apply wpList_upd rfl _ _ _ _ rfl
      · exact hl6.map.put kdInt Tryz.underlying90 inj64 (keyI (a := k) ⟨by omega, by omega⟩) b2
      rintro w7 ⟨hm7, ht7⟩
      simp only [Act.put]
      have ht7' := Touch.of_turned ht7
      have hT : Touch (fun y => y = D) w4 w7 := (Touch.of_below hC _).trans ht7' (fun x hx _ => hx)
      obtain ⟨lab2, hlow2, hlab2⟩ := HL4.out.turnC hkk.1 HNO.out ho2 (hd2.touch ht7' (fun y hy e => by have := ho2 y hy; have := HDL.out.2.2; omega)) hm7 hT
      have hde : (fun i => if i = k then st.ents k else (fun i => if i ∈ ss then st.ents i else []) i) = fun i => if i ∈ ss ++ [k] then st.ents i else [] := by
        funext i
        by_cases hi : i = k
        · rw [if_pos hi, if_pos (by simp [hi]), hi]
        · rw [if_neg hi]
          by_cases hs : i ∈ ss
          · rw [if_pos (by simp [hs])]
            exact if_pos hs
          · rw [if_neg (by simp [hs, hi])]
            exact if_neg hs
      rw [hde] at hlow2
      have hdm : dm < w.heap.size := H.out.lt dm (by rw [H.out.labm]; decide)
      have hrlt := HR2.out.lt
      have HR7 := Lib.hid (HR2.out.keep (hT.block rr hrlt.1 (fun e => HDL.out.2.1 e.symm)) (hT.block dm hrlt.2 (fun e => by have := HDL.out.1; omega)))
      have HLOW2 := Lib.hid hlow2
      have HLAB2 := Lib.hid hlab2
      have HB7 := Lib.hid (HB4.out.trans (hT.below HB4.out.size (fun y hy => by rw [hy]; exact HDL.out.1)))
      have HRL := Lib.hid hrlt.1
      clear hm7 ht7 ht7' hT hC hl6 hd2 ho2 hlow2 hlab2 hde hdm hrlt
      go_wp2
      go_roundw
      case rel =>
        refine ⟨_, _, ss ++ [k], upd dirs' k (b2, m2), _, lab2, HR7.out, (by have := HPM2.out; simpa using this), HLOW2.out, fun i hi => ?_, fun y hy => ?_, HB7.out⟩
        · unfold upd at hi
          by_cases he : i = k
          · simp [he]
          · rw [if_neg he] at hi
            simp [HD.out i hi]
        · rcases HLAB2.out y hy with h | h
          · exact HLB.out y h
          · have := HB4.out.size
            have := HRL.out
            exact ⟨by omega, by omega⟩
      case measure =>
        rw [HR7.out.left_eq, HRG.out.left_eq]
        exact HLT.out
end
end Go.Proofs.YtjekpbkmhgfhoaaGreatDoor
end

section
/- A world's directories that keep their objects; codes of Look and List; in plain words what Look answers. -/
namespace Go.Proofs.YtjekpbkmhgfhoaaGreatDoor
open Go Go.RowKit
set_option maxRecDepth 100000
set_option linter.unusedSimpArgs false
set_option linter.unusedVariables false
attribute [local go_sem] giv
variable {E : Nat → Addr} {B : Nat}
section
variable {L : Nat → Prop} {w : World} {b t dm : Nat} {st : St}
end

section
variable {L : Nat → Prop} {w w' : World} {b t dm : Nat} {st : St}
/-- A step that keeps the tree, and its directory k's object. -/
def ShD (B : Nat) (L : Nat → Prop) (b t dm : Nat) (st : St) (k : Int) (w w' : World) : Prop := (WB B L w b t dm st → WB B L w' b t dm st ∧ KeptP B L w w') ∧ ∀ y, WD B L w b t dm st k y → WD B L w' b t dm st k y
def DirT (B : Nat) (L : Nat → Prop) (b t dm : Nat) (st : St) (k : Int) (v : Value) (w : World) : Prop := ∃ x, v = .tuple #[.pointer (some ⟨x, 0, none⟩), .bool true] ∧ WD B L w b t dm st k x
def DirP (B : Nat) (L : Nat → Prop) (b t dm : Nat) (st : St) (k : Int) (v : Value) (w : World) : Prop := ∃ x, v = .pointer (some ⟨x, 0, none⟩) ∧ WD B L w b t dm st k x
end
/-- What List answers: the error, the entries. -/
def listT (st : St) (s : ByteArray) : Int × List En := if (lookT st s true).1 ≠ 0 then ((lookT st s true).1, []) else if (lookT st s true).2.kind ≠ 2 then (111, []) else (0, st.ents (lookT st s true).2.id)
theorem parseP_code (s : ByteArray) : CodeOk (parseP s).1 := by
  rcases parse_code s with h | h | h | h <;> rw [h]
  · exact .inl rfl
  all_goals exact .inr (by simp)
theorem err_split {c : Int} (h : CodeOk c) : (c = 0 ∧ errOf E c = .nilIface) ∨ (c ≠ 0 ∧ ∃ p, errOf E c = .iface 295 (.pointer (some p))) := by
  rcases h with rfl | h
  · exact .inl ⟨rfl, rfl⟩
  · exact .inr ⟨by omega, errOf_some h⟩
end Go.Proofs.YtjekpbkmhgfhoaaGreatDoor
end

section
/- The codes of the tree's calls. No program in sight. -/
namespace Go.Proofs.YtjekpbkmhgfhoaaGreatDoor
open Go Go.RowKit
set_option maxRecDepth 100000
set_option linter.unusedSimpArgs false
set_option linter.unusedVariables false
theorem makeT_code (st : St) (s : ByteArray) (k : Int) (tx : ByteArray) : CodeOk (makeT st s k tx).1 := by
  unfold makeT
  simp only
  split
  · rcases parse_code s with h | h | h | h <;> rw [h]
    · exact .inl rfl
    all_goals exact .inr (by simp)
  · split
    · exact .inr (by simp)
    · split
      · exact tgtCode_ok _
      · split
        · exact freshP_code _ _ _
        · split
          · exact .inr (by simp)
          · exact .inl rfl
theorem unlinkT_code (st : St) (s : ByteArray) : CodeOk (unlinkT st s).1 := by
  unfold unlinkT
  simp only
  split
  · exact parseP_code _
  · split
    · exact thereP_code _ _
    · split
      · exact .inr (by simp)
      · exact .inl rfl
theorem renC_code (st : St) (g : Fnd) (sl : Bool) (n : Nd) : CodeOk (renC st g sl n) := by
  unfold renC ontoC
  split
  · split
    · exact .inr (by simp)
    · split
      · exact .inr (by simp)
      · split
        · exact .inr (by simp)
        · exact .inl rfl
  · split
    · exact .inr (by simp)
    · exact .inl rfl
theorem renameT_code (st : St) (x y : ByteArray) : CodeOk (renameT st x y).1 := by
  unfold renameT
  simp only
  split
  · exact parseP_code _
  · split
    · exact parseP_code _
    · split
      · exact thereP_code _ _
      · split
        · exact lastP_code _ _
        · split
          · exact .inl rfl
          · split
            · exact .inr (by simp)
            · split
              · exact renC_code _ _ _ _
              · exact .inl rfl
end Go.Proofs.YtjekpbkmhgfhoaaGreatDoor
end
