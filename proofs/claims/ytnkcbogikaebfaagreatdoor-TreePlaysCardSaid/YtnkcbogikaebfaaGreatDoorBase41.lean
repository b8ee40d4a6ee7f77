/- Merged texts: DocTM DocTold DocSame DocMade. -/
import Derived.Test.YtnkcbogikaebfaaGreatDoorBase34
import Derived.Test.YtnkcbogikaebfaaGreatDoorBase39
import Derived.Test.YtnkcbogikaebfaaGreatDoorBase40
import Derived.Test.YtnkcbogikaebfaaGreatDoorBase33
import Derived.Test.YtnkcbogikaebfaaGreatDoorBase22
section
/- A tree and the document's, both in a law's hands: what each act leaves of the two. -/
namespace Go.Proofs.YtnkcbogikaebfaaGreatDoor
open Go Go.RowKit
set_option maxRecDepth 100000
set_option linter.unusedSimpArgs false
set_option linter.unusedVariables false
variable {E : Nat → Addr} {B : Nat}
/-- The tree is st (handle a), the document's is sd (handle m, its blocks T); the law's own blocks X are as they were in wx. -/
structure TH (E : Nat → Addr) (B : Nat) (X : Nat → Prop) (wx : World) (a b t dm m : Nat) (T : Nat → Prop) (w0 : World) (st sd : St) (w : World) : Prop where
  ts : TS E B (fun x => x = a ∨ T x ∨ X x) a b t dm w0 st w
  mw : MW B T w m sd
  na : ¬ T a
  nx : ∀ x, X x → ¬ T x
  xs : ∀ x, X x → w.heap[x]? = wx.heap[x]?
abbrev TM (E : Nat → Addr) (B : Nat) (X : Nat → Prop) (wx : World) (a b t dm m : Nat) (T : Nat → Prop) (w0 : World) (st : St) (w : World) : Prop := TH E B X wx a b t dm m T w0 st st w
section
variable {X : Nat → Prop} {wx : World} {a b t dm m : Nat} {T : Nat → Prop} {w0 w w' : World} {st st' sd sd' : St}
theorem KeptP.touch {L : Nat → Prop} (k : KeptP B L w w') : Touch (fun x => ¬ L x) w w' := ⟨k.below.os, k.below.tape, k.below.output, k.below.size, fun x _ hn => k.loc x (Classical.not_not.1 hn)⟩
theorem TH.below (h : TH E B X wx a b t dm m T w0 st sd w) (hb : Below w.heap.size w w') : TH E B X wx a b t dm m T w0 st sd w' :=
  ⟨h.ts.below hb, h.mw.below hb, h.na, h.nx, fun x hx => (hb.block x (h.ts.wb.2.1 x (.inr (.inr hx)))).trans (h.xs x hx)⟩
/-- Behind an act on the tree. -/
theorem TH.tree (h : TH E B X wx a b t dm m T w0 st sd w) (hs : TS E B (fun x => x = a ∨ T x ∨ X x) a b t dm w0 st' w') (k : KeptP B (fun x => x = a ∨ T x ∨ X x) w w') : TH E B X wx a b t dm m T w0 st' sd w' :=
  ⟨hs, h.mw.touch k.touch (fun x hx hn => hn (.inr (.inl hx))), h.na, h.nx, fun x hx => (k.loc x (.inr (.inr hx))).trans (h.xs x hx)⟩
/-- Behind an act on the document's. -/
theorem TH.doc (h : TH E B X wx a b t dm m T w0 st sd w) (mo : MO B T m sd' w w') : TH E B X wx a b t dm m (NewT T w w') w0 st sd' w' := by
  have hlt := h.mw.lt
  have hL := h.ts.wb.2.1
  have hst : TS E B (fun x => x = a ∨ T x ∨ X x) a b t dm w0 st w' := h.ts.touch mo.2 (fun x hx => ⟨.inr (.inl hx), fun e => h.na (e ▸ hx), (hlt x hx).1⟩)
  refine ⟨⟨hst.ta, .inl rfl, ?_, hst.full, hst.env, hst.bel⟩, mo.1, ?_, ?_, fun x hx => (mo.2.block x (hL x (.inr (.inr hx))) (h.nx x hx)).trans (h.xs x hx)⟩
  · obtain ⟨h1, h2, nm, dirs, pn, lab, h3, h4, h5⟩ := h.ts.wb
    refine ⟨Nat.le_trans h1 mo.2.size, fun x hx => ?_, nm, dirs, pn, lab, h3.touch mo.2 (fun x hx hs => (h4 x hx).2 (.inr (.inl hs))), fun x hx => ⟨(h4 x hx).1, ?_⟩, h5⟩
    · rcases hx with hx | (hx | hx) | hx
      · exact Nat.lt_of_lt_of_le (h2 x (.inl hx)) mo.2.size
      · exact Nat.lt_of_lt_of_le (h2 x (.inr (.inl hx))) mo.2.size
      · exact hx.2
      · exact Nat.lt_of_lt_of_le (h2 x (.inr (.inr hx))) mo.2.size
    · rintro (h6 | (h6 | h6) | h6)
      · exact (h4 x hx).2 (.inl h6)
      · exact (h4 x hx).2 (.inr (.inl h6))
      · have := h3.lt x hx; omega
      · exact (h4 x hx).2 (.inr (.inr h6))
  · rintro (h6 | h6)
    · exact h.na h6
    · have := hL a (.inl rfl); omega
  · rintro x hx (h6 | h6)
    · exact h.nx x hx h6
    · have := hL x (.inr (.inr hx)); omega
theorem makeT_code (st : St) (s : ByteArray) (k : Int) (tx : ByteArray) : CodeOk (makeT st s k tx).1 := by
  unfold makeT
  simp only
  split
  · rcases parse_code s with h | h | h | h <;> rw [h]
    · exact .inl rfl
    all_goals exact .inr (by simp)
  · split
    · exact .inr (by simp)
    · split
      · exact tgtCode_ok _
      · split
        · exact freshP_code _ _ _
        · split
          · exact .inr (by simp)
          · exact .inl rfl
theorem parseP_code (s : ByteArray) : CodeOk (parseP s).1 := by
  rcases parse_code s with h | h | h | h <;> rw [h]
  · exact .inl rfl
  all_goals exact .inr (by simp)
theorem hardT_code (st : St) (x y : ByteArray) : CodeOk (hardT st x y).1 := by
  unfold hardT
  simp only
  split
  · exact parseP_code _
  · split
    · exact parseP_code _
    · split
      · exact toP_code _ _ _
      · split
        · exact .inr (by simp)
        · split
          · exact .inr (by simp)
          · split
            · exact freshP_code _ _ _
            · split
              · exact .inr (by simp)
              · exact .inl rfl
theorem unlinkT_code (st : St) (s : ByteArray) : CodeOk (unlinkT st s).1 := by
  unfold unlinkT
  simp only
  split
  · exact parseP_code _
  · split
    · exact thereP_code _ _
    · split
      · exact .inr (by simp)
      · exact .inl rfl
theorem rmdirT_code (st : St) (s : ByteArray) : CodeOk (rmdirT st s).1 := by
  unfold rmdirT
  simp only
  split
  · exact parseP_code _
  · split
    · exact thereP_code _ _
    · split
      · exact .inr (by simp)
      · split
        · exact .inr (by simp)
        · exact .inl rfl
theorem renC_code (st : St) (g : Fnd) (sl : Bool) (n : Nd) : CodeOk (renC st g sl n) := by
  unfold renC ontoC
  split
  · split
    · exact .inr (by simp)
    · split
      · exact .inr (by simp)
      · split
        · exact .inr (by simp)
        · exact .inl rfl
  · split
    · exact .inr (by simp)
    · exact .inl rfl
theorem renameT_code (st : St) (x y : ByteArray) : CodeOk (renameT st x y).1 := by
  unfold renameT
  simp only
  split
  · exact parseP_code _
  · split
    · exact parseP_code _
    · split
      · exact thereP_code _ _
      · split
        · exact lastP_code _ _
        · split
          · exact .inl rfl
          · split
            · exact .inr (by simp)
            · split
              · exact renC_code _ _ _ _
              · exact .inl rfl
theorem ts_make' {L : Nat → Prop} (h : TS E B L a b t dm w0 st w) (s tx : ByteArray) (k : Int) :
    Calls Tryz.prog 24 #[.pointer (some ⟨a, 0, none⟩), .string s, .int .i64 k, .string tx] w fun e w' => e = .returned (.tuple #[.int .i64 (makeT st s k tx).2.1, errOf E (makeT st s k tx).1]) ∧ TS E B L a b t dm w0 (makeT st s k tx).2.2 w' ∧ KeptP B L w w' := by
  by_cases hg : (parseP s).1 = 0 ∧ 1 ≤ k ∧ k ≤ 3
  · exact ts_make h s tx k rfl rfl rfl rfl hg.1 hg.2
  · refine (tmake_bad h.wb s k tx h.env (by omega)).mono ?_
    rintro e w' ⟨h1, h2, h3⟩
    exact ⟨h1, h.kept (makeT_full h.full s k tx) h2 h3, h3⟩
end
end Go.Proofs.YtnkcbogikaebfaaGreatDoor
end

section
/- The script's Told: one act, told both: their answers are alike. -/
namespace Go.Proofs.YtnkcbogikaebfaaGreatDoor
open Go Go.RowKit
set_option maxRecDepth 100000
set_option linter.unusedSimpArgs false
set_option linter.unusedVariables false
attribute [local go_sem] giv
variable {E : Nat → Addr} {B : Nat}
structure Ac where
  kind : Int
  n : Int
  a : ByteArray
  b : ByteArray
def encAc (c : Ac) : List Value := [.int .i64 c.kind, .int .i64 c.n, .string c.a, .string c.b]
def acV (c : Ac) : Value := .agg #[.int .i64 c.kind, .int .i64 c.n, .string c.a, .string c.b]
def stepT (st : St) (c : Ac) : St :=
  if c.kind = 1 then (makeT st c.a c.n c.b).2.2 else if c.kind = 2 then (hardT st c.a c.b).2 else if c.kind = 3 then (unlinkT st c.a).2.2 else
  if c.kind = 4 then (rmdirT st c.a).2.2 else if c.kind = 5 then (renameT st c.a c.b).2.2 else (freeT st c.n).2
theorem stepT_full {st : St} (f : Full st) (c : Ac) : Full (stepT st c) := by
  unfold stepT
  split
  · exact makeT_full f _ _ _
  · split
    · exact hardT_full f _ _
    · split
      · exact unlinkT_full f _
      · split
        · exact rmdirT_full f _
        · split
          · exact renameT_full f _ _
          · exact freeT_full f _
section
variable {X : Nat → Prop} {wx : World} {a b t dm m : Nat} {T : Nat → Prop} {w0 w w' : World} {st st' sd sd' : St}
/-- New blocks of the law's own. -/
theorem TH.own (h : TH E B X wx a b t dm m T w0 st sd w) (hb : Below w.heap.size w w') {X' : Nat → Prop} (h1 : ∀ x, X' x → X x ∨ (w.heap.size ≤ x ∧ x < w'.heap.size)) : TH E B X' w' a b t dm m T w0 st sd w' := by
  have h' := h.below hb
  have hL := h.ts.wb.2.1
  refine ⟨⟨h'.ts.ta, .inl rfl, h.ts.wb.loc' hb (fun x hx => ?_), h'.ts.full, h'.ts.env, h'.ts.bel⟩, h'.mw, h.na, fun x hx ht => ?_, fun x _ => rfl⟩
  · rcases hx with hx | hx | hx
    · exact .inl (.inl hx)
    · exact .inl (.inr (.inl hx))
    · rcases h1 x hx with h2 | h2
      · exact .inl (.inr (.inr h2))
      · exact .inr h2
  · rcases h1 x hx with h2 | h2
    · exact h.nx x h2 ht
    · have := (h.mw.lt x ht).2; omega
/-- .. and fewer. -/
theorem TH.back {X' : Nat → Prop} {wy : World} (h : TH E B X wx a b t dm m T w0 st sd w) (h1 : ∀ x, X' x → X x) (h2 : ∀ x, X' x → wx.heap[x]? = wy.heap[x]?) : TH E B X' wy a b t dm m T w0 st sd w :=
  ⟨h.ts.less (fun x hx => by
    rcases hx with hx | hx | hx
    · exact .inl hx
    · exact .inr (.inl hx)
    · exact .inr (.inr (h1 x hx))) (.inl rfl), h.mw, h.na, fun x hx => h.nx x (h1 x hx), fun x hx => (h.xs x (h1 x hx)).trans (h2 x hx)⟩
theorem mget_no (h : MW B T w m st) (t : Tid st) {id : Int} (hr : st.get id = none) :
    Calls Tryz.prog 47 #[.pointer (some ⟨m, 0, none⟩), .int .i64 id] w fun e w' => e = .returned (.tuple #[.pointer none, .bool false]) ∧ w = w' := by
  obtain ⟨v, ms, hD⟩ := h
  rcases place_get hD id with ⟨h1, _⟩ | ⟨_, _, _, _, _, h4⟩
  · exact dget_none hD (by have := hD.small t; omega) id h1
  · rw [hr] at h4; cases h4
set_option maxHeartbeats 8000000 in
theorem told_any (h : TM E B X wx a b t dm m T w0 st w) (ac : Ac) (hn : -9223372036854775808 ≤ ac.n ∧ ac.n ≤ 9223372036854775807) :
    Calls Tryz.prog 18 #[.pointer (some ⟨a, 0, none⟩), .pointer (some ⟨m, 0, none⟩), acV ac] w fun e w' => e = .returned (.bool true) ∧ ∃ T', TM E B X wx a b t dm m T' w0 (stepT st ac) w' := by
  obtain ⟨so, hso⟩ : ∃ so, stepT st ac = so := ⟨_, rfl⟩
  rw [hso]
  have HSO := Lib.hid hso
  have HH := Lib.hid h
  obtain ⟨kd, n, sa, sb⟩ := ac
  simp only at hn
  obtain ⟨w1, hw1⟩ : ∃ w1, w1 = w.alloc (.cells #[.int .i64 kd, .int .i64 n, .string sa, .string sb] 56) := ⟨_, rfl⟩
  have hb1 : Below w.heap.size w w1 := by rw [hw1]; exact bl_alloc (Below.refl _ _) _
  have rC : Row w1 w.heap.size 56 [.int .i64 kd, .int .i64 n, .string sa, .string sb] := by rw [hw1]; exact Row.new _ _ _
  have hX : ∀ x, X x → w1.heap[x]? = wx.heap[x]? := fun x hx => (hb1.block x (h.ts.wb.2.1 x (.inr (.inr hx)))).trans (h.xs x hx)
  have HX := Lib.hid hX
  obtain ⟨C0, hC0⟩ : ∃ C0, w.heap.size = C0 := ⟨_, rfl⟩
  have H1 : Hid (TM E B (fun x => x = C0 ∨ X x) w1 a b t dm m T w0 st w1) := Lib.hid (h.own hb1 (fun x hx => by
    rcases hx with hx | hx
    · right; rw [hx, ← hC0]; exact ⟨Nat.le_refl _, rC.lt⟩
    · exact .inl hx))
  generalize hP : (fun (e : Ending) (w' : World) => e = .returned (.bool true) ∧ ∃ T', TM E B X wx a b t dm m T' w0 so w') = Post
  have HP := Lib.hid hP
  have HF := Lib.hid h.ts.full
  unfold acV
  clear hP h hso hX
  go_enter Tryz.func18, Tryz.ntmps18
  go_upto_block 0 with fail
  rw [← hw1]
  rw [hC0] at rC
  try rw [hC0]
  have HRC := Lib.hid rC
  clear hw1 hC0 hb1
  have c0 := rC.cell' (i := 0) rfl
  have c1 := rC.cell' (i := 1) rfl
  have c2 := rC.cell' (i := 2) rfl
  have c3 := rC.cell' (i := 3) rfl
  have cl := rC.lt
  clear rC
  go_cut [7, 8, 9, 10] (fun s7 s8 s9 s10 wz => ∃ (i c : Int) (T' : Nat → Prop), s7 = .int .i64 i ∧ s8 = .int .i64 i ∧ s9 = .int .i64 c ∧ s10 = errOf E c ∧ Hid (CodeOk c) ∧ Hid (TM E B (fun x => x = C0 ∨ X x) w1 a b t dm m T' w0 so wz))
  case first =>
    by_cases hk1 : kd = 1
    case pos =>
      as_aux_lemma =>
        subst hk1
        have HEQ : Hid ((makeT st sa n sb).2.2 = so) := Lib.hid (by rw [← HSO.out]; rfl)
        have HT := Lib.hid (ts_make' H1.out.ts sa sb n)
        clear HSO
        go_wp2_with fail
        refine HT.out.mono ?_
        rintro e w2 ⟨rfl, hts, hkp⟩
        have HTR := Lib.hid (H1.out.tree hts hkp)
        have rC2 : Row w2 C0 56 [.int .i64 1, .int .i64 n, .string sa, .string sb] := HRC.out.keep (HTR.out.xs C0 (.inl rfl))
        have d1 := rC2.cell' (i := 1) rfl
        have d2 := rC2.cell' (i := 2) rfl
        have d3 := rC2.cell' (i := 3) rfl
        have dl := rC2.lt
        have HM := Lib.hid (mmakeT_any HTR.out.mw HF.out sa n sb)
        clear hts hkp rC2 c0 c1 c2 c3 cl
        go_wp2_with fail
        refine HM.out.mono ?_
        rintro e w3 ⟨rfl, mo⟩
        have HD := Lib.hid (HTR.out.doc mo)
        clear mo
        go_wp2_with fail
        go_meet
        case rel => exact ⟨(makeT st sa n sb).2.1, (makeT st sa n sb).1, _, rfl, rfl, rfl, rfl, Lib.hid (makeT_code _ _ _ _), Lib.hid (by rw [← HEQ.out]; exact HD.out)⟩
    have hb1 : (kd == 1) = false := by rw [beq_eq_false_iff_ne]; exact hk1
    by_cases hk2 : kd = 2
    case pos =>
      as_aux_lemma =>
        subst hk2
        have HEQ : Hid ((hardT st sa sb).2 = so) := Lib.hid (by rw [← HSO.out]; rfl)
        have HT := Lib.hid (ts_hard H1.out.ts sa sb rfl rfl rfl)
        clear HSO
        go_wp2_with fail
        refine HT.out.mono ?_
        rintro e w2 ⟨rfl, hts, hkp⟩
        have HTR := Lib.hid (H1.out.tree hts hkp)
        have rC2 : Row w2 C0 56 [.int .i64 2, .int .i64 n, .string sa, .string sb] := HRC.out.keep (HTR.out.xs C0 (.inl rfl))
        have d1 := rC2.cell' (i := 1) rfl
        have d2 := rC2.cell' (i := 2) rfl
        have d3 := rC2.cell' (i := 3) rfl
        have dl := rC2.lt
        have HM := Lib.hid (mhard_any HTR.out.mw HF.out sa sb)
        clear hts hkp rC2 c0 c1 c2 c3 cl
        go_wp2_with fail
        refine HM.out.mono ?_
        rintro e w3 ⟨rfl, mo⟩
        have HD := Lib.hid (HTR.out.doc mo)
        clear mo
        go_wp2_with fail
        go_meet
        case rel => exact ⟨0, (hardT st sa sb).1, _, rfl, rfl, rfl, rfl, Lib.hid (hardT_code _ _ _), Lib.hid (by rw [← HEQ.out]; exact HD.out)⟩
    have hb2 : (kd == 2) = false := by rw [beq_eq_false_iff_ne]; exact hk2
    by_cases hk3 : kd = 3
    case pos =>
      as_aux_lemma =>
        subst hk3
        have HEQ : Hid ((unlinkT st sa).2.2 = so) := Lib.hid (by rw [← HSO.out]; rfl)
        have HT := Lib.hid (ts_unlink H1.out.ts sa rfl rfl rfl rfl)
        clear HSO
        go_wp2_with fail
        refine HT.out.mono ?_
        rintro e w2 ⟨rfl, hts, hkp⟩
        have HTR := Lib.hid (H1.out.tree hts hkp)
        have rC2 : Row w2 C0 56 [.int .i64 3, .int .i64 n, .string sa, .string sb] := HRC.out.keep (HTR.out.xs C0 (.inl rfl))
        have d1 := rC2.cell' (i := 1) rfl
        have d2 := rC2.cell' (i := 2) rfl
        have d3 := rC2.cell' (i := 3) rfl
        have dl := rC2.lt
        have HM := Lib.hid (munlink_any HTR.out.mw HF.out sa)
        clear hts hkp rC2 c0 c1 c2 c3 cl
        go_wp2_with fail
        refine HM.out.mono ?_
        rintro e w3 ⟨rfl, mo⟩
        have HD := Lib.hid (HTR.out.doc mo)
        clear mo
        go_wp2_with fail
        go_meet
        case rel => exact ⟨(unlinkT st sa).2.1, (unlinkT st sa).1, _, rfl, rfl, rfl, rfl, Lib.hid (unlinkT_code _ _), Lib.hid (by rw [← HEQ.out]; exact HD.out)⟩
    have hb3 : (kd == 3) = false := by rw [beq_eq_false_iff_ne]; exact hk3
    by_cases hk4 : kd = 4
    case pos =>
      as_aux_lemma =>
        subst hk4
        have HEQ : Hid ((rmdirT st sa).2.2 = so) := Lib.hid (by rw [← HSO.out]; rfl)
        have HT := Lib.hid (ts_rmdir H1.out.ts sa rfl rfl rfl rfl)
        clear HSO
        go_wp2_with fail
        refine HT.out.mono ?_
        rintro e w2 ⟨rfl, hts, hkp⟩
        have HTR := Lib.hid (H1.out.tree hts hkp)
        have rC2 : Row w2 C0 56 [.int .i64 4, .int .i64 n, .string sa, .string sb] := HRC.out.keep (HTR.out.xs C0 (.inl rfl))
        have d1 := rC2.cell' (i := 1) rfl
        have d2 := rC2.cell' (i := 2) rfl
        have d3 := rC2.cell' (i := 3) rfl
        have dl := rC2.lt
        have HM := Lib.hid (mrmdir_any HTR.out.mw HF.out sa)
        clear hts hkp rC2 c0 c1 c2 c3 cl
        go_wp2_with fail
        refine HM.out.mono ?_
        rintro e w3 ⟨rfl, mo⟩
        have HD := Lib.hid (HTR.out.doc mo)
        clear mo
        go_wp2_with fail
        go_meet
        case rel => exact ⟨(rmdirT st sa).2.1, (rmdirT st sa).1, _, rfl, rfl, rfl, rfl, Lib.hid (rmdirT_code _ _), Lib.hid (by rw [← HEQ.out]; exact HD.out)⟩
    have hb4 : (kd == 4) = false := by rw [beq_eq_false_iff_ne]; exact hk4
    by_cases hk5 : kd = 5
    case pos =>
      as_aux_lemma =>
        subst hk5
        have HEQ : Hid ((renameT st sa sb).2.2 = so) := Lib.hid (by rw [← HSO.out]; rfl)
        have HT := Lib.hid (ts_rename H1.out.ts sa sb rfl rfl rfl rfl)
        clear HSO
        go_wp2_with fail
        refine HT.out.mono ?_
        rintro e w2 ⟨rfl, hts, hkp⟩
        have HTR := Lib.hid (H1.out.tree hts hkp)
        have rC2 : Row w2 C0 56 [.int .i64 5, .int .i64 n, .string sa, .string sb] := HRC.out.keep (HTR.out.xs C0 (.inl rfl))
        have d1 := rC2.cell' (i := 1) rfl
        have d2 := rC2.cell' (i := 2) rfl
        have d3 := rC2.cell' (i := 3) rfl
        have dl := rC2.lt
        have HM := Lib.hid (mrename_any HTR.out.mw HF.out sa sb)
        clear hts hkp rC2 c0 c1 c2 c3 cl
        go_wp2_with fail
        refine HM.out.mono ?_
        rintro e w3 ⟨rfl, mo⟩
        have HD := Lib.hid (HTR.out.doc mo)
        clear mo
        go_wp2_with fail
        go_meet
        case rel => exact ⟨(renameT st sa sb).2.1, (renameT st sa sb).1, _, rfl, rfl, rfl, rfl, Lib.hid (renameT_code _ _ _), Lib.hid (by rw [← HEQ.out]; exact HD.out)⟩
    have hb5 : (kd == 5) = false := by rw [beq_eq_false_iff_ne]; exact hk5
    as_aux_lemma =>
      have HEQ : Hid ((freeT st n).2 = so) := Lib.hid (by
        rw [← HSO.out]
        unfold stepT
        simp only
        rw [if_neg hk1, if_neg hk2, if_neg hk3, if_neg hk4, if_neg hk5])
      clear hk1 hk2 hk3 hk4 hk5
      cases hr : st.get n with
      | none =>
        have HFR : Hid (freeT st n = (false, st)) := Lib.hid (by unfold freeT; rw [hr])
        have HG := Lib.hid (mget_no H1.out.mw HF.out.tidy.toTid hr)
        have HT := Lib.hid (ts_free H1.out.ts (k := n) rfl rfl hn)
        clear hr HSO
        go_wp2_with fail
        refine HG.out.mono ?_
        rintro e w2 ⟨rfl, rfl⟩
        go_wp2_with fail
        refine HT.out.mono ?_
        rw [HFR.out]
        rintro e w2 ⟨rfl, hts, hkp⟩
        have HTR := Lib.hid (H1.out.tree hts hkp)
        clear hts hkp
        go_wp2_with fail
        go_meet
        case rel => exact ⟨0, 0, _, rfl, rfl, rfl, rfl, Lib.hid (.inl rfl), Lib.hid (by rw [← HEQ.out, HFR.out]; exact HTR.out)⟩
      | some r =>
        obtain ⟨g, o, hnp, hget⟩ := mget_st H1.out.mw HF.out.tidy.toTid hr
        have nl := hnp.links
        have ngl := hnp.lt
        have hval := valid_lk (HF.out.val r (findN_mem hr))
        have HG := Lib.hid hget
        have HT := Lib.hid (ts_free H1.out.ts (k := n) rfl rfl hn)
        have HRR := Lib.hid hr
        obtain ⟨lk, hlk⟩ : ∃ lk, r.nd.links = lk := ⟨_, rfl⟩
        rw [hlk] at nl hval
        by_cases hl0 : lk = 0
        · have HFR : Hid (freeT st n = (true, st.drop n)) := Lib.hid (by unfold freeT; rw [hr]; simp only; rw [if_neg (by omega)])
          have hlb : (lk == 0) = true := by rw [beq_iff_eq]; exact hl0
          clear hr HSO hnp hget hlk hl0
          go_wp2_with fail
          refine HG.out.mono ?_
          rintro e w2 ⟨rfl, rfl⟩
          go_wp2_with fail
          refine HT.out.mono ?_
          rw [HFR.out]
          rintro e w2 ⟨rfl, hts, hkp⟩
          have HTR := Lib.hid (H1.out.tree hts hkp)
          have rC2 := HRC.out.keep (HTR.out.xs C0 (.inl rfl))
          have d1 := rC2.cell' (i := 1) rfl
          have dl := rC2.lt
          have HM := Lib.hid (mdrop_st HTR.out.mw HF.out.tidy.toTid HRR.out)
          clear hts hkp rC2 c0 c1 c2 c3 cl nl ngl
          go_wp2_with fail
          refine HM.out.mono ?_
          rintro e w3 ⟨rfl, mo⟩
          have HD := Lib.hid (HTR.out.doc mo)
          clear mo
          go_wp2_with fail
          go_meet
          case rel => exact ⟨0, 0, _, rfl, rfl, rfl, rfl, Lib.hid (.inl rfl), Lib.hid (by rw [← HEQ.out, HFR.out]; exact HD.out)⟩
        · have HFR : Hid (freeT st n = (false, st)) := Lib.hid (by unfold freeT; rw [hr]; simp only; rw [if_pos (by omega)])
          have hlb : (lk == 0) = false := by rw [beq_eq_false_iff_ne]; exact hl0
          clear hr HSO hnp hget hlk hl0
          go_wp2_with fail
          refine HG.out.mono ?_
          rintro e w2 ⟨rfl, rfl⟩
          go_wp2_with fail
          refine HT.out.mono ?_
          rw [HFR.out]
          rintro e w2 ⟨rfl, hts, hkp⟩
          have HTR := Lib.hid (H1.out.tree hts hkp)
          clear hts hkp
          go_wp2_with fail
          go_meet
          case rel => exact ⟨0, 0, _, rfl, rfl, rfl, rfl, Lib.hid (.inl rfl), Lib.hid (by rw [← HEQ.out, HFR.out]; exact HTR.out)⟩
  case rest =>
  as_aux_lemma =>
    obtain ⟨i, c, T', rfl, rfl, rfl, rfl, HC, HZ⟩ := hcut
    clear c0 c1 c2 c3 cl
    have HIS := Lib.hid (is_of c c HC.out wc HZ.out.ts.env.toEnv)
    have HFIN : Hid (∀ w9, Below wc.heap.size wc w9 → TM E B X wx a b t dm m T' w0 so w9) := Lib.hid (fun w9 hb => (HZ.out.below hb).back (fun x hx => .inr hx) HX.out)
    rcases HC.out with rfl | hc
    · go_wp2_with fail
      refine HIS.out.mono ?_
      rintro e w9 ⟨rfl, hb9⟩
      have HB9 := Lib.hid hb9
      clear hb9
      have h00 : ((0 : Int) == 0) = true := rfl
      rw [show errOf E 0 = .nilIface from rfl]
      go_wp2
      first | go_ret | skip
      rw [← HP.out]
      exact ⟨by first | rfl | simp, T', HFIN.out _ HB9.out⟩
    · obtain ⟨p, hp⟩ := errOf_some (E := E) hc
      rw [hp]
      rw [hp] at HIS
      have hcc : (c == c) = true := by simp
      go_wp2_with fail
      refine HIS.out.mono ?_
      rw [hcc]
      rintro e w9 ⟨rfl, hb9⟩
      have HB9 := Lib.hid hb9
      clear hb9 hp hc
      go_wp2
      first | go_ret | skip
      rw [← HP.out]
      exact ⟨by first | rfl | simp, T', HFIN.out _ HB9.out⟩
end
end Go.Proofs.YtnkcbogikaebfaaGreatDoor
end

section
/- The script's Same: a tree and the document's that hold the same are told as the same. -/
namespace Go.Proofs.YtnkcbogikaebfaaGreatDoor
open Go Go.RowKit
set_option maxRecDepth 100000
set_option linter.unusedSimpArgs false
set_option linter.unusedVariables false
attribute [local go_sem] giv
variable {E : Nat → Addr} {B : Nat}
theorem have_of_rise {l : List En} (h : RiseE l) : HaveD l (entOf l) :=
  ⟨h, fun k x => ⟨fun hx => ⟨entOf_mem hx, entOf_name hx⟩, fun ⟨h1, h2⟩ => h2 ▸ entOf_of_mem h h1⟩⟩
section
variable {L : Nat → Prop} {w : World} {b t dm : Nat} {st : St}
theorem wl_dall {k : Int} {x : Nat} (h : WD B L w b t dm st k x) (hr : RiseE (st.ents k)) (hn : (st.ents k).length ≤ 1000000) (hs : ∀ e ∈ st.ents k, e.name.size ≤ maxLen) :
    Calls Tryz.prog 13 #[.pointer (some ⟨x, 0, none⟩)] w fun e w' => (∃ v, e = .returned v ∧ SlEn w' w.heap.size v (st.ents k)) ∧ Below w.heap.size w w' := by
  obtain ⟨h1, h2, nm, dirs, pn, lab, h3, h4, h5⟩ := h
  obtain ⟨m, hm⟩ := h5.2
  refine (dall_any (h3.own k _ hm) hn (fun n hn => ?_)).mono ?_
  · obtain ⟨e, he⟩ := Option.isSome_iff_exists.1 hn
    have h6 := entOf_name he
    rw [← h6]
    exact hs e (entOf_mem he)
  · rintro e w' ⟨⟨v, ks, rfl, h6, h7, _⟩, hb⟩
    refine ⟨⟨v, rfl, ?_⟩, hb⟩
    rw [(have_of_rise hr).ents h7] at h6
    exact h6
end

section
variable {L : Nat → Prop} {w w' : World} {b t dm : Nat} {st : St}
set_option maxHeartbeats 1000000 in
/-- A directory's object that is there. -/
theorem wDir_has {k : Int} {x : Nat} (h : WD B L w b t dm st k x) (hk : 1 ≤ k ∧ k ≤ 9223372036854775807) :
    Calls Tryz.prog 12 #[.pointer (some ⟨b, 0, none⟩), .int .i64 k] w fun e w' => e = .returned (.tuple #[.pointer (some ⟨x, 0, none⟩), .bool true]) ∧ Below w.heap.size w w' := by
  have H := Lib.hid h
  have HD := Lib.hid h.isDir
  clear h
  go_enter Tryz.func12, Tryz.ntmps12
  go_wp2_with fail
  refine (wdir_any H.out.wb (by omega)).mono ?_
  rintro e w1 ⟨rfl, hb⟩
  rw [HD.out]
  generalize (st.nd k).getD noNd = n at *
  obtain ⟨n1, n2, n3, n4, n5, n6⟩ := n
  simp only [encN]
  have h1 := H.out.below hb
  have hc1 := h1.c1
  have hlt1 := h1.lt.1
  have hl2 := h1.lt.2.2
  have H1 := Lib.hid h1
  have K := Lib.hid hb
  clear h1 hb H HD
  have hb2 : Below w1.heap.size w1 (w1.alloc (.cells #[.int .i64 n1, .int .i64 n2, .int .i64 n3, .int .i64 n4, .string n5, .int .i64 n6] 39)) := bl_alloc (Below.refl _ _) _
  have H2 := Lib.hid (H1.out.below hb2)
  have K2 := Lib.hid (bl_trans K.out hb2)
  clear hb2
  go_wp2_with (at_lookup; refine wpList_look rfl _ _ _ _ rfl (wl_look H2.out (by omega) (fun d hd => hd.2)) ?_)
  go_ret2
  exact ⟨rfl, K2.out⟩
theorem wDir_keep {k : Int} (h : WB B L w b t dm st) (hk : 1 ≤ k ∧ k ≤ 9223372036854775807) (hd : st.isDir k = true) :
    Calls Tryz.prog 12 #[.pointer (some ⟨b, 0, none⟩), .int .i64 k] w fun e w' => ∃ x, e = .returned (.tuple #[.pointer (some ⟨x, 0, none⟩), .bool true]) ∧ WD B L w' b t dm st k x ∧ KeptP B L w w' ∧ ∀ y, WD B L w b t dm st k y → WD B L w' b t dm st k y := by
  by_cases hx : ∃ x, WD B L w b t dm st k x
  · obtain ⟨x, hx⟩ := hx
    refine (wDir_has hx hk).mono ?_
    rintro e w' ⟨rfl, hb⟩
    exact ⟨x, rfl, hx.below hb, h.kept hb, fun y hy => hy.below hb⟩
  · refine (wDir_yes h hk hd).mono ?_
    rintro e w' ⟨x, h1, h2, h3⟩
    exact ⟨x, h1, h2, h3, fun y hy => (hx ⟨y, hy⟩).elim⟩
/-- A step that keeps the tree, and its directory k's object. -/
def ShD (B : Nat) (L : Nat → Prop) (b t dm : Nat) (st : St) (k : Int) (w w' : World) : Prop := (WB B L w b t dm st → WB B L w' b t dm st ∧ KeptP B L w w') ∧ ∀ y, WD B L w b t dm st k y → WD B L w' b t dm st k y
theorem ShD.refl (w : World) {k : Int} : ShD B L b t dm st k w w := ⟨fun h => ⟨h, KeptP.refl _ _ _⟩, fun _ h => h⟩
def DirT (B : Nat) (L : Nat → Prop) (b t dm : Nat) (st : St) (k : Int) (v : Value) (w : World) : Prop := ∃ x, v = .tuple #[.pointer (some ⟨x, 0, none⟩), .bool true] ∧ WD B L w b t dm st k x
def DirP (B : Nat) (L : Nat → Prop) (b t dm : Nat) (st : St) (k : Int) (v : Value) (w : World) : Prop := ∃ x, v = .pointer (some ⟨x, 0, none⟩) ∧ WD B L w b t dm st k x
theorem dirT_keep {k : Int} (v : Value) (w w' : World) (h : DirT B L b t dm st k v w) (hs : ShD B L b t dm st k w w') : DirT B L b t dm st k v w' := by
  obtain ⟨x, h1, h2⟩ := h
  exact ⟨x, h1, hs.2 x h2⟩
theorem dirP_keep {k : Int} (v : Value) (w w' : World) (h : DirP B L b t dm st k v w) (hs : ShD B L b t dm st k w w') : DirP B L b t dm st k v w' := by
  obtain ⟨x, h1, h2⟩ := h
  exact ⟨x, h1, hs.2 x h2⟩
end
section
variable {X : Nat → Prop} {wx : World} {a b t dm m : Nat} {T : Nat → Prop} {w0 w w' : World} {st : St}

theorem SlE.shape' {α : Type} {w : World} {base : Nat} {e : TypeId} {k : Nat} {enc : α → List Value} {v : Value} {xs : List α} (h : SlE w base e k enc v xs) : ∃ sp cap, v = .slice sp xs.length cap := by
  rcases h.cases with ⟨rfl, rfl⟩ | ⟨g, cap, rfl, _⟩
  · exact ⟨_, _, rfl⟩
  · exact ⟨_, _, rfl⟩

set_option maxHeartbeats 8000000 in
theorem same_any (h : TM E B X wx a b t dm m T w0 st w) :
    Calls Tryz.prog 20 #[.pointer (some ⟨a, 0, none⟩), .pointer (some ⟨m, 0, none⟩)] w fun e w' => e = .returned (.bool true) ∧ TM E B X wx a b t dm m T w0 st w' := by
  have HH := Lib.hid h
  have HF := Lib.hid h.ts.full
  have hcl := cnt_le h.ts.full
  have HCL := Lib.hid hcl
  have HLEN := Lib.hid h.ts.full.len
  obtain ⟨v, ms, hD⟩ := h.mw
  have hml : ms.length = st.ns.length := by rw [← hD.eq, List.length_map]
  have HML := Lib.hid hml
  have hcnt : sumE ms = cntL st.ns := by
    unfold sumE cntL
    rw [← hD.eq, List.map_map]
    rfl
  have HCNT := Lib.hid hcnt
  obtain ⟨vsp, vcap, hv⟩ := hD.shape
  have HD := Lib.hid hD
  generalize hP : (fun (e : Ending) (w' : World) => e = .returned (.bool true) ∧ TM E B X wx a b t dm m T w0 st w') = Post
  have HP := Lib.hid hP
  obtain ⟨nn, hnn⟩ : ∃ nn, st.ns.length = nn := ⟨_, rfl⟩
  have HNN := Lib.hid hnn
  obtain ⟨a0, al⟩ := h.ts.ta
  have b0 := h.ts.wb.c0
  have bl0 := h.ts.wb.lt.1
  have c2 := hD.c2
  have ml := (hD.lt m hD.tm).2
  rw [hv, hml, hnn] at c2
  have hnb : ((nn : Int) != (nn : Int)) = false := by simp
  have hcb : (((cntL st.ns : Nat) : Int) != ((cntL st.ns : Nat) : Int)) = false := by simp
  clear hP h hD hml hcnt hcl hv
  go_enter Tryz.func20, Tryz.ntmps20
  go_upto_region 2 with (refine (wl_all HH.out.ts.wb HF.out).mono ?_; rintro e w1 ⟨⟨sp, cap, rfl, hs⟩, hb⟩; rw [hnn] at hs ⊢; have HS := Lib.hid hs; have HB1 := Lib.hid hb; clear hs hb)

  obtain ⟨X1, hX1⟩ : ∃ X1 : Nat → Prop, X1 = fun x => X x ∨ (w.heap.size ≤ x ∧ x < w1.heap.size) := ⟨_, rfl⟩
  have hT1 : TM E B X1 w1 a b t dm m T w0 st w1 := HH.out.own HB1.out (fun x hx => by rw [hX1] at hx; exact hx)
  have HT1 := Lib.hid hT1
  have HX1 := Lib.hid hX1
  have HD1 := Lib.hid (HD.out.below HB1.out)
  clear hT1 hX1 a0 al b0 bl0
  have c21 : w1.cell? ⟨m, 2, none⟩ = some (.slice vsp nn vcap) := (HB1.out.cell (p := ⟨m, 2, none⟩) ml).trans c2
  have ml1 : m < w1.heap.size := Nat.lt_of_lt_of_le ml HB1.out.size
  clear c2 ml
  go_wp2_with fail
  refine (ts_entries HT1.out.ts (count_cntL st)).mono ?_
  rintro e w2 ⟨rfl, hts, hkp⟩
  have HT2 := Lib.hid (HT1.out.tree hts hkp)
  have HD2 := Lib.hid (HD1.out.touch hkp.touch (fun x hx hn => hn (.inr (.inl hx))))
  have HK2 := Lib.hid hkp
  clear hts hkp c21 ml1
  go_wp2_with fail
  refine (dentries_any HD2.out (by rw [HML.out]; have := HLEN.out; omega) (fun x hx => Nat.le_trans (HF.out.tidy.few x.nr (by rw [← HD2.out.eq]; exact List.mem_map_of_mem hx)) (by decide))).mono ?_
  rintro e w2' ⟨rfl, rfl⟩
  rw [HCNT.out]
  go_wp2_with fail
  refine (msorted_any HD2.out HF.out.tidy.toTid).mono ?_
  rintro e w3 ⟨⟨u, rfl, hu⟩, hb3⟩
  obtain ⟨usp, ucap, hus⟩ := hu.shape'
  rw [HML.out, HNN.out] at hus
  subst hus
  obtain ⟨X2, hX2⟩ : ∃ X2 : Nat → Prop, X2 = fun x => X1 x ∨ (w2.heap.size ≤ x ∧ x < w3.heap.size) := ⟨_, rfl⟩
  have hT3 : TM E B X2 w3 a b t dm m T w0 st w3 := HT2.out.own hb3 (fun x hx => by rw [hX2] at hx; exact hx)
  have HT3 := Lib.hid hT3
  obtain ⟨L3, hL3⟩ : ∃ L3 : Nat → Prop, L3 = fun x => x = a ∨ T x ∨ X2 x := ⟨_, rfl⟩
  have HL3 := Lib.hid hL3
  have HD3 := Lib.hid (HD2.out.below hb3)
  have HSU := Lib.hid hu
  have HLU : Hid (∀ x, (Value.slice usp nn ucap).ownBlock = some x → L3 x) := Lib.hid (fun x hx => by
    rw [hL3, hX2]; exact .inr (.inr (.inr ⟨(hu.lt x hx).1, (hu.lt x hx).2⟩)))
  have HLT : Hid (∀ x, T x → L3 x) := Lib.hid (fun x hx => by rw [hL3]; exact .inr (.inl hx))
  have HLA : Hid (L3 a) := Lib.hid (by rw [hL3]; exact .inl rfl)
  have HTS3 : Hid (TS E B L3 a b t dm w0 st w3) := Lib.hid (by rw [hL3]; exact hT3.ts)
  have HB3 := Lib.hid hb3
  have HIDS : Hid (∀ j r, st.ns[j]? = some r → ∃ hh cp, sp = some ⟨hh, 0, none⟩ ∧ cap = cp ∧ w3.cell? ⟨hh, j, none⟩ = some (.int .i64 r.nd.id) ∧ L3 hh) := Lib.hid (fun j r hr => by
    rcases HS.out with ⟨h1, h2⟩ | ⟨hh, cp, h1, h2, h3, _, h5⟩
    · have : st.ns = [] := by simpa using h2
      rw [this] at hr; cases hr
    · injection h1 with e1 e2 e3
      have hjl := (List.getElem?_eq_some_iff.1 hr).1
      have h6 := h5 j (by simpa using hjl)
      rw [List.getElem?_map, hr] at h6
      have hx1 : X1 hh := by rw [HX1.out]; exact .inr ⟨h2, h3⟩
      refine ⟨hh, cp, e1, e3, ?_, ?_⟩
      · rw [hb3.cell (p := ⟨hh, j, none⟩) (HT2.out.ts.wb.2.1 hh (.inr (.inr hx1))), HK2.out.cell (.inr (.inr hx1)) j, h6]
        rfl
      · rw [hL3, hX2]; exact .inr (.inr (.inl hx1)))
  have HX2 := Lib.hid hX2
  clear hu hb3 hX2 hT3 hL3
  go_wp2_with fail
  have HBK : Hid (∀ w9, TS E B L3 a b t dm w0 st w9 ∧ KeptP B L3 w3 w9 → TM E B X wx a b t dm m T w0 st w9) := Lib.hid (fun w9 h => by
    obtain ⟨h1, h2⟩ := h
    rw [HL3.out] at h1 h2
    refine (HT3.out.tree h1 h2).back (fun x hx => by rw [HX2.out, HX1.out]; exact .inl (.inl hx)) (fun x hx => ?_)
    have hx1 : X1 x := by rw [HX1.out]; exact .inl hx
    exact (((HB3.out.block x (HT2.out.ts.wb.2.1 x (.inr (.inr hx1)))).trans (HK2.out.loc x (.inr (.inr hx1)))).trans (HB1.out.block x (HH.out.ts.wb.2.1 x (.inr (.inr hx))))).trans (HH.out.xs x hx))
  go_loopw [7] (fun v wr => ∃ j : Nat, j ≤ nn ∧ v = .int .i64 j ∧ Hid (TS E B L3 a b t dm w0 st wr ∧ KeptP B L3 w3 wr)) (fun v _ => nn - (intOf v).toNat)
  case atStart => exact ⟨0, Nat.zero_le _, rfl, Lib.hid ⟨HTS3.out, KeptP.refl _ _ _⟩⟩
  case round =>
    obtain ⟨j, hj, rfl, HI⟩ := hrel
    have hlen := HLEN.out
    rw [HNN.out] at hlen
    by_cases hlt : j < nn
    · obtain ⟨r, hr⟩ : ∃ r, st.ns[j]? = some r := ⟨_, List.getElem?_eq_getElem (by rw [HNN.out]; exact hlt)⟩
      obtain ⟨x, hx⟩ : ∃ x, ms[j]? = some x := ⟨_, List.getElem?_eq_getElem (by rw [HML.out, HNN.out]; exact hlt)⟩
      have hxr : x.nr = r := by
        have := hr
        rw [← HD3.out.eq, List.getElem?_map, hx] at this
        injection this
      have hmem : r ∈ st.ns := List.mem_of_getElem? hr
      have hget := HF.out.get_mem hmem
      have hid : 1 ≤ r.nd.id ∧ r.nd.id ≤ 16777215 := valid_ids (HF.out.val r hmem)
      obtain ⟨hh, cp, hsp, hcp, cI, hLh⟩ := HIDS.out j r hr
      have hui := HSU.out
      obtain ⟨gu, cu, hus⟩ : ∃ gu cu, (Value.slice usp nn ucap) = .slice (some ⟨gu, 0, none⟩) ms.length cu := by
        rcases hui.cases with ⟨_, h2⟩ | ⟨g, c, h1, _⟩
        · rw [h2] at hx; cases hx
        · exact ⟨g, c, h1⟩
      injection hus with eu1 eu2 eu3
      subst hsp eu1
      have hLu : L3 gu := HLU.out gu rfl
      have hk : ∀ i, i < 199 → wr.cell? ⟨gu, j * 199 + i, none⟩ = (encM x)[i]? := fun i hi => by
        rw [HI.out.2.cell hLu, hui.cellM (g := gu) rfl hx hi]
      have hrd : RdEn wr x.ev x.nr.ents := (HD3.out.ents x (List.mem_of_getElem? hx)).1.kept HI.out.2 (fun y hy => HLT.out y ((HD3.out.ents x (List.mem_of_getElem? hx)).2 y hy).1)
      have hevo : ∀ y, x.ev.ownBlock = some y → L3 y := fun y hy => HLT.out y ((HD3.out.ents x (List.mem_of_getElem? hx)).2 y hy).1
      have hcI : wr.cell? ⟨hh, j, none⟩ = some (.int .i64 r.nd.id) := by rw [HI.out.2.cell hLh, cI]
      have hrise := HF.out.erise r hmem
      have hfew := HF.out.tidy.few r hmem
      have hents : st.ents r.nd.id = r.ents := by unfold St.ents; rw [hget]; rfl
      have hnd : st.nd r.nd.id = some r.nd := by unfold St.nd; rw [hget]; rfl
      have hsz : ∀ e ∈ r.ents, e.name.size ≤ maxLen := fun e he => Nat.le_trans (nmCode_size (HF.out.ent r hmem e he).code) (by decide)
      have hdk : st.isDir r.nd.id = decide (r.nd.kind = 2) := by unfold St.isDir; rw [hget]; exact (decide_eq_decide.2 Iff.rfl)
      have m0 := hk 0 (by omega)
      have m1 := hk 1 (by omega)
      have m2 := hk 2 (by omega)
      have m3 := hk 3 (by omega)
      have m4 := hk 4 (by omega)
      have m5 := hk 5 (by omega)
      have m6 := hk 6 (by omega)
      rw [(encM_get x).1, hxr, Nat.add_zero] at m0
      rw [(encM_get x).2.1, hxr] at m1
      rw [(encM_get x).2.2.1, hxr] at m2
      rw [(encM_get x).2.2.2.1, hxr] at m3
      rw [(encM_get x).2.2.2.2.1, hxr] at m4
      rw [(encM_get x).2.2.2.2.2.1, hxr] at m5
      rw [(encM_get x).2.2.2.2.2.2] at m6
      obtain ⟨vp, vn, vc, hev⟩ : ∃ vp vn vc, x.ev = .slice vp vn vc := ⟨_, _, _, rfl⟩
      rw [hxr, hev] at hrd
      rw [hev] at hevo
      rw [hev] at m6
      have HRD := Lib.hid hrd
      have HEV := Lib.hid hevo
      have HRISE := Lib.hid hrise
      have HFEW := Lib.hid hfew
      have HENTS := Lib.hid hents
      have HND := Lib.hid hnd
      have HSZ := Lib.hid hsz
      have HDK := Lib.hid hdk
      have hgu : gu < wr.heap.size := HI.out.1.wb.2.1 gu hLu
      have hhh : hh < wr.heap.size := HI.out.1.wb.2.1 hh hLh
      have HLH := Lib.hid hLh
      have HLU' := Lib.hid hLu
      have hj0 : (0 : Int) ≤ (j : Int) := by omega
      have hj1 : (j : Int) < (nn : Int) := by omega
      clear hr hx hxr hmem hget cI hui hk hrd hevo hrise hfew hents hnd hsz hdk hev hLh hLu eu2 eu3
      obtain ⟨⟨q1, q2, q3, q4, q5, q6⟩, es⟩ := r
      simp only at hid hcI m0 m1 m2 m3 m4 m5 HRD HRISE HFEW HENTS HND HSZ HDK
      obtain ⟨a0, al⟩ := HI.out.1.ta
      have b0 := HI.out.1.wb.c0
      have bl0 := HI.out.1.wb.lt.1
      have HM := Lib.hid (And.intro m0 (And.intro m1 (And.intro m2 (And.intro m3 (And.intro m4 (And.intro m5 m6))))))
      have HCI := Lib.hid hcI
      have HA := Lib.hid (And.intro a0 al)
      go_wp2_with fail
      have S : ∀ w', ShH wr.heap.size (ndC ⟨q1, q2, q3, q4, q5, q6⟩) 39 wr w' → w'.cell? ⟨a, 0, none⟩ = some (.pointer (some ⟨b, 0, none⟩)) ∧ w'.cell? ⟨b, 0, none⟩ = some (.pointer (some ⟨t, 0, none⟩)) ∧ w'.cell? ⟨gu, j * 199, none⟩ = some (.int .i64 q1) := fun w' hs =>
        ⟨(hs.bel.cell (p := ⟨a, 0, none⟩) al).trans a0, (hs.bel.cell (p := ⟨b, 0, none⟩) bl0).trans b0, (hs.bel.cell (p := ⟨gu, j * 199, none⟩) hgu).trans m0⟩
      have HG : Hid (∀ w', ShH wr.heap.size (ndC ⟨q1, q2, q3, q4, q5, q6⟩) 39 wr w' → Calls Tryz.prog 11 #[.pointer (some ⟨t, 0, none⟩), .int .i64 q1] w' fun e w'' => e = .returned (.tuple #[.agg #[.int .i64 q1, .int .i64 q2, .int .i64 q3, .int .i64 q4, .string q5, .int .i64 q6], .bool true]) ∧ Below w'.heap.size w' w'') := Lib.hid fun w' hs => by
        have := wl_get (HI.out.1.wb.below hs.bel) (k := q1) (by omega)
        rw [HND.out] at this
        exact this
      clear a0 al b0 bl0 m0 m1 m2 m3 m4 m5 m6 hcI
      apply wp_region_rel _ (by kernel_rfl) (by kernel_rfl) (fun w' => ShH wr.heap.size (ndC ⟨q1, q2, q3, q4, q5, q6⟩) 39 wr w') (fun w' w'' => ShH wr.heap.size (ndC ⟨q1, q2, q3, q4, q5, q6⟩) 39 w' w'') (fun w' w'' h1 h2 => h1.trans h2) (ShH.refl _ _ _ _).drew
      repeat (first
        | (apply wpRel_fix (by rfl)
           · intro w' hC hf R hR
             have hS := S w' hC
             go_simp
             exact hR _ (ShH.refl _ _ _ _)
           simp only [Act.put, List.setIfInBounds_toArray, List.set_cons_zero, List.set_cons_succ])
        | (apply wpRel_fix (by rfl)
           · intro w' hC hf R hR
             have hS := S w' hC
             go_simp
             refine (HG.out w' hC).mono ?_
             rintro e w'' ⟨rfl, hb⟩
             exact ⟨_, rfl, hR _ (ShH.of_below hb (Nat.le_trans hC.bel.size (Nat.le_refl _)))⟩
           simp only [Act.put, List.setIfInBounds_toArray, List.set_cons_zero, List.set_cons_succ]))
      apply wpRel_rel (PtTy wr.heap.size ((ndC ⟨q1, q2, q3, q4, q5, q6⟩) : List Value).length 39) (by rfl) ptTy_keep
      · intro w' hC hf R hR
        go_simp
        exact hR _ _ ⟨_, rfl, hC.bel.size, TyB.new _ _ _ rfl⟩ (ShH.of_below (bl_alloc (Below.refl _ _) _) hC.bel.size)
      intro vptr
      simp only [Act.put, List.setIfInBounds_toArray, List.set_cons_zero, List.set_cons_succ]
      apply wpRel_dep 8 (PtRow wr.heap.size (ndC ⟨q1, q2, q3, q4, q5, q6⟩) 39) (by rfl) (by rfl) ptRow_keep
      · intro w' hC hf R hR
        obtain ⟨c, rfl, hc, hk⟩ := hf _ (List.mem_cons_self ..) (by kernel_rfl)
        obtain ⟨u0, e0⟩ := hk.cell (i := 0) (Nat.lt_of_lt_of_eq (by decide : 0 < 6) rfl)
        have f0 := hk.froz 0
        obtain ⟨u1, e1⟩ := hk.cell (i := 1) (Nat.lt_of_lt_of_eq (by decide : 1 < 6) rfl)
        have f1 := hk.froz 1
        obtain ⟨u2, e2⟩ := hk.cell (i := 2) (Nat.lt_of_lt_of_eq (by decide : 2 < 6) rfl)
        have f2 := hk.froz 2
        obtain ⟨u3, e3⟩ := hk.cell (i := 3) (Nat.lt_of_lt_of_eq (by decide : 3 < 6) rfl)
        have f3 := hk.froz 3
        obtain ⟨u4, e4⟩ := hk.cell (i := 4) (Nat.lt_of_lt_of_eq (by decide : 4 < 6) rfl)
        have f4 := hk.froz 4
        obtain ⟨u5, e5⟩ := hk.cell (i := 5) (Nat.lt_of_lt_of_eq (by decide : 5 < 6) rfl)
        have f5 := hk.froz 5
        have hN := Lib.hid hk
        clear hk
        go_simp
        exact hR _ _ (ptRow_mk hN.out hc) (ShH.setAll hN.out hc)
      intro vst
      simp only [Act.put, List.setIfInBounds_toArray, List.set_cons_zero, List.set_cons_succ]
      repeat (first
        | (apply wpRel_fix (by rfl)
           · intro w' hC hf R hR
             have hS := S w' hC
             go_simp
             exact hR _ (ShH.refl _ _ _ _)
           simp only [Act.put, List.setIfInBounds_toArray, List.set_cons_zero, List.set_cons_succ]))
      refine wpRel_nil (fun w4 hC hf => ?_)
      obtain ⟨c, rfl, hc0, rw4⟩ : PtRow wr.heap.size (ndC ⟨q1, q2, q3, q4, q5, q6⟩) 39 vptr w4 := hf _ (List.mem_cons_self ..)
      have HB4 := Lib.hid hC.bel
      have HR4 := Lib.hid rw4
      have HCB := Lib.hid hc0
      clear hf hC S HG rw4 hc0
      obtain ⟨m0, m1, m2, m3, m4, m5, m6⟩ := HM.out
      have n0 := (HB4.out.cell (p := ⟨gu, j * 199, none⟩) hgu).trans m0
      have n1 := (HB4.out.cell (p := ⟨gu, j * 199 + 1, none⟩) hgu).trans m1
      have n2 := (HB4.out.cell (p := ⟨gu, j * 199 + 2, none⟩) hgu).trans m2
      have n3 := (HB4.out.cell (p := ⟨gu, j * 199 + 3, none⟩) hgu).trans m3
      have n4 := (HB4.out.cell (p := ⟨gu, j * 199 + 4, none⟩) hgu).trans m4
      have n5 := (HB4.out.cell (p := ⟨gu, j * 199 + 5, none⟩) hgu).trans m5
      have nI := (HB4.out.cell (p := ⟨hh, j, none⟩) hhh).trans HCI.out
      have hgu4 : gu < w4.heap.size := Nat.lt_of_lt_of_le hgu HB4.out.size
      have hhh4 : hh < w4.heap.size := Nat.lt_of_lt_of_le hhh HB4.out.size
      have p0 : w4.cell? ⟨c, 0, none⟩ = some (.int .i64 q1) := (HR4.out.cell 0).trans rfl
      have p1 : w4.cell? ⟨c, 1, none⟩ = some (.int .i64 q2) := (HR4.out.cell 1).trans rfl
      have p2 : w4.cell? ⟨c, 2, none⟩ = some (.int .i64 q3) := (HR4.out.cell 2).trans rfl
      have p3 : w4.cell? ⟨c, 3, none⟩ = some (.int .i64 q4) := (HR4.out.cell 3).trans rfl
      have p4 : w4.cell? ⟨c, 4, none⟩ = some (.string q5) := (HR4.out.cell 4).trans rfl
      have p5 : w4.cell? ⟨c, 5, none⟩ = some (.int .i64 q6) := (HR4.out.cell 5).trans rfl
      have pl := HR4.out.lt
      clear m0 m1 m2 m3 m4 m5 m6
      go_upto_region 9 with fail
      have hq2 : (q1 != q1) = false := by simp
      go_wp2_with fail
      go_quiet (fail)
      go_upto_region 11 with fail
      refine wp_fromB w4 ?hb ?_
      case hb => exact ⟨rfl, rfl, rfl, Nat.le_refl _, fun _ _ => rfl⟩
      intro wz hz
      have HBZ := Lib.hid ((HB4.out.trans (hz.mono HB4.out.size)))
      have HRZ := Lib.hid (HR4.out.below hz)
      have HTZ := Lib.hid (HI.out.1.below HBZ.out)
      have HKZ := Lib.hid (HI.out.1.wb.kept HBZ.out)
      have p1 : wz.cell? ⟨c, 1, none⟩ = some (.int .i64 q2) := (HRZ.out.cell 1).trans rfl
      have pl := HRZ.out.lt
      clear hz n0 n1 n2 n3 n4 n5 nI p0 p2 p3 p4 p5 hgu4 hhh4 HB4 HR4
      by_cases hq : q2 = 2
      · subst hq
        have hkb : ((2 : Int) != 2) = false := rfl
        go_upto_region 12 with fail
        have HD := Lib.hid (show st.isDir q1 = true by rw [HDK.out]; rfl)
        have HW0 : Hid (WB B (fun x => x = c ∨ L3 x) wz b t dm st) := Lib.hid (HI.out.1.wb.loc' HBZ.out (fun x hx => by
          rcases hx with hx | hx
          · subst hx; exact .inr ⟨HCB.out, HRZ.out.lt⟩
          · exact .inl hx))
        have S : ∀ w', (WB B (fun x => x = c ∨ L3 x) w' b t dm st ∧ KeptP B (fun x => x = c ∨ L3 x) wz w') → w'.cell? ⟨a, 0, none⟩ = some (.pointer (some ⟨b, 0, none⟩)) ∧ w'.cell? ⟨c, 0, none⟩ = some (.int .i64 q1) := fun w' hC =>
          ⟨(hC.2.cell (.inr HLA.out) 0).trans HTZ.out.ta.1, (hC.2.cell (.inl rfl) 0).trans ((HRZ.out.cell 0).trans rfl)⟩
        apply wp_region_rel _ (by kernel_rfl) (by kernel_rfl) (fun w' => WB B (fun x => x = c ∨ L3 x) w' b t dm st ∧ KeptP B (fun x => x = c ∨ L3 x) wz w') (fun w' w'' => ShD B (fun x => x = c ∨ L3 x) b t dm st q1 w' w'') (fun w' w'' h1 h2 => ⟨(h2.1 h1.1).1, h1.2.trans (h2.1 h1.1).2⟩) ⟨HW0.out.below (Below.refl _ _).drew, HW0.out.kept (Below.refl _ _).drew⟩
        repeat (first
          | (apply wpRel_skip (by rfl)
             simp only [Act.put, List.setIfInBounds_toArray, List.set_cons_zero, List.set_cons_succ])
          | (apply wpRel_fix (by rfl)
             · intro w' hC hf R hR
               have hS := S w' hC
               go_simp
               exact hR _ (ShD.refl _)
             simp only [Act.put, List.setIfInBounds_toArray, List.set_cons_zero, List.set_cons_succ]))
        apply wpRel_rel (DirT B (fun x => x = c ∨ L3 x) b t dm st q1) (by rfl) dirT_keep
        · intro w' hC hf R hR
          go_simp
          refine (wDir_keep hC.1 (by omega) HD.out).mono ?_
          rintro e w'' ⟨x, rfl, h1, h2, h3⟩
          exact ⟨_, rfl, hR _ _ ⟨x, rfl, h1⟩ ⟨fun _ => ⟨h1.wb, h2⟩, h3⟩⟩
        intro v1
        simp only [Act.put, List.setIfInBounds_toArray, List.set_cons_zero, List.set_cons_succ]
        apply wpRel_rel (DirT B (fun x => x = c ∨ L3 x) b t dm st q1) (by rfl) dirT_keep
        · intro w' hC hf R hR
          have h1 := hf _ (List.mem_cons_self ..) (by kernel_rfl)
          go_simp
          exact hR _ _ h1 (ShD.refl _)
        intro v2
        simp only [Act.put, List.setIfInBounds_toArray, List.set_cons_zero, List.set_cons_succ]
        apply wpRel_rel (DirP B (fun x => x = c ∨ L3 x) b t dm st q1) (by rfl) dirP_keep
        · intro w' hC hf R hR
          obtain ⟨x, rfl, h1⟩ := hf _ (List.mem_cons_self ..) (by kernel_rfl)
          go_simp
          exact hR _ _ ⟨x, rfl, h1⟩ (ShD.refl _)
        intro v3
        simp only [Act.put, List.setIfInBounds_toArray, List.set_cons_zero, List.set_cons_succ]
        apply wpRel_fix (by rfl)
        · intro w' hC hf R hR
          obtain ⟨x, rfl, h1⟩ := hf _ (List.mem_cons_of_mem _ (List.mem_cons_self ..)) (by kernel_rfl)
          go_simp
          exact hR _ (ShD.refl _)
        simp only [Act.put, List.setIfInBounds_toArray, List.set_cons_zero, List.set_cons_succ]
        apply wpRel_rel (DirP B (fun x => x = c ∨ L3 x) b t dm st q1) (by rfl) dirP_keep
        · intro w' hC hf R hR
          have h1 := hf _ (List.mem_cons_self ..) (by kernel_rfl)
          go_simp
          exact hR _ _ h1 (ShD.refl _)
        intro v4
        simp only [Act.put, List.setIfInBounds_toArray, List.set_cons_zero, List.set_cons_succ]
        repeat (first
          | (apply wpRel_skip (by rfl)
             simp only [Act.put, List.setIfInBounds_toArray, List.set_cons_zero, List.set_cons_succ])
          | (apply wpRel_fix (by rfl)
             · intro w' hC hf R hR
               go_simp
               exact hR _ (ShD.refl _)
             simp only [Act.put, List.setIfInBounds_toArray, List.set_cons_zero, List.set_cons_succ]))
        refine wpRel_nil (fun w5 hC hf => ?_)
        obtain ⟨y, rfl, hwd⟩ := hf _ (List.mem_cons_self ..)
        have HWD := Lib.hid hwd
        have HK5 := Lib.hid hC.2
        clear hf hC S hwd
        go_upto_region 13 with fail
        have HT5 : Hid (TS E B L3 a b t dm w0 st w5) := Lib.hid (HTZ.out.kept HF.out (HWD.out.wb.less (fun x hx => .inr hx)) (HK5.out.mono (fun x hx => .inr hx)))
        have HKP5 : Hid (KeptP B L3 wr w5) := Lib.hid (HKZ.out.trans (HK5.out.mono (fun x hx => .inr hx)))
        have HRD5 := Lib.hid (HRD.out.kept HKZ.out (fun y hy => HEV.out y hy))
        have HRD6 := Lib.hid (HRD5.out.kept HK5.out (fun y hy => .inr (HEV.out y hy)))
        have m6 := HM.out.2.2.2.2.2.2
        have e6 : w5.cell? ⟨gu, j * 199 + 6, none⟩ = some (.slice vp vn vc) := (HKP5.out.cell HLU'.out (j * 199 + 6)).trans m6
        have hgu5 : gu < w5.heap.size := Nat.lt_of_lt_of_le hgu (HKP5.out.below.size)
        have S : ∀ w', Below w5.heap.size w5 w' → w'.cell? ⟨gu, j * 199 + 6, none⟩ = some (.slice vp vn vc) := fun w' hb => (hb.cell (p := ⟨gu, j * 199 + 6, none⟩) hgu5).trans e6
        have hel : es.length ≤ 1000000 := Nat.le_trans HFEW.out (by decide)
        clear e6 m6 pl p1
        apply wp_region_rel _ (by kernel_rfl) (by kernel_rfl) (fun w' => Below w5.heap.size w5 w') (fun w' w'' => Below w'.heap.size w' w'') (fun w' w'' h1 h2 => bl_trans h1 h2) (Below.refl _ _).drew
        repeat (first
          | (apply wpRel_skip (by rfl)
             simp only [Act.put, List.setIfInBounds_toArray, List.set_cons_zero, List.set_cons_succ])
          | (apply wpRel_fix (by rfl)
             · intro w' hC hf R hR
               have hS := S w' hC
               go_simp
               exact hR _ (Below.refl _ _)
             simp only [Act.put, List.setIfInBounds_toArray, List.set_cons_zero, List.set_cons_succ]))
        apply wpRel_rel (fun v w => SlEn w w5.heap.size v es) (by rfl) (fun v w w' h hb => h.below hb)
        · intro w' hC hf R hR
          go_simp
          refine (wl_dall (HWD.out.below hC) (by rw [HENTS.out]; exact HRISE.out) (by rw [HENTS.out]; exact hel) (by rw [HENTS.out]; exact HSZ.out)).mono ?_
          rw [HENTS.out]
          rintro e w'' ⟨⟨v, rfl, hv⟩, hb⟩
          exact ⟨_, rfl, hR _ _ (hv.mono hC.size) hb⟩
        intro v5
        simp only [Act.put, List.setIfInBounds_toArray, List.set_cons_zero, List.set_cons_succ]
        repeat (first
          | (apply wpRel_skip (by rfl)
             simp only [Act.put, List.setIfInBounds_toArray, List.set_cons_zero, List.set_cons_succ])
          | (apply wpRel_fix (by rfl)
             · intro w' hC hf R hR
               have hS := S w' hC
               go_simp
               exact hR _ (Below.refl _ _)
             simp only [Act.put, List.setIfInBounds_toArray, List.set_cons_zero, List.set_cons_succ]))
        apply wpRel_fix (by rfl)
        · intro w' hC hf R hR
          have h1 := hf _ (List.mem_cons_self ..) (by kernel_rfl)
          go_simp
          (with_reducible refine (sameentrys_any (SlE.rd h1 encEl_len) (HRD6.out.below hC) hel).mono ?_)
          rintro e w'' ⟨rfl, hb⟩
          exact ⟨.bool true, by simp, hR _ hb⟩
        simp only [Act.put, List.setIfInBounds_toArray, List.set_cons_zero, List.set_cons_succ]
        repeat (first
          | (apply wpRel_skip (by rfl)
             simp only [Act.put, List.setIfInBounds_toArray, List.set_cons_zero, List.set_cons_succ])
          | (apply wpRel_fix (by rfl)
             · intro w' hC hf R hR
               have hS := S w' hC
               go_simp
               exact hR _ (Below.refl _ _)
             simp only [Act.put, List.setIfInBounds_toArray, List.set_cons_zero, List.set_cons_succ]))
        refine wpRel_nil (fun w6 hC hf => ?_)
        have HT6 := Lib.hid (HT5.out.below hC)
        have HK6 := Lib.hid (HKP5.out.trans (HT5.out.wb.kept hC))
        clear hC hf S
        go_wp2
        go_roundw
        case rel => exact ⟨j + 1, by omega, by go_num, Lib.hid ⟨HT6.out, HI.out.2.trans HK6.out⟩⟩
        case measure => simp [intOf]; omega
      · have hkb : (q2 != 2) = true := by simp [hq]
        go_wp2
        go_roundw
        case rel => exact ⟨j + 1, by omega, by go_num, Lib.hid ⟨HTZ.out, HI.out.2.trans HKZ.out⟩⟩
        case measure => simp [intOf]; omega

    · obtain rfl : j = nn := by omega
      go_wp2
      first | go_ret | skip
      rw [← HP.out]
      exact ⟨by first | rfl | simp, HBK.out _ HI.out⟩

end
end Go.Proofs.YtnkcbogikaebfaaGreatDoor
end

section
/- The script's Light and Made: a tree and the document's behind acts. -/
namespace Go.Proofs.YtnkcbogikaebfaaGreatDoor
open Go Go.RowKit
set_option maxRecDepth 100000
set_option linter.unusedSimpArgs false
set_option linter.unusedVariables false
attribute [local go_sem] giv
variable {E : Nat → Addr} {B : Nat}
def playT (acs : List Ac) : St := acs.foldl stepT newSt
theorem playT_full (acs : List Ac) : Full (playT acs) := by
  unfold playT
  have key : ∀ (l : List Ac) (st : St), Full st → Full (l.foldl stepT st) := by
    intro l
    induction l with
    | nil => intro st h; exact h
    | cons c l ih => intro st h; exact ih _ (stepT_full h c)
  exact key acs _ newSt_full
theorem playT_take {acs : List Ac} {j : Nat} {c : Ac} (h : acs[j]? = some c) : playT (acs.take (j + 1)) = stepT (playT (acs.take j)) c := by
  unfold playT
  obtain ⟨hj, rfl⟩ := List.getElem?_eq_some_iff.1 h
  rw [List.take_succ_eq_append_getElem hj, List.foldl_append]
  rfl
theorem acCells {w : World} {sp : Option Addr} {n cap : Nat} {acs : List Ac} (r : RdE w 4 encAc (.slice sp n cap) acs) {j : Nat} {c : Ac} (h : acs[j]? = some c) :
    ∃ hh off, sp = some ⟨hh, off, none⟩ ∧ hh < w.heap.size ∧ ∀ i, i < 4 → w.cell? ⟨hh, off + j * 4 + i, none⟩ = (encAc c)[i]? := by
  obtain ⟨hj, rfl⟩ := List.getElem?_eq_some_iff.1 h
  obtain ⟨sp', cap', hv, _, _, hc⟩ := r
  injection hv with e1 e2 e3
  subst e1
  obtain ⟨hh, off, h1, h2, h3⟩ := hc (by intro h0; rw [h0] at hj; cases hj)
  refine ⟨hh, off, h1, h2, fun i hi => ?_⟩
  rw [h3 j i hj hi, List.getElem?_eq_getElem hj]
  rfl
set_option maxHeartbeats 2000000 in
theorem light_any {w : World} {v : Value} {acs : List Ac} (r : RdE w 4 encAc v acs) (hml : acs.length ≤ maxLen) (most : Int) :
    Calls Tryz.prog 8 #[v, .int .i64 most] w fun e w' => ∃ b, e = .returned (.bool b) ∧ Below w.heap.size w w' ∧ (b = true → (acs.length : Int) ≤ most) := by
  obtain ⟨sp, cap, rfl, hcap⟩ := RdE.shape r
  have HR := Lib.hid r
  have hml2 : (acs.length : Int) ≤ 9223372036854775807 := by unfold maxLen at hml; omega
  generalize hP : (fun (e : Ending) (w' : World) => ∃ b, e = .returned (.bool b) ∧ Below w.heap.size w w' ∧ (b = true → (acs.length : Int) ≤ most)) = Post
  have HP := Lib.hid hP
  clear r hml hP
  go_enter Tryz.func8, Tryz.ntmps8
  go_wp2_with fail
  go_loopw [5] (fun v wr => ∃ j : Nat, j ≤ acs.length ∧ v = .int .i64 j ∧ Hid (Below w.heap.size w wr)) (fun v _ => acs.length - (intOf v).toNat)
  case atStart => exact ⟨0, Nat.zero_le _, rfl, Lib.hid (Below.refl _ _)⟩
  case round =>
    obtain ⟨j, hj, rfl, HB⟩ := hrel
    by_cases hlt : j < acs.length
    · obtain ⟨hh, off, rfl, hl, hc⟩ := acCells HR.out (List.getElem?_eq_getElem hlt)
      generalize acs[j] = c at *
      obtain ⟨k, n, sa, sb⟩ := c
      have hj0 : (0 : Int) ≤ (j : Int) := by omega
      have hj1 : (j : Int) < (acs.length : Int) := by omega
      have e2 : wr.cell? ⟨hh, off + j * 4 + 2, none⟩ = some (.string sa) := (HB.out.cell (p := ⟨hh, off + j * 4 + 2, none⟩) hl).trans (hc 2 (by omega))
      have e3 : wr.cell? ⟨hh, off + j * 4 + 3, none⟩ = some (.string sb) := (HB.out.cell (p := ⟨hh, off + j * 4 + 3, none⟩) hl).trans (hc 3 (by omega))
      have hlw : hh < wr.heap.size := Nat.lt_of_lt_of_le hl HB.out.size
      clear hc
      by_cases h1 : (sa.size : Int) > 300
      · have g1 : decide ((300 : Int) < (sa.size : Int)) = true := decide_eq_true h1
        go_wp2
        rw [← HP.out]
        exact ⟨false, by first | rfl | simp, HB.out, fun h => by cases h⟩
      · have g1 : decide ((300 : Int) < (sa.size : Int)) = false := decide_eq_false h1
        by_cases h2 : (sb.size : Int) > 300
        · have g2 : decide ((300 : Int) < (sb.size : Int)) = true := decide_eq_true h2
          go_wp2
          rw [← HP.out]
          exact ⟨false, by first | rfl | simp, HB.out, fun h => by cases h⟩
        · have g2 : decide ((300 : Int) < (sb.size : Int)) = false := decide_eq_false h2
          go_wp2
          go_roundw
          case rel => exact ⟨j + 1, by omega, by go_num, HB⟩
          case measure => simp [intOf]; omega
    · obtain rfl : j = acs.length := by omega
      go_wp2
      rw [← HP.out]
      exact ⟨_, rfl, HB.out, fun h => of_decide_eq_true h⟩
set_option maxHeartbeats 4000000 in
theorem made_any {w : World} {v : Value} {acs : List Ac} (hE : EnvM E B w) (hr : ∀ w', Below B w w' → RdE w' 4 encAc v acs) (hin : ∀ c ∈ acs, -9223372036854775808 ≤ c.n ∧ c.n ≤ 9223372036854775807) (hml : acs.length ≤ maxLen) :
    Calls Tryz.prog 9 #[v] w fun e w' => ∃ a b t dm m T wx, e = .returned (.tuple #[.pointer (some ⟨a, 0, none⟩), .pointer (some ⟨m, 0, none⟩), .bool true]) ∧ TM E B (fun _ => False) wx a b t dm m T w (playT acs) w' := by
  obtain ⟨sp, cap, rfl, hcap⟩ := RdE.shape (hr w (Below.refl _ _))
  have HR := Lib.hid hr
  have HE := Lib.hid hE
  have HIN := Lib.hid hin
  have hml2 : (acs.length : Int) ≤ 9223372036854775807 := by unfold maxLen at hml; omega
  generalize hP : (fun (e : Ending) (w' : World) => ∃ a b t dm m T wx, e = .returned (.tuple #[.pointer (some ⟨a, 0, none⟩), .pointer (some ⟨m, 0, none⟩), .bool true]) ∧ TM E B (fun _ => False) wx a b t dm m T w (playT acs) w') = Post
  have HP := Lib.hid hP
  clear hr hE hin hml hP
  go_enter Tryz.func9, Tryz.ntmps9
  go_wp2_with fail
  refine (ts_new HE.out).mono ?_
  rintro e w1 ⟨a, b, t, dm, rfl, ha, h1⟩
  have H1 := Lib.hid h1
  clear h1 ha
  go_wp2_with fail
  refine (dnew_any (B := B) _ _ H1.out.env.size).mono ?_
  rintro e w2 ⟨m, u, ms, rfl, hD, _, hb2⟩
  have HT2 : Hid (TM E B (fun _ => False) w2 a b t dm m (fun x => w1.heap.size ≤ x ∧ x < w2.heap.size) w newSt w2) := Lib.hid (by
    have h2 := H1.out.below hb2
    refine ⟨⟨h2.ta, .inl rfl, H1.out.wb.loc' hb2 (fun x hx => ?_), h2.full, h2.env, h2.bel⟩, ⟨u, ms, hD⟩, fun h => ?_, fun x hx => hx.elim, fun x hx => hx.elim⟩
    · rcases hx with rfl | hx | hx
      · exact .inl rfl
      · exact .inr hx
      · exact hx.elim
    · have := H1.out.ta.2
      omega)
  clear hD hb2
  go_wp2_with fail
  go_loopw [7] (fun v wr => ∃ (j : Nat) (T : Nat → Prop), j ≤ acs.length ∧ v = .int .i64 j ∧ Hid (TM E B (fun _ => False) w2 a b t dm m T w (playT (acs.take j)) wr)) (fun v _ => acs.length - (intOf v).toNat)
  case atStart => exact ⟨0, _, Nat.zero_le _, rfl, HT2⟩
  case round =>
    obtain ⟨j, T, hj, rfl, HT⟩ := hrel
    by_cases hlt : j < acs.length
    · obtain ⟨c, hc⟩ : ∃ c, acs[j]? = some c := ⟨_, List.getElem?_eq_getElem hlt⟩
      obtain ⟨hh, off, rfl, hl, hcs⟩ := acCells (HR.out wr HT.out.ts.bel) hc
      have HPT := Lib.hid (playT_take hc)
      have hcn := HIN.out c (List.mem_of_getElem? hc)
      have HTO := Lib.hid (told_any HT.out c hcn)
      obtain ⟨k, n, sa, sb⟩ := c
      have hj0 : (0 : Int) ≤ (j : Int) := by omega
      have hj1 : (j : Int) < (acs.length : Int) := by omega
      have e0 : wr.cell? ⟨hh, off + j * 4, none⟩ = some (.int .i64 k) := hcs 0 (by omega)
      have e1 : wr.cell? ⟨hh, off + j * 4 + 1, none⟩ = some (.int .i64 n) := hcs 1 (by omega)
      have e2 : wr.cell? ⟨hh, off + j * 4 + 2, none⟩ = some (.string sa) := hcs 2 (by omega)
      have e3 : wr.cell? ⟨hh, off + j * 4 + 3, none⟩ = some (.string sb) := hcs 3 (by omega)
      unfold acV at HTO
      simp only at HTO
      clear hcs hc
      go_wp2_with fail
      refine HTO.out.mono ?_
      rintro e w3 ⟨rfl, T', hT'⟩
      have HT' := Lib.hid hT'
      clear hT' e0 e1 e2 e3
      go_wp2
      go_roundw
      case rel => exact ⟨j + 1, T', by omega, by go_num, Lib.hid (by rw [HPT.out]; exact HT'.out)⟩
      case measure => simp [intOf]; omega
    · obtain rfl : j = acs.length := by omega
      have HTL : Hid (TM E B (fun _ => False) w2 a b t dm m T w (playT acs) wr) := Lib.hid (by have := HT.out; rw [List.take_length] at this; exact this)
      go_wp2_with fail
      refine (same_any HTL.out).mono ?_
      rintro e w3 ⟨rfl, h3⟩
      have H3 := Lib.hid h3
      clear h3
      go_wp2
      rw [← HP.out]
      refine ⟨rfl, _, by simp [results, Tryz.results9, go_sem], a, b, t, dm, m, T, w2, rfl, H3.out⟩
end Go.Proofs.YtnkcbogikaebfaaGreatDoor
end
