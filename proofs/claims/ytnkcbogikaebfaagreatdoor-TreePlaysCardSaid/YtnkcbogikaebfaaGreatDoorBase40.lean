/- Merged texts: DocHard DocRen. -/
import Derived.Test.YtnkcbogikaebfaaGreatDoorBase38
import Derived.Test.YtnkcbogikaebfaaGreatDoorBase31
import Derived.Test.YtnkcbogikaebfaaGreatDoorBase33
section
/- The document's Hard. -/
namespace Go.Proofs.YtnkcbogikaebfaaGreatDoor
open Go Go.RowKit
set_option maxRecDepth 100000
set_option linter.unusedSimpArgs false
set_option linter.unusedVariables false
attribute [local go_sem] giv
variable {E : Nat → Addr} {B : Nat}
section
variable {T : Nat → Prop} {w : World} {m : Nat} {st : St} {v : Value} {ms : List MN}
def DHardR (B : Nat) (T : Nat → Prop) (m : Nat) (R : Int × St) (w : World) (e : Ending) (w' : World) : Prop := e = .returned (.int .i64 R.1) ∧ MO B T m R.2 w w'
theorem hard_eq (st : St) (a b : ByteArray) (f : Full st) : hardT st a b =
    if (parseP a).1 ≠ 0 then ((parseP a).1, st) else if (parseP b).1 ≠ 0 then ((parseP b).1, st) else
    if (toP st (parseP a).2 false).1 ≠ 0 then ((toP st (parseP a).2 false).1, st) else
    match st.get (toP st (parseP a).2 false).2 with
    | none => (114, st)
    | some r => if r.nd.kind = 2 then (114, st) else if (lastP st (parseP b).2).1 ≠ 0 then ((lastP st (parseP b).2).1, st) else if 0 < (lastP st (parseP b).2).2.node then (110, st) else if (parseP b).2.slash = true then (109, st) else
      if 16 ≤ r.nd.links then (117, st) else (0, (st.put (setLinks r.nd (r.nd.links + 1))).addE (lastP st (parseP b).2).2.dir ⟨(lastP st (parseP b).2).2.name, (toP st (parseP a).2 false).2, r.nd.kind⟩) := by
  unfold hardT
  simp only
  by_cases h1 : (parseP a).1 ≠ 0
  · rw [if_pos h1, if_pos h1]
  rw [if_neg h1, if_neg h1]
  by_cases h2 : (parseP b).1 ≠ 0
  · rw [if_pos h2, if_pos h2]
  rw [if_neg h2, if_neg h2]
  by_cases h3 : (toP st (parseP a).2 false).1 ≠ 0
  · rw [if_pos h3, if_pos h3]
  rw [if_neg h3, if_neg h3]
  cases st.get (toP st (parseP a).2 false).2 with
  | none => rfl
  | some r =>
    simp only
    by_cases h4 : r.nd.kind = 2
    · rw [if_pos h4, if_pos h4]
    rw [if_neg h4, if_neg h4]
    unfold freshP
    simp only
    by_cases h5 : (lastP st (parseP b).2).1 ≠ 0
    · rw [if_pos h5, if_pos h5]
      simp only
      rw [if_pos h5]
    rw [if_neg h5, if_neg h5]
    by_cases h6 : 0 < (lastP st (parseP b).2).2.node
    · rw [if_pos h6, if_pos h6]
      rfl
    rw [if_neg h6, if_neg h6]
    by_cases h7 : (parseP b).2.slash = true
    · rw [h7]
      rfl
    · have h7' : (parseP b).2.slash = false := by simpa using h7
      rw [h7']
      simp only [Bool.false_and, Bool.false_eq_true, if_false]
      rw [if_neg h5]
/-- A node's links put anew, an entry more: in places. -/
theorem put_add {st : St} (f : Full st) {d id : Int} {x r : NR} {kd k : Nat} {nm : ByteArray} (hd : st.get d = some x) (hkd : st.ns[kd]? = some x) (hr : st.get id = some r) (hk : st.ns[k]? = some r) (hne : kd ≠ k) (l : Int) (hf : r.nd.kind ≠ 2) (e : En) :
    ((st.ns.set k ⟨setLinks r.nd l, r.ents⟩).set kd ⟨x.nd, insE e x.ents⟩) = ((st.put (setLinks r.nd l)).addE d e).ns ∧ st.last = ((st.put (setLinks r.nd l)).addE d e).last := by
  have h1 : (st.put (setLinks r.nd l)).ns = st.ns.set k ⟨setLinks r.nd l, r.ents⟩ := by
    show putN _ st.ns = _
    rw [putN_set (n := setLinks r.nd l) f.rise hk rfl, if_neg (fun h => hf h.2), f.flat r (List.mem_of_getElem? hk) hf]
  have h2 : RiseN (st.put (setLinks r.nd l)).ns := putN_rise f.rise
  constructor
  · show _ = onR d (insE e) (st.put (setLinks r.nd l)).ns
    rw [h1] at h2 ⊢
    exact (onR_set h2 (by rw [List.getElem?_set_ne (Ne.symm hne)]; exact hkd) (findN_id hd) _).symm
  · show st.last = max st.last r.nd.id
    have := f.ids r (List.mem_of_getElem? hk)
    omega
set_option maxHeartbeats 4000000 in
theorem mhard_any (h : MW B T w m st) (f : Full st) (s t : ByteArray) : Calls Tryz.prog 43 #[.pointer (some ⟨m, 0, none⟩), .string s, .string t] w (DHardR B T m (hardT st s t) w) := by
  obtain ⟨v, ms, hD⟩ := h
  have HD := Lib.hid hD
  have HF := Lib.hid f
  have HN := Lib.hid (hD.few f)
  obtain ⟨R, hR⟩ : ∃ R, hardT st s t = R := ⟨_, rfl⟩
  rw [hR]
  rw [hard_eq st s t f] at hR
  have HR := Lib.hid hR
  generalize hP : DHardR B T m R w = Post
  have HP := Lib.hid hP
  clear hP hD f hR
  go_enter Tryz.func43, Tryz.ntmps43
  go_wp2_with fail
  refine (dparse_any s w).mono ?_
  rintro e w2 ⟨⟨pv, rfl, hs2⟩, hb2⟩
  obtain ⟨sp2, cp2, rfl⟩ := slShape hs2
  obtain ⟨w3, hw3⟩ : ∃ w3, w3 = w2.alloc (.cells #[.slice sp2 (parseP s).2.parts.length cp2, .bool (parseP s).2.slash] 116) := ⟨_, rfl⟩
  have hb3 : Below w2.heap.size w2 w3 := by rw [hw3]; exact bl_alloc (Below.refl _ _) _
  have rP : Row w3 w2.heap.size 116 [.slice sp2 (parseP s).2.parts.length cp2, .bool (parseP s).2.slash] := by rw [hw3]; exact Row.new _ _ _
  have HB3 := Lib.hid (bl_trans hb2 hb3)
  have HRD3 : Hid (RdS w3 (.slice sp2 (parseP s).2.parts.length cp2) (parseP s).2.parts) := Lib.hid ((hs2.rd (fun _ => rfl)).below hb3)
  go_upto_region 2 with fail
  rw [← hw3]
  obtain ⟨P0, hP0⟩ : ∃ P0, w2.heap.size = P0 := ⟨_, rfl⟩
  have hwP : w.heap.size ≤ P0 := by rw [← hP0]; exact hb2.size
  rw [hP0] at rP
  try rw [hP0]
  have HRP := Lib.hid rP
  clear hs2 hb2 hb3 hw3 hP0 rP
  have hR1 := HR.out
  by_cases h1 : (parseP s).1 = 0
  case neg =>
    as_aux_lemma =>
    have hcb : ((parseP s).1 != 0) = true := by rw [bne_iff_ne]; exact h1
    rw [if_pos h1] at hR1
    have HRF := Lib.hid hR1.symm
    clear h1 hR1
    go_wp2
    first | go_ret | skip
    rw [← HP.out]
    unfold DHardR
    rw [HRF.out]
    exact ⟨rfl, MO.still ⟨v, ms, HD.out⟩ HB3.out⟩
  rw [if_neg (by simp [h1])] at hR1
  rw [h1]
  have HR1 := Lib.hid hR1
  clear hR1 h1
  go_wp2_with fail
  refine (dparse_any t w3).mono ?_
  rintro e w4 ⟨⟨qv, rfl, hs4⟩, hb4⟩
  obtain ⟨sp4, cp4, rfl⟩ := slShape hs4
  obtain ⟨w5, hw5⟩ : ∃ w5, w5 = w4.alloc (.cells #[.slice sp4 (parseP t).2.parts.length cp4, .bool (parseP t).2.slash] 116) := ⟨_, rfl⟩
  have hb5 : Below w4.heap.size w4 w5 := by rw [hw5]; exact bl_alloc (Below.refl _ _) _
  have rQ : Row w5 w4.heap.size 116 [.slice sp4 (parseP t).2.parts.length cp4, .bool (parseP t).2.slash] := by rw [hw5]; exact Row.new _ _ _
  have hb35 := bl_trans hb4 hb5
  have HB5 := Lib.hid (bl_trans HB3.out hb35)
  have HRD5 := Lib.hid (HRD3.out.below hb35)
  have HQD5 : Hid (RdS w5 (.slice sp4 (parseP t).2.parts.length cp4) (parseP t).2.parts) := Lib.hid ((hs4.rd (fun _ => rfl)).below hb5)
  have HRP5 := Lib.hid (HRP.out.below hb35)
  go_upto_region 5 with fail
  rw [← hw5]
  obtain ⟨Q0, hQ0⟩ : ∃ Q0, w4.heap.size = Q0 := ⟨_, rfl⟩
  rw [hQ0] at rQ
  try rw [hQ0]
  have HRQ := Lib.hid rQ
  clear hs4 hb4 hb5 hb35 hw5 hQ0 rQ HRP HRD3
  have hR2 := HR1.out
  by_cases h2 : (parseP t).1 = 0
  case neg =>
    as_aux_lemma =>
    have hcb : ((parseP t).1 != 0) = true := by rw [bne_iff_ne]; exact h2
    rw [if_pos h2] at hR2
    have HRF := Lib.hid hR2.symm
    clear h2 hR2
    go_wp2
    first | go_ret | skip
    rw [← HP.out]
    unfold DHardR
    rw [HRF.out]
    exact ⟨rfl, MO.still ⟨v, ms, HD.out⟩ HB5.out⟩
  rw [if_neg (by simp [h2])] at hR2
  rw [h2]
  have HH2 := Lib.hid h2
  have HR2 := Lib.hid hR2
  have p0 := HRP5.out.cell' (i := 0) rfl
  have p1 := HRP5.out.cell' (i := 1) rfl
  have pl := HRP5.out.lt
  have HD5 := Lib.hid (HD.out.below HB5.out)
  clear hR2 h2
  go_wp2_with fail
  refine (dto_any HD5.out HF.out HRD5.out (Nat.le_trans (parse_len s) (by decide)) false (parseP s).2.slash).mono ?_
  rintro e w6 ⟨⟨hops, rfl⟩, hb6⟩
  have hR3 := HR2.out
  obtain ⟨tc, id, htt⟩ : ∃ a b, toP st (parseP s).2 false = (a, b) := ⟨_, _, rfl⟩
  have htt2 : toP st ⟨(parseP s).2.parts, (parseP s).2.slash⟩ false = (tc, id) := htt
  rw [htt2]
  simp only
  rw [htt] at hR3
  simp only at hR3
  have HB6 := Lib.hid (bl_trans HB5.out hb6)
  have HD6 := Lib.hid (HD5.out.below hb6)
  have HRQ6 := Lib.hid (HRQ.out.below hb6)
  have HQD6 := Lib.hid (HQD5.out.below hb6)
  have HTT := Lib.hid htt
  clear hb6 htt htt2 p0 p1 pl HD5 HRP5 HRD5 HQD5 HRQ
  by_cases h3 : tc = 0
  case neg =>
    as_aux_lemma =>
    have hcb : (tc != 0) = true := by rw [bne_iff_ne]; exact h3
    rw [if_pos h3] at hR3
    have HRF := Lib.hid hR3.symm
    clear h3 hR3
    go_wp2
    first | go_ret | skip
    rw [← HP.out]
    unfold DHardR
    rw [HRF.out]
    exact ⟨rfl, MO.still ⟨v, ms, HD.out⟩ HB6.out⟩
  subst h3
  rw [if_neg (by decide)] at hR3
  obtain ⟨r, hr⟩ := toP_some HF.out HTT.out
  rw [hr] at hR3
  simp only at hR3
  obtain ⟨k, xk, k1, k2, k3, k4, k5⟩ := HD6.out.find hr
  obtain ⟨g, cap, hv, hg⟩ := HD6.out.block (by rintro rfl; simp at k2)
  have ck := HD6.out.cell hv (j := 1) k3 (by omega)
  rw [(encM_get xk).2.1, k4] at ck
  obtain ⟨kk, hkk⟩ : ∃ kk, r.nd.kind = kk := ⟨_, rfl⟩
  rw [hkk] at ck hR3
  have K1 := Lib.hid k1
  have HV := Lib.hid hv
  have HKK := Lib.hid (And.intro k3 (And.intro k4 (And.intro k5 (And.intro hkk hr))))
  clear k1 k3 k4 k5 hv hkk hr
  by_cases hk2 : kk = 2
  case pos =>
    as_aux_lemma =>
    subst hk2
    rw [if_pos rfl] at hR3
    have HRF := Lib.hid hR3.symm
    clear hR3
    go_wp2_with fail
    refine (dget_some HD6.out (by have := HN.out.1; omega) id K1.out k2 HV.out).mono ?_
    rintro e w7 ⟨rfl, rfl⟩
    go_wp2
    first | go_ret | skip
    rw [← HP.out]
    unfold DHardR
    rw [HRF.out]
    exact ⟨rfl, MO.still ⟨v, ms, HD.out⟩ HB6.out⟩
  rw [if_neg hk2] at hR3
  have hkb : (kk == 2) = false := by rw [beq_eq_false_iff_ne]; exact hk2
  have HK2 := Lib.hid hk2
  have HR3 := Lib.hid hR3
  have q0 := HRQ6.out.cell' (i := 0) rfl
  have q1 := HRQ6.out.cell' (i := 1) rfl
  have ql := HRQ6.out.lt
  clear hR3 hk2
  go_wp2_with fail
  refine (dget_some HD6.out (by have := HN.out.1; omega) id K1.out k2 HV.out).mono ?_
  rintro e w7 ⟨rfl, rfl⟩
  go_wp2_with fail
  refine (dfinal_any HD6.out HF.out HQD6.out (Nat.le_trans (parse_len t) (by decide)) (parseP t).2.slash).mono ?_
  rintro e w7 ⟨rfl, hb7⟩
  have hR4 := HR3.out
  obtain ⟨lc, d, n, nm, hll⟩ : ∃ a b c d, lastP st (parseP t).2 = (a, ⟨b, c, d⟩) := ⟨_, _, _, _, rfl⟩
  have hll2 : lastP st ⟨(parseP t).2.parts, (parseP t).2.slash⟩ = (lc, ⟨d, n, nm⟩) := hll
  rw [hll2]
  simp only [fndV]
  rw [hll] at hR4
  simp only at hR4
  obtain ⟨w8, hw8⟩ : ∃ w8, w8 = w7.alloc (.cells #[.int .i64 d, .int .i64 n, .string nm] 120) := ⟨_, rfl⟩
  have hb8 : Below w7.heap.size w7 w8 := by rw [hw8]; exact bl_alloc (Below.refl _ _) _
  have rF : Row w8 w7.heap.size 120 [.int .i64 d, .int .i64 n, .string nm] := by rw [hw8]; exact Row.new _ _ _
  have hb68 := bl_trans hb7 hb8
  have HB8 := Lib.hid (bl_trans HB6.out hb68)
  have HD8 := Lib.hid (HD6.out.below hb68)
  have HRQ8 := Lib.hid (HRQ6.out.below hb68)
  have hz7 : w.heap.size ≤ w7.heap.size := Nat.le_trans HB6.out.size hb7.size
  go_upto_region 14 with fail
  rw [← hw8]
  obtain ⟨F0, hF0⟩ : ∃ F0, w7.heap.size = F0 := ⟨_, rfl⟩
  rw [hF0] at rF hz7
  try rw [hF0]
  have HRF8 := Lib.hid rF
  have HLL := Lib.hid hll
  clear hb7 hb8 hb68 hw8 hF0 rF hll hll2 q0 q1 ql ck HD6 HRQ6 HQD6
  have HMS : Hid (MO B T m st w w8) := Lib.hid (MO.still ⟨v, ms, HD.out⟩ HB8.out)
  have y0 := HRF8.out.cell' (i := 0) rfl
  have y1 := HRF8.out.cell' (i := 1) rfl
  have y2 := HRF8.out.cell' (i := 2) rfl
  have yl := HRF8.out.lt
  have q1 := HRQ8.out.cell' (i := 1) rfl
  have ql := HRQ8.out.lt
  by_cases h4 : lc = 0
  case neg =>
    as_aux_lemma =>
    have hcb : (lc != 0) = true := by rw [bne_iff_ne]; exact h4
    rw [if_pos h4] at hR4
    have HRF := Lib.hid hR4.symm
    clear h4 hR4
    go_wp2
    first | go_ret | skip
    rw [← HP.out]
    unfold DHardR
    rw [HRF.out]
    exact ⟨rfl, HMS.out⟩
  subst h4
  rw [if_neg (by decide)] at hR4
  obtain ⟨x, hx1, hx2, hx3⟩ := (lastP_ok HLL.out).at'
  simp only at hx1 hx3
  by_cases h5 : n = 0
  case neg =>
    as_aux_lemma =>
    have hn1 : 0 < n := by
      rcases hx3 with ⟨h, _⟩ | ⟨e, he1, he2, _⟩
      · exact absurd h h5
      · obtain ⟨_, _, _, h6, _⟩ := entry_node HF.out.toGood hx1 he1
        omega
    have hcb : (n != 0) = true := by rw [bne_iff_ne]; exact h5
    rw [if_pos hn1] at hR4
    have HRF := Lib.hid hR4.symm
    clear h5 hR4 hx1 hx2 hx3
    go_wp2
    first | go_ret | skip
    rw [← HP.out]
    unfold DHardR
    rw [HRF.out]
    exact ⟨rfl, HMS.out⟩
  subst h5
  rw [if_neg (by omega)] at hR4
  cases hsl : (parseP t).2.slash with
  | true =>
    as_aux_lemma =>
    rw [hsl] at q1 hR4
    rw [if_pos rfl] at hR4
    have HRF := Lib.hid hR4.symm
    clear hR4 hx1 hx2 hx3 hsl
    go_wp2
    first | go_ret | skip
    rw [← HP.out]
    unfold DHardR
    rw [HRF.out]
    exact ⟨rfl, HMS.out⟩
  | false =>
    rw [hsl] at q1 hR4
    rw [if_neg (by decide)] at hR4
    have hk3 := HKK.out.1
    have cl := HD8.out.cell HV.out (j := 2) hk3 (by omega)
    have ck := HD8.out.cell HV.out (j := 1) hk3 (by omega)
    rw [(encM_get xk).2.2.1, HKK.out.2.1] at cl
    rw [(encM_get xk).2.1, HKK.out.2.1, HKK.out.2.2.2.1] at ck
    obtain ⟨lk, hlk⟩ : ∃ lk, r.nd.links = lk := ⟨_, rfl⟩
    rw [hlk] at cl hR4
    have hval := valid_lk (HF.out.val r (findN_mem HKK.out.2.2.2.2))
    rw [hlk] at hval
    have HLK := Lib.hid hlk
    have hgl8 : g < w8.heap.size := (HD8.out.lt g (HD8.out.own g (by rw [HV.out]; rfl)).1).2
    clear hlk hk3
    by_cases h7 : 16 ≤ lk
    · as_aux_lemma =>
      rw [if_pos h7] at hR4
      have HRF := Lib.hid hR4.symm
      clear hR4 hx1 hx2 hx3 hsl
      go_wp2
      first | go_ret | skip
      rw [← HP.out]
      unfold DHardR
      rw [HRF.out]
      exact ⟨rfl, HMS.out⟩
    as_aux_lemma =>
    rw [if_neg h7] at hR4
    have HRF := Lib.hid hR4.symm
    have hno : entOf x.ents nm = none := by
      rcases hx3 with ⟨_, h⟩ | ⟨e, he1, he2, _⟩
      · exact h
      · obtain ⟨_, _, _, h6, _⟩ := entry_node HF.out.toGood hx1 he1
        omega
    obtain ⟨kd, xd, d1, d2, d3, d4, d5⟩ := HD8.out.find hx1
    have hne : kd ≠ k := by
      rintro rfl
      have h8 := HKK.out.2.2.1
      rw [d5] at h8
      injection h8 with h8
      have h9 := HKK.out.2.2.2.1
      rw [← h8, hx2] at h9
      exact HK2.out h9.symm
    have hset := HD8.out.put (y := ⟨⟨setLinks xk.nr.nd (lk + 1), xk.nr.ents⟩, xk.sp, xk.cap, xk.rest⟩) (u := .int .i64 (lk + 1)) (j := 2) (st' := ⟨st.last, (ms.set k ⟨⟨setLinks xk.nr.nd (lk + 1), xk.nr.ents⟩, xk.sp, xk.cap, xk.rest⟩).map MN.nr⟩) HV.out HKK.out.1 (by omega) rfl (HD8.out.ents xk (List.mem_of_getElem? HKK.out.1)) rfl rfl
    have hpa := put_add HF.out (nm := nm) hx1 d5 HKK.out.2.2.2.2 HKK.out.2.2.1 hne (lk + 1) (by rw [HKK.out.2.2.2.1]; exact HK2.out) ⟨nm, id, kk⟩
    have HPA := Lib.hid hpa
    have f2 : w8.frozen? ⟨g, k * 199 + 2, none⟩ = false := HD8.out.sl.froz (by rw [HV.out]; rfl) _
    have hgF : ¬ g = F0 := by
      have := (HD.out.lt g (HD.out.own g (by rw [HV.out]; rfl)).1).2
      omega
    obtain ⟨y1m, hy1⟩ : ∃ y1m : MN, (⟨⟨setLinks xk.nr.nd (lk + 1), xk.nr.ents⟩, xk.sp, xk.cap, xk.rest⟩ : MN) = y1m := ⟨_, rfl⟩
    rw [hy1] at hset
    have hy2 : y1m.nr = ⟨setLinks r.nd (lk + 1), r.ents⟩ := by rw [← hy1, HKK.out.2.1]
    have hd9 : (ms.set k y1m)[kd]? = some xd := by rw [List.getElem?_set_ne (Ne.symm hne)]; exact d3
    have hk9 : (ms.set k y1m)[k]? = some y1m := by rw [List.getElem?_set_self k2]
    have hmap : (ms.set k y1m).map MN.nr = (st.put (setLinks r.nd (lk + 1))).ns := by
      rw [List.map_set, HD8.out.eq, hy2]
      show _ = putN _ st.ns
      rw [putN_set (n := setLinks r.nd (lk + 1)) HF.out.rise HKK.out.2.2.1 rfl, if_neg (fun h => HK2.out (by rw [← HKK.out.2.2.2.1]; exact h.2)), HF.out.flat r (List.mem_of_getElem? HKK.out.2.2.1) (by rw [HKK.out.2.2.2.1]; exact HK2.out)]
    have hpl9 : placeM (ms.set k y1m) d = (kd : Int) := place_at (by rw [hmap]; exact putN_rise HF.out.rise) hd9 (by rw [d4]; exact findN_id hx1)
    have hxl9 : xd.nr.ents.length ≤ 8192 := HN.out.2 xd (List.mem_of_getElem? d3)
    have HSET := Lib.hid hset
    have HY := Lib.hid (And.intro hy2 (And.intro hd9 (And.intro hk9 (And.intro hpl9 (And.intro d4 (And.intro hxl9 hno))))))
    clear hR4 hx1 hx2 hx3 hno d1 d2 d3 d4 d5 hne hset hpa hy1 hy2 hd9 hk9 hmap hpl9 hxl9 hsl
    go_upto_region 23 with fail
    obtain ⟨w9, hw9⟩ : ∃ w9, w9 = w8.setCell ⟨g, k * 199 + 2, none⟩ (.int .i64 (lk + 1)) := ⟨_, rfl⟩
    have hset := HSET.out
    rw [← hw9] at hset ⊢
    have rF9 : Row w9 F0 120 [.int .i64 d, .int .i64 0, .string nm] := by rw [hw9]; exact HRF8.out.other (p := ⟨g, _, none⟩) (fun e => hgF e.symm) _
    have ck9 : w9.cell? ⟨g, k * 199 + 1, none⟩ = some (.int .i64 kk) := by
      have := hset.1.cell HV.out (j := 1) HY.out.2.2.1 (by omega)
      rw [(encM_get y1m).2.1, HY.out.1] at this
      rw [this]
      show some (Value.int .i64 r.nd.kind) = _
      rw [HKK.out.2.2.2.1]
    have hg9 : g < w9.heap.size := by have := (hset.1.lt g (hset.1.own g (by rw [HV.out]; rfl)).1).2; exact this
    have S : ∀ w', Below w9.heap.size w9 w' → w'.cell? ⟨F0, 0, none⟩ = some (.int .i64 d) ∧ w'.cell? ⟨F0, 2, none⟩ = some (.string nm) ∧ w'.cell? ⟨g, k * 199 + 1, none⟩ = some (.int .i64 kk) := fun w' hb =>
      ⟨(rF9.below hb).cell' rfl, (rF9.below hb).cell' rfl, (hb.cell (p := ⟨g, k * 199 + 1, none⟩) hg9).trans ck9⟩
    have HS9 := Lib.hid hset
    clear hset hw9 y0 y1 y2 yl q1 ql cl ck f2 HSET
    go_wp2_with fail
    apply wp_region_tail 11 _ (by kernel_rfl) (by kernel_rfl) (by kernel_rfl) (by decide) (fun w' => Below w9.heap.size w9 w') (fun w' w'' => Below w'.heap.size w' w'') (fun w' w'' h1 h2 => bl_trans h1 h2) (Below.refl _ _).drew
    simp only [List.take_succ_cons, List.take_zero, List.drop_succ_cons, List.drop_zero]
    repeat (first
      | (apply wpRel_skip (by rfl)
         simp only [Act.put, List.setIfInBounds_toArray, List.set_cons_zero, List.set_cons_succ])
      | (apply wpRel_fix (by rfl)
         · intro w' hC hf R hR
           have hS := S w' hC
           go_simp
           exact hR _ (Below.refl _ _)
         simp only [Act.put, List.setIfInBounds_toArray, List.set_cons_zero, List.set_cons_succ]))
    refine wpRel_nil (fun w10 hC hf => ?_)
    have HC := Lib.hid hC
    have HD10 := Lib.hid (HS9.out.1.below hC)
    clear hC hf S ck9 rF9
    go_wp2_with fail
    refine (madd_any HD10.out (by rw [List.length_set]; exact HN.out.1) HY.out.2.2.2.1 HY.out.2.1 HY.out.2.2.2.2.2.1 ⟨nm, id, kk⟩ (by rw [HY.out.2.2.2.2.1]; exact HY.out.2.2.2.2.2.2)).mono ?_
    rintro e w11 ⟨rfl, y2m, s1, s2, s3, s4⟩
    have HQ := Lib.hid (And.intro s1 (And.intro s3 s4))
    clear s1 s2 s3 s4
    go_wp2
    first | go_ret | skip
    rw [← HP.out]
    unfold DHardR
    refine ⟨by rw [HRF.out]; first | done | rfl, ?_⟩
    have hT : ∀ z, v.ownBlock = some z → T z := fun z hz => (HD.out.own z hz).1
    have hst : (⟨st.last, ((ms.set k y1m).set kd y2m).map MN.nr⟩ : St) = R.2 := by
      rw [HRF.out]
      simp only
      rw [← HLK.out]
      have h1 := HPA.out
      rw [← HLK.out] at h1
      rw [List.map_set, List.map_set, HD8.out.eq, HY.out.1, HQ.out.1, HY.out.2.2.2.2.1, ← HLK.out, h1.1]
      cases hh : (st.put (setLinks r.nd (r.nd.links + 1))).addE d ⟨nm, id, kk⟩ with
      | mk a b => rw [hh] at h1; simp only at h1 ⊢; rw [h1.2]
    rw [← hst]
    have hz8 := HS9.out.2.size
    have hz9 := HC.out.size
    refine MO.pre ⟨v, ms, HD.out⟩ HB8.out (MO.of_dw (HQ.out.2.1.wide (fun z hz => ?_) (fun z hz => ?_)) ?_)
    · rcases hz with hz | hz
      · exact .inl hz
      · exact .inr ⟨by omega, hz.2⟩
    · rcases hz with hz | hz
      · exact HQ.out.2.1.lt z (.inl hz)
      · exact ⟨Nat.le_trans HD8.out.hB hz.1, hz.2⟩
    · have t1 : Touch T w8 w10 := ((HS9.out.2.mono (fun z hz _ => by rw [hz]; exact hT g (by rw [HV.out]; rfl))).then HC.out)
      exact t1.trans HQ.out.2.2 (fun z hz _ => hT z hz)
end
end Go.Proofs.YtnkcbogikaebfaaGreatDoor
end

section
/- The document's Rename. -/
namespace Go.Proofs.YtnkcbogikaebfaaGreatDoor
open Go Go.RowKit
set_option maxRecDepth 100000
set_option linter.unusedSimpArgs false
set_option linter.unusedVariables false
attribute [local go_sem] giv
variable {E : Nat → Addr} {B : Nat}
section
variable {T : Nat → Prop} {w : World} {m : Nat} {st : St} {v : Value} {ms : List MN}
theorem rename_eq (st : St) (a b : ByteArray) {c1 d1 n1 : Int} {nm1 : ByteArray} (h1 : lastP st (parseP a).2 = (c1, ⟨d1, n1, nm1⟩)) {c2 d2 n2 : Int} {nm2 : ByteArray} (h2 : lastP st (parseP b).2 = (c2, ⟨d2, n2, nm2⟩)) : renameT st a b =
    if (parseP a).1 ≠ 0 then ((parseP a).1, 0, st) else if (parseP b).1 ≠ 0 then ((parseP b).1, 0, st) else
    if c1 ≠ 0 then (c1, 0, st) else match st.get n1 with
    | none => (109, 0, st)
    | some r => if c2 ≠ 0 then (c2, 0, st) else if n1 = n2 then (0, 0, st) else if r.nd.kind = 2 ∧ st.within d2 r.nd.id then (114, 0, st) else
      if renC st ⟨d2, n2, nm2⟩ (parseP b).2.slash r.nd ≠ 0 then (renC st ⟨d2, n2, nm2⟩ (parseP b).2.slash r.nd, 0, st) else
      (0, n2, moveS (ousted st ⟨d2, n2, nm2⟩) d1 nm1 d2 nm2 r.nd) := by
  unfold renameT
  simp only
  by_cases e1 : (parseP a).1 ≠ 0
  · rw [if_pos e1, if_pos e1]
  rw [if_neg e1, if_neg e1]
  by_cases e2 : (parseP b).1 ≠ 0
  · rw [if_pos e2, if_pos e2]
  rw [if_neg e2, if_neg e2]
  unfold thereP
  simp only [h1, h2]
  by_cases e3 : c1 = 0
  · subst e3
    simp only [ne_eq, not_true_eq_false, if_false]
    cases st.get n1 with
    | none => simp
    | some r => simp
  · simp [e3]
/-- M's answer to 'onto' is the plain tree's. -/
theorem onto_ren {st : St} {r x : NR} {n2 d2 : Int} {nm2 : ByteArray} (hx : st.get n2 = some x) (sl : Bool) : ontoM r.nd.kind x = renC st ⟨d2, n2, nm2⟩ sl r.nd := by
  unfold ontoM renC ontoC
  simp only [hx]
  have hf : st.full x.nd.id = true ↔ x.nd.kind = 2 ∧ x.ents ≠ [] := by
    rw [findN_id hx]
    unfold St.full
    by_cases hk : x.nd.kind = 2
    · rw [dirOf_of hx hk]
      cases hh : x.ents with
      | nil => simp
      | cons a l => simp [hk]
    · have : st.dirOf n2 = none := by unfold St.dirOf; rw [hx]; simp [hk]
      rw [this]
      simp [hk]
  by_cases h1 : r.nd.kind = 2 ∧ x.nd.kind ≠ 2
  · rw [if_pos h1, if_pos h1]
  rw [if_neg h1, if_neg h1]
  by_cases h2 : r.nd.kind ≠ 2 ∧ x.nd.kind = 2
  · rw [if_pos h2, if_pos h2]
  rw [if_neg h2, if_neg h2]
  by_cases h3 : x.nd.kind = 2 ∧ x.ents ≠ []
  · rw [if_pos h3, if_pos ⟨h3.1, hf.2 h3⟩]
  · rw [if_neg h3, if_neg (fun h => h3 ⟨h.1, (hf.1 h.2).2⟩)]
theorem put_drop {st : St} (t : Tid st) {id : Int} {r : NR} (hr : st.get id = some r) (l : Int) : (st.put (setLinks r.nd l)).drop id = st.drop id := by
  obtain ⟨k, hk⟩ := List.getElem?_of_mem (findN_mem hr)
  have hid := findN_id hr
  have hr2 : RiseN (st.put (setLinks r.nd l)).ns := putN_rise t.rise
  have hp := t.put_eq hr hk (n := setLinks r.nd l) rfl rfl
  obtain ⟨hk1, hk2⟩ := List.getElem?_eq_some_iff.1 hk
  unfold St.drop
  rw [hp] at hr2 ⊢
  simp only at hr2 ⊢
  rw [dropN_at hr2 (r := ⟨setLinks r.nd l, r.ents⟩) (k := k) (by rw [List.getElem?_set_self hk1]) (by exact hid), dropN_at t.rise hk hid, List.take_set_of_le (Nat.le_refl _), List.drop_set_of_lt (by omega)]
/-- A directory's number put anew ahead of an entry, or behind it. -/
theorem par_add {st : St} (t : Tid st) {id d : Int} {r x : NR} (hr : st.get id = some r) (hx : st.get d = some x) (hne : id ≠ d) (hk : r.nd.kind = 2) (p : Int) (e : En) :
    (st.addE d e).put (setPar r.nd p) = (st.put (setPar r.nd p)).addE d e ∧ (st.addE d e).get id = some r := by
  obtain ⟨k, h1⟩ := List.getElem?_of_mem (findN_mem hr)
  obtain ⟨kd, h2⟩ := List.getElem?_of_mem (findN_mem hx)
  have hid := findN_id hr
  have hdd := findN_id hx
  have hkk : k ≠ kd := by
    rintro rfl
    rw [h1] at h2
    injection h2 with h2
    rw [h2] at hid
    omega
  have hga : (st.addE d e).get id = some r := by
    rw [get_addE, hr]
    simp only [Option.map_some]
    rw [if_neg (by rw [hid]; exact hne)]
  have ha : (st.addE d e).ns = st.ns.set kd ⟨x.nd, insE e x.ents⟩ := onR_set t.rise h2 hdd _
  have hra : RiseN (st.addE d e).ns := onR_rise t.rise
  have hp := t.put_eq hr h1 (n := setPar r.nd p) rfl rfl
  have hrp : RiseN (st.put (setPar r.nd p)).ns := putN_rise t.rise
  refine ⟨?_, hga⟩
  have e1 : ((st.addE d e).put (setPar r.nd p)).ns = (st.ns.set kd ⟨x.nd, insE e x.ents⟩).set k ⟨setPar r.nd p, r.ents⟩ := by
    show putN _ (st.addE d e).ns = _
    rw [ha] at hra ⊢
    rw [putN_set (n := setPar r.nd p) hra (k := k) (r := r) (by rw [List.getElem?_set_ne (Ne.symm hkk)]; exact h1) rfl, if_pos ⟨hk, hk⟩]
  have e2 : ((st.put (setPar r.nd p)).addE d e).ns = (st.ns.set k ⟨setPar r.nd p, r.ents⟩).set kd ⟨x.nd, insE e x.ents⟩ := by
    show onR d (insE e) (st.put (setPar r.nd p)).ns = _
    rw [hp] at hrp ⊢
    simp only at hrp ⊢
    exact onR_set hrp (by rw [List.getElem?_set_ne hkk]; exact h2) hdd _
  have e3 : ((st.addE d e).put (setPar r.nd p)).last = ((st.put (setPar r.nd p)).addE d e).last := rfl
  cases hA : (st.addE d e).put (setPar r.nd p) with
  | mk a b =>
    cases hB : (st.put (setPar r.nd p)).addE d e with
    | mk a' b' =>
      rw [hA] at e1 e3
      rw [hB] at e2 e3
      simp only at e1 e2 e3
      rw [e1, e2, e3, List.set_comm _ _ hkk]
set_option maxHeartbeats 8000000 in
theorem mrename_any (h : MW B T w m st) (f : Full st) (s t : ByteArray) : Calls Tryz.prog 19 #[.pointer (some ⟨m, 0, none⟩), .string s, .string t] w (DUnlR B T m (renameT st s t) w) := by
  obtain ⟨v, ms, hD⟩ := id h
  have HM0 := Lib.hid h
  have HD := Lib.hid hD
  have HF := Lib.hid f
  have HN := Lib.hid (hD.few f)
  obtain ⟨R, hR⟩ : ∃ R, renameT st s t = R := ⟨_, rfl⟩
  rw [hR]
  obtain ⟨c1, d1, n1, nm1, hl1⟩ : ∃ a b c d, lastP st (parseP s).2 = (a, ⟨b, c, d⟩) := ⟨_, _, _, _, rfl⟩
  obtain ⟨c2, d2, n2, nm2, hl2⟩ : ∃ a b c d, lastP st (parseP t).2 = (a, ⟨b, c, d⟩) := ⟨_, _, _, _, rfl⟩
  rw [rename_eq st s t hl1 hl2] at hR
  have HR := Lib.hid hR
  have HL1 := Lib.hid hl1
  have HL2 := Lib.hid hl2
  generalize hP : DUnlR B T m R w = Post
  have HP := Lib.hid hP
  clear hP hD f hR hl1 hl2 h
  go_enter Tryz.func19, Tryz.ntmps19
  go_wp2_with fail
  refine (dparse_any s w).mono ?_
  rintro e w2 ⟨⟨pv, rfl, hs2⟩, hb2⟩
  obtain ⟨sp2, cp2, rfl⟩ := slShape hs2
  obtain ⟨w3, hw3⟩ : ∃ w3, w3 = w2.alloc (.cells #[.slice sp2 (parseP s).2.parts.length cp2, .bool (parseP s).2.slash] 116) := ⟨_, rfl⟩
  have hb3 : Below w2.heap.size w2 w3 := by rw [hw3]; exact bl_alloc (Below.refl _ _) _
  have rP : Row w3 w2.heap.size 116 [.slice sp2 (parseP s).2.parts.length cp2, .bool (parseP s).2.slash] := by rw [hw3]; exact Row.new _ _ _
  have HB3 := Lib.hid (bl_trans hb2 hb3)
  have HRD3 : Hid (RdS w3 (.slice sp2 (parseP s).2.parts.length cp2) (parseP s).2.parts) := Lib.hid ((hs2.rd (fun _ => rfl)).below hb3)
  go_upto_region 2 with fail
  rw [← hw3]
  obtain ⟨P0, hP0⟩ : ∃ P0, w2.heap.size = P0 := ⟨_, rfl⟩
  rw [hP0] at rP
  try rw [hP0]
  have HRP := Lib.hid rP
  clear hs2 hb2 hb3 hw3 hP0 rP
  have hR1 := HR.out
  by_cases h1 : (parseP s).1 = 0
  case neg =>
    as_aux_lemma =>
    have hcb : ((parseP s).1 != 0) = true := by rw [bne_iff_ne]; exact h1
    rw [if_pos h1] at hR1
    have HRF := Lib.hid hR1.symm
    clear h1 hR1
    go_wp2
    first | go_ret2 | skip
    rw [← HP.out]
    unfold DUnlR
    rw [HRF.out]
    exact ⟨by first | rfl | done, MO.still HM0.out HB3.out⟩
  rw [if_neg (by simp [h1])] at hR1
  rw [h1]
  have HR1 := Lib.hid hR1
  clear hR1 h1
  go_wp2_with fail
  refine (dparse_any t w3).mono ?_
  rintro e w4 ⟨⟨qv, rfl, hs4⟩, hb4⟩
  obtain ⟨sp4, cp4, rfl⟩ := slShape hs4
  obtain ⟨w5, hw5⟩ : ∃ w5, w5 = w4.alloc (.cells #[.slice sp4 (parseP t).2.parts.length cp4, .bool (parseP t).2.slash] 116) := ⟨_, rfl⟩
  have hb5 : Below w4.heap.size w4 w5 := by rw [hw5]; exact bl_alloc (Below.refl _ _) _
  have rQ : Row w5 w4.heap.size 116 [.slice sp4 (parseP t).2.parts.length cp4, .bool (parseP t).2.slash] := by rw [hw5]; exact Row.new _ _ _
  have hb35 := bl_trans hb4 hb5
  have HB5 := Lib.hid (bl_trans HB3.out hb35)
  have HRD5 := Lib.hid (HRD3.out.below hb35)
  have HQD5 : Hid (RdS w5 (.slice sp4 (parseP t).2.parts.length cp4) (parseP t).2.parts) := Lib.hid ((hs4.rd (fun _ => rfl)).below hb5)
  have HRP5 := Lib.hid (HRP.out.below hb35)
  go_upto_region 5 with fail
  rw [← hw5]
  obtain ⟨Q0, hQ0⟩ : ∃ Q0, w4.heap.size = Q0 := ⟨_, rfl⟩
  rw [hQ0] at rQ
  try rw [hQ0]
  have HRQ := Lib.hid rQ
  clear hs4 hb4 hb5 hb35 hw5 hQ0 rQ HRP HRD3
  have hR2 := HR1.out
  by_cases h2 : (parseP t).1 = 0
  case neg =>
    as_aux_lemma =>
    have hcb : ((parseP t).1 != 0) = true := by rw [bne_iff_ne]; exact h2
    rw [if_pos h2] at hR2
    have HRF := Lib.hid hR2.symm
    clear h2 hR2
    go_wp2
    first | go_ret2 | skip
    rw [← HP.out]
    unfold DUnlR
    rw [HRF.out]
    exact ⟨by first | rfl | done, MO.still HM0.out HB5.out⟩
  rw [if_neg (by simp [h2])] at hR2
  rw [h2]
  have HR2 := Lib.hid hR2
  have p0 := HRP5.out.cell' (i := 0) rfl
  have p1 := HRP5.out.cell' (i := 1) rfl
  have pl := HRP5.out.lt
  have HD5 := Lib.hid (HD.out.below HB5.out)
  clear hR2 h2
  go_wp2_with fail
  refine (dfinal_any HD5.out HF.out HRD5.out (Nat.le_trans (parse_len s) (by decide)) (parseP s).2.slash).mono ?_
  rintro e w6 ⟨rfl, hb6⟩
  have hl1 : lastP st ⟨(parseP s).2.parts, (parseP s).2.slash⟩ = (c1, ⟨d1, n1, nm1⟩) := HL1.out
  rw [hl1]
  simp only [fndV]
  obtain ⟨w7, hw7⟩ : ∃ w7, w7 = w6.alloc (.cells #[.int .i64 d1, .int .i64 n1, .string nm1] 120) := ⟨_, rfl⟩
  have hb7 : Below w6.heap.size w6 w7 := by rw [hw7]; exact bl_alloc (Below.refl _ _) _
  have rA : Row w7 w6.heap.size 120 [.int .i64 d1, .int .i64 n1, .string nm1] := by rw [hw7]; exact Row.new _ _ _
  have hb57 := bl_trans hb6 hb7
  have HB7 := Lib.hid (bl_trans HB5.out hb57)
  have HD7 := Lib.hid (HD5.out.below hb57)
  have HRQ7 := Lib.hid (HRQ.out.below hb57)
  have HQD7 := Lib.hid (HQD5.out.below hb57)
  have hzA : w.heap.size ≤ w6.heap.size := Nat.le_trans HB5.out.size hb6.size
  go_upto_region 8 with fail
  rw [← hw7]
  obtain ⟨A0, hA0⟩ : ∃ A0, w6.heap.size = A0 := ⟨_, rfl⟩
  rw [hA0] at rA hzA
  try rw [hA0]
  have HRA := Lib.hid rA
  clear hl1 hb6 hb7 hb57 hw7 hA0 rA p0 p1 pl HD5 HRP5 HRD5 HQD5 HRQ
  have a0 := HRA.out.cell' (i := 0) rfl
  have a1 := HRA.out.cell' (i := 1) rfl
  have a2 := HRA.out.cell' (i := 2) rfl
  have al := HRA.out.lt
  have hR3 := HR2.out
  by_cases h3 : c1 = 0
  case neg =>
    as_aux_lemma =>
    have hcb : (c1 != 0) = true := by rw [bne_iff_ne]; exact h3
    rw [if_pos h3] at hR3
    have HRF := Lib.hid hR3.symm
    clear h3 hR3
    go_wp2
    first | go_ret2 | skip
    rw [← HP.out]
    unfold DUnlR
    rw [HRF.out]
    exact ⟨by first | rfl | done, MO.still HM0.out HB7.out⟩
  subst h3
  rw [if_neg (by decide)] at hR3
  obtain ⟨x1, hx1, hx2, hx3⟩ := (lastP_ok HL1.out).at'
  simp only at hx1 hx3
  by_cases h4 : n1 = 0
  · as_aux_lemma =>
    subst h4
    rw [HF.out.toGood.no (k := 0) (.inr (by omega))] at hR3
    have HRF := Lib.hid hR3.symm
    clear hR3 hx1 hx2 hx3
    go_wp2
    first | go_ret2 | skip
    rw [← HP.out]
    unfold DUnlR
    rw [HRF.out]
    exact ⟨by first | rfl | done, MO.still HM0.out HB7.out⟩
  obtain ⟨en1, r, hen1, hen2, hr⟩ : ∃ en r, entOf x1.ents nm1 = some en ∧ en.node = n1 ∧ st.get n1 = some r := by
    rcases hx3 with ⟨h, _⟩ | ⟨e, he1, he2, _⟩
    · exact absurd h h4
    · obtain ⟨y, h5, _⟩ := entry_node HF.out.toGood hx1 he1
      rw [he2] at h5
      exact ⟨e, y, he1, he2, h5⟩
  rw [hr] at hR3
  simp only at hR3
  have hnb : (n1 == 0) = false := by rw [beq_eq_false_iff_ne]; exact h4
  have HR3 := Lib.hid hR3
  have HX1 := Lib.hid (And.intro hx1 (And.intro hx2 (And.intro hen1 (And.intro hen2 hr))))
  have q0 := HRQ7.out.cell' (i := 0) rfl
  have q1 := HRQ7.out.cell' (i := 1) rfl
  have ql := HRQ7.out.lt
  clear hR3 hx1 hx2 hx3 hen1 hen2 hr h4
  go_wp2_with fail
  refine (dfinal_any HD7.out HF.out HQD7.out (Nat.le_trans (parse_len t) (by decide)) (parseP t).2.slash).mono ?_
  rintro e w8 ⟨rfl, hb8⟩
  have hl2 : lastP st ⟨(parseP t).2.parts, (parseP t).2.slash⟩ = (c2, ⟨d2, n2, nm2⟩) := HL2.out
  rw [hl2]
  simp only [fndV]
  obtain ⟨w9, hw9⟩ : ∃ w9, w9 = w8.alloc (.cells #[.int .i64 d2, .int .i64 n2, .string nm2] 120) := ⟨_, rfl⟩
  have hb9 : Below w8.heap.size w8 w9 := by rw [hw9]; exact bl_alloc (Below.refl _ _) _
  have rB : Row w9 w8.heap.size 120 [.int .i64 d2, .int .i64 n2, .string nm2] := by rw [hw9]; exact Row.new _ _ _
  have hb79 := bl_trans hb8 hb9
  have HB9 := Lib.hid (bl_trans HB7.out hb79)
  have HD9 := Lib.hid (HD7.out.below hb79)
  have HRQ9 := Lib.hid (HRQ7.out.below hb79)
  have rA9 := HRA.out.below hb79
  have hzB : w.heap.size ≤ w8.heap.size := Nat.le_trans HB7.out.size hb8.size
  go_upto_region 13 with fail
  rw [← hw9]
  obtain ⟨B0, hB0⟩ : ∃ B0, w8.heap.size = B0 := ⟨_, rfl⟩
  rw [hB0] at rB hzB
  try rw [hB0]
  have HAB := Lib.hid (And.intro rA9 rB)
  clear hl2 hb8 hb9 hb79 hw9 hB0 rB rA9 q0 q1 ql a0 a1 a2 al HD7 HRQ7 HQD7 HRA
  have HT : Hid (¬ T A0 ∧ ¬ T B0) := Lib.hid ⟨fun hh => by have := (HD.out.lt A0 hh).2; omega, fun hh => by have := (HD.out.lt B0 hh).2; omega⟩
  have HM9 : Hid (MW B T w9 m st) := Lib.hid (HM0.out.below HB9.out)
  have a0 := HAB.out.1.cell' (i := 0) rfl
  have a1 := HAB.out.1.cell' (i := 1) rfl
  have a2 := HAB.out.1.cell' (i := 2) rfl
  have al := HAB.out.1.lt
  have b0 := HAB.out.2.cell' (i := 0) rfl
  have b1 := HAB.out.2.cell' (i := 1) rfl
  have b2 := HAB.out.2.cell' (i := 2) rfl
  have bl := HAB.out.2.lt
  have q1 := HRQ9.out.cell' (i := 1) rfl
  have ql := HRQ9.out.lt
  have hR4 := HR3.out
  by_cases h5 : c2 = 0
  case neg =>
    as_aux_lemma =>
    have hcb : (c2 != 0) = true := by rw [bne_iff_ne]; exact h5
    rw [if_pos h5] at hR4
    have HRF := Lib.hid hR4.symm
    clear h5 hR4
    go_wp2
    first | go_ret2 | skip
    rw [← HP.out]
    unfold DUnlR
    rw [HRF.out]
    exact ⟨by first | rfl | done, MO.still HM0.out HB9.out⟩
  subst h5
  rw [if_neg (by decide)] at hR4
  by_cases h6 : n1 = n2
  · as_aux_lemma =>
    subst h6
    rw [if_pos rfl] at hR4
    have HRF := Lib.hid hR4.symm
    clear hR4
    go_wp2
    first | go_ret2 | skip
    rw [← HP.out]
    unfold DUnlR
    rw [HRF.out]
    exact ⟨by first | rfl | done, MO.still HM0.out HB9.out⟩
  rw [if_neg h6] at hR4
  have hn12 : (n1 == n2) = false := by rw [beq_eq_false_iff_ne]; exact h6
  have HN12 := Lib.hid h6
  obtain ⟨gk, ok, hnp, hget⟩ := mget_st HM9.out HF.out.tidy.toTid HX1.out.2.2.2.2
  have nk := hnp.kind
  have ngl := hnp.lt
  obtain ⟨kk, hkk⟩ : ∃ kk, r.nd.kind = kk := ⟨_, rfl⟩
  rw [hkk] at nk hR4
  have HKK := Lib.hid hkk
  have HGET := Lib.hid hget
  have HR4 := Lib.hid hR4
  have hrid := findN_id HX1.out.2.2.2.2
  have HRID := Lib.hid hrid
  clear hnp hget hkk hR4 h6 hrid
  go_wp2_with fail
  refine HGET.out.mono ?_
  rintro e w10 ⟨rfl, rfl⟩
  go_upto_region 19 with fail
  go_cut [86] (fun u wx => u = .bool (decide (kk = 2 ∧ st.within d2 n1 = true)) ∧ w9 = wx)
  case first =>
    as_aux_lemma =>
      by_cases hk2 : kk = 2
      · subst hk2
        obtain ⟨wb, hwb⟩ : ∃ wb, st.within d2 n1 = wb := ⟨_, rfl⟩
        have HWB := Lib.hid hwb
        have HDEC : Hid (decide ((2 : Int) = 2 ∧ st.within d2 n1 = true) = wb) := Lib.hid (by rw [hwb]; cases wb <;> rfl)
        clear hwb
        go_wp2_with fail
        refine (dwithin_any HD9.out (by have := HN.out.1; omega) d2 n1).mono ?_
        rw [HWB.out]
        rintro e w10 ⟨rfl, rfl⟩
        go_wp2_with fail
        go_meet
        case rel => exact ⟨by rw [HDEC.out], rfl⟩
      · have hkb : (kk == 2) = false := by rw [beq_eq_false_iff_ne]; exact hk2
        have HDEC : Hid (decide (kk = 2 ∧ st.within d2 n1 = true) = false) := Lib.hid (decide_eq_false fun hh => hk2 hh.1)
        clear hk2
        go_wp2_with fail
        go_meet
        case rel => exact ⟨by rw [HDEC.out], rfl⟩
  case rest =>
  obtain ⟨rfl, rfl⟩ := hcut
  have hR5 := HR4.out
  rw [HRID.out] at hR5
  obtain ⟨wi, hwi⟩ : ∃ wi, decide (kk = 2 ∧ st.within d2 n1 = true) = wi := ⟨_, rfl⟩
  rw [hwi]
  have HDEC := Lib.hid hwi
  clear hwi
  cases wi with
  | true =>
    as_aux_lemma =>
    rw [if_pos (of_decide_eq_true HDEC.out)] at hR5
    have HRF := Lib.hid hR5.symm
    clear hR5 HDEC
    go_wp2
    first | go_ret2 | skip
    rw [← HP.out]
    unfold DUnlR
    rw [HRF.out]
    exact ⟨by first | rfl | done, MO.still HM0.out HB9.out⟩
  | false =>
  rw [if_neg (of_decide_eq_false HDEC.out)] at hR5
  have hwn : kk = 2 → st.within d2 n1 = false := fun hk => by
    have := of_decide_eq_false HDEC.out
    cases hh : st.within d2 n1 with
    | false => rfl
    | true => exact absurd ⟨hk, hh⟩ this
  have HWN := Lib.hid hwn
  obtain ⟨ps, hps⟩ : ∃ ps, (parseP t).2.slash = ps := ⟨_, rfl⟩
  rw [hps] at q1 hR5
  obtain ⟨rc, hrc⟩ : ∃ rc, renC st ⟨d2, n2, nm2⟩ ps r.nd = rc := ⟨_, rfl⟩
  rw [hrc] at hR5
  have HRC := Lib.hid hrc
  have HR5 := Lib.hid hR5
  obtain ⟨x2, hx1, hx2, hx3⟩ := (lastP_ok HL2.out).at'
  simp only at hx1 hx3
  have hX2 : (n2 = 0 ∧ entOf x2.ents nm2 = none) ∨ ∃ en2 r2, entOf x2.ents nm2 = some en2 ∧ en2.node = n2 ∧ n2 ≠ 0 ∧ st.get n2 = some r2 := by
    rcases hx3 with h | ⟨e, he1, he2, _⟩
    · exact .inl h
    · obtain ⟨y, h5, _, h6, _⟩ := entry_node HF.out.toGood hx1 he1
      rw [he2] at h5 h6
      exact .inr ⟨e, y, he1, he2, by omega, h5⟩
  have HX2 := Lib.hid (And.intro hx1 (And.intro hx2 hX2))
  clear hR5 hwn hps hrc hx1 hx2 hx3 hX2 nk
  go_upto_region 21 with fail
  go_cut [19] (fun u wx => u = .int .i64 rc ∧ Hid (Below w9.heap.size w9 wx))
  case first =>
    as_aux_lemma =>
      rcases HX2.out.2.2 with ⟨h, _⟩ | ⟨en2, r2, _, _, h, hr2⟩
      · subst h
        have HZ : Hid ((if ps = true ∧ kk ≠ 2 then (111 : Int) else 0) = rc) := Lib.hid (by
          rw [← HRC.out]
          unfold renC
          simp only
          rw [HF.out.toGood.no (k := 0) (.inr (by omega)), HKK.out]
          cases ps
          · rfl
          · by_cases hk : kk = 2
            · subst hk; rfl
            · rw [if_pos ⟨rfl, hk⟩]
              simp [hk])
        go_wp2_with fail
        refine (donto_zero HD9.out d2 nm2 kk ps).mono ?_
        rw [HZ.out]
        rintro e w10 ⟨rfl, hb10⟩
        have HB10 := Lib.hid hb10
        clear hb10
        go_wp2_with fail
        go_meet
        case rel => exact ⟨rfl, HB10⟩
      · have HZ : Hid (ontoM kk r2 = rc) := Lib.hid (by rw [← HRC.out, ← HKK.out]; exact onto_ren hr2 ps)
        have HR2 := Lib.hid (And.intro h hr2)
        clear h hr2
        go_wp2_with fail
        refine (donto_some HD9.out (by have := HN.out.1; omega) HR2.out.1 HR2.out.2 d2 nm2 kk ps).mono ?_
        rw [HZ.out]
        rintro e w10 ⟨rfl, hb10⟩
        have HB10 := Lib.hid hb10
        clear hb10
        go_wp2_with fail
        go_meet
        case rel => exact ⟨rfl, HB10⟩
  case rest =>
  obtain ⟨rfl, HBX⟩ := hcut
  have hR6 := HR5.out
  by_cases hrc0 : rc = 0
  case neg =>
    as_aux_lemma =>
    have hcb : (rc != 0) = true := by rw [bne_iff_ne]; exact hrc0
    rw [if_pos hrc0] at hR6
    have HRF := Lib.hid hR6.symm
    clear hrc0
    clear hR6
    go_wp2
    first | go_ret2 | skip
    rw [← HP.out]
    unfold DUnlR
    rw [HRF.out]
    exact ⟨by first | rfl | done, MO.still HM0.out (bl_trans HB9.out HBX.out)⟩
  subst hrc0
  rw [if_neg (by decide)] at hR6
  have HRF := Lib.hid hR6.symm
  obtain ⟨wb, rfl⟩ : ∃ wb, wb = wc := ⟨_, rfl⟩
  have HMB : Hid (MW B T wb m st) := Lib.hid (HM9.out.below HBX.out)
  have HABb := Lib.hid (And.intro (HAB.out.1.below HBX.out) (HAB.out.2.below HBX.out))
  obtain ⟨so, hso⟩ : ∃ so, ousted st ⟨d2, n2, nm2⟩ = so := ⟨_, rfl⟩
  have HSO := Lib.hid hso
  have hof := ousted_full HF.out (lastP_ok HL2.out) (fun mm hm hk => by
    have hc := HRC.out
    unfold renC at hc
    rw [hm] at hc
    simp only at hc
    unfold ontoC at hc
    by_cases hr2 : r.nd.kind = 2
    · rw [if_neg (fun h => h.2 hk), if_neg (fun h => h.1 hr2)] at hc
      cases hb : st.full mm.nd.id with
      | false => rfl
      | true => rw [if_pos ⟨hk, hb⟩] at hc; exact absurd hc (by decide)
    · rw [if_neg (fun h => hr2 h.1), if_pos ⟨hr2, hk⟩] at hc
      exact absurd hc (by decide))
  rw [hso] at hof
  have HOF := Lib.hid hof
  have a0 := HABb.out.1.cell' (i := 0) rfl
  have a1 := HABb.out.1.cell' (i := 1) rfl
  have a2 := HABb.out.1.cell' (i := 2) rfl
  have al := HABb.out.1.lt
  have b0 := HABb.out.2.cell' (i := 0) rfl
  have b1 := HABb.out.2.cell' (i := 1) rfl
  have b2 := HABb.out.2.cell' (i := 2) rfl
  have bl := HABb.out.2.lt
  clear hR6 hso hof q1 ql ngl
  obtain ⟨nb, hnb⟩ : ∃ nb, (n2 != 0) = nb := ⟨_, rfl⟩
  have HNB := Lib.hid hnb
  go_upto_if 98 with fail
  go_cut [20, 21] (fun _ _ wx => Hid (MO B T m so wb wx))
  case first =>
    as_aux_lemma =>
      rcases HX2.out.2.2 with ⟨h0, _⟩ | ⟨en2, r2, hen2, hen3, h0, hr2⟩
      · have hnf : nb = false := by rw [← HNB.out, h0]; rfl
        have HEQ : Hid (st = so) := Lib.hid (by
          rw [← HSO.out]
          unfold ousted
          simp only
          rw [h0, HF.out.toGood.no (k := 0) (.inr (by omega))])
        subst hnf
        clear h0
        go_wp2_with fail
        go_meet
        case rel => exact Lib.hid ((MO.still HMB.out (Below.refl _ _)).st_eq HEQ.out)
      · have hnf : nb = true := by rw [← HNB.out]; rw [bne_iff_ne]; exact h0
        subst hnf
        have HDEL := Lib.hid (mdel_st HMB.out HF.out.tidy HX2.out.1 nm2 hen2)
        have t1 := HF.out.tidy.delE d2 nm2
        obtain ⟨r2', g1, g2, _⟩ := get_delE_of (d := d2) (n := nm2) hr2
        have hcnt := HF.out.cnt n2 r2 hr2
        have hpos := names_pos (s := st) (findN_mem HX2.out.1) (entOf_mem hen2)
        rw [hen3] at hpos
        have hval := valid_lk (HF.out.val r2 (findN_mem hr2))
        have hid2 := findN_id hr2
        obtain ⟨lk, hlk⟩ : ∃ lk, r2.nd.links = lk := ⟨_, rfl⟩
        have hl1 : 1 ≤ lk ∧ lk ≤ 16 := by rw [← hlk]; omega
        obtain ⟨k2, hk2⟩ : ∃ k2, r2.nd.kind = k2 := ⟨_, rfl⟩
        have HQ := Lib.hid (And.intro t1 (And.intro g1 (And.intro g2 (And.intro hr2 (And.intro hlk (And.intro hk2 hid2))))))
        clear t1 g1 g2 hcnt hpos hval hlk hk2 hr2 hen2 hen3 h0 hid2
        go_wp2_with fail
        refine HDEL.out.mono ?_
        rintro e w11 ⟨rfl, hm1⟩
        have HM1 := Lib.hid hm1
        obtain ⟨g, o, hnp, hget⟩ := mget_st hm1.1 HQ.out.1.toTid HQ.out.2.1
        have cl := hnp.links
        have ck := hnp.kind
        rw [HQ.out.2.2.1, HQ.out.2.2.2.2.1] at cl
        rw [HQ.out.2.2.1, HQ.out.2.2.2.2.2.1] at ck
        have fl := hnp.froz (o + 2)
        have gl := hnp.lt
        have hgB : ¬ g = B0 := by
          rintro rfl
          rcases hnp.tg with h | h
          · exact HT.out.2 h
          · omega
        have rB11 := HABb.out.2.touch hm1.2 HT.out.2
        have x1c := rB11.cell' (i := 1) rfl
        have xl := rB11.lt
        have HGET := Lib.hid hget
        have HNP := Lib.hid hnp
        clear hm1 hget hnp rB11 b0 b1 b2 a0 a1 a2 al bl
        go_wp2_with fail
        refine HGET.out.mono ?_
        rintro e w12 ⟨rfl, rfl⟩
        have HMS := Lib.hid (MO.trans HM1.out (HNP.out.setL (lk - 1)))
        have HT2 := Lib.hid (HQ.out.1.put HQ.out.2.1 (n := setLinks r2'.nd (lk - 1)) rfl rfl)
        have hg2 : ((st.delE d2 nm2).put (setLinks r2'.nd (lk - 1))).get n2 = some ⟨setLinks r2'.nd (lk - 1), keepE (setLinks r2'.nd (lk - 1)) ((st.delE d2 nm2).get (setLinks r2'.nd (lk - 1)).id)⟩ := by
          rw [get_put HQ.out.1.rise, if_pos]
          show n2 = r2'.nd.id
          rw [HQ.out.2.2.1, HQ.out.2.2.2.2.2.2]
        have HG2 := Lib.hid hg2
        clear hg2
        by_cases hkk2 : k2 = 2
        · have hkb : (k2 == 2) = true := by rw [beq_iff_eq]; exact hkk2
          have HEQ : Hid (((st.delE d2 nm2).put (setLinks r2'.nd (lk - 1))).drop n2 = so) := Lib.hid (by
            rw [put_drop HQ.out.1.toTid HQ.out.2.1, ← HSO.out]
            unfold ousted
            simp only
            rw [HQ.out.2.2.2.1]
            simp only
            rw [if_pos (by rw [HQ.out.2.2.2.2.2.1]; exact hkk2), HQ.out.2.2.2.2.2.2])
          clear hkk2
          go_wp2_with fail
          refine (mgone_st HMS.out.1 HT2.out.toTid HG2.out).mono ?_
          rintro e w13 ⟨rfl, hm3⟩
          have HM3 := Lib.hid (MO.trans HMS.out hm3)
          clear hm3
          go_wp2_with fail
          go_meet
          case rel => exact Lib.hid (HM3.out.st_eq HEQ.out)
        · have hkb : (k2 == 2) = false := by rw [beq_eq_false_iff_ne]; exact hkk2
          have HEQ : Hid ((st.delE d2 nm2).put (setLinks r2'.nd (lk - 1)) = so) := Lib.hid (by
            rw [← HSO.out]
            unfold ousted
            simp only
            rw [HQ.out.2.2.2.1]
            simp only
            rw [if_neg (by rw [HQ.out.2.2.2.2.2.1]; exact hkk2), HQ.out.2.2.1, HQ.out.2.2.2.2.1, show max (lk - 1) 0 = lk - 1 by omega])
          clear hkk2
          go_wp2_with fail
          go_meet
          case rel => exact Lib.hid (HMS.out.st_eq HEQ.out)
  case rest =>
  as_aux_lemma =>
  have HO := hcut
  clear hcut
  obtain ⟨x1', y1, y2, y3⟩ := HOF.out.2.2.1 d1 x1 nm1 en1 HX1.out.1 HX1.out.2.1 HX1.out.2.2.1 (by simp only; rw [HX1.out.2.2.2.1]; exact HN12.out)
  obtain ⟨z, hz1, hz2, hz3⟩ := HOF.out.2.1
  obtain ⟨nr, hnr1, hnr2⟩ := HOF.out.2.2.2 n1 r HX1.out.2.2.2.2 HN12.out
  simp only at hz1 hz3
  have F := HOF.out.1
  have t1 := F.tidy.delE d1 nm1
  obtain ⟨z2, z3, z4, z5, z6⟩ := get_delE_of (d := d1) (n := nm1) hz1
  obtain ⟨nr2, n3, n4, _⟩ := get_delE_of (d := d1) (n := nm1) hnr1
  have hno : entOf z2.ents nm2 = none := by
    by_cases hdd : d2 = d1
    · rw [z6 hdd, entOf_cutE]
      split
      · rfl
      · exact hz3
    · rw [z5 hdd]
      exact hz3
  have hz2k : z2.nd.kind = 2 := by rw [z4]; exact hz2
  have hn4 : nr2.nd = r.nd := by rw [n4, hnr2]
  have t2 : Tid ((so.delE d1 nm1).addE d2 ⟨nm2, n1, kk⟩) := t1.toTid.addE z3 hz2k _
  have rA1 := HABb.out.1.touch HO.out.2 HT.out.1
  have rB1 := HABb.out.2.touch HO.out.2 HT.out.2
  have a0 := rA1.cell' (i := 0) rfl
  have a2 := rA1.cell' (i := 2) rfl
  have al := rA1.lt
  have HDEL := Lib.hid (mdel_st HO.out.1 F.tidy y1 nm1 y3)
  have HQ := Lib.hid (And.intro t1 (And.intro z3 (And.intro hno (And.intro n3 (And.intro hn4 (And.intro t2 hz2k))))))
  have hin : n1 = d2 → kk ≠ 2 := fun hnd hk => by
    have h1 := HWN.out hk
    rw [← hnd] at h1
    unfold St.within at h1
    rw [show st.ns.length + 1 = Nat.succ st.ns.length from rfl] at h1
    unfold withinK at h1
    rw [HX1.out.2.2.2.2] at h1
    simp only at h1
    rw [if_neg (by rw [HKK.out, hk]; decide)] at h1
    simp at h1
  have HIN := Lib.hid hin
  have hszb := HO.out.2.size
  clear y1 y2 y3 hz1 hz2 hz3 hnr1 hnr2 F t1 z3 z4 z5 z6 n3 n4 hno hz2k hn4 t2 rA1 rB1 hin b0 b1 b2 bl a1
  go_wp2_with fail
  refine HDEL.out.mono ?_
  rintro e w11 ⟨rfl, hm1⟩
  have HM1 := Lib.hid (MO.trans HO.out hm1)
  clear hm1 a0 a2 al
  have rA2 := HABb.out.1.touch HM1.out.2 HT.out.1
  have rB2 := HABb.out.2.touch HM1.out.2 HT.out.2
  have a1 := rA2.cell' (i := 1) rfl
  have al := rA2.lt
  have b0 := rB2.cell' (i := 0) rfl
  have b2 := rB2.cell' (i := 2) rfl
  have bl := rB2.lt
  have HADD := Lib.hid (madd_st HM1.out.1 HQ.out.1 HQ.out.2.1 ⟨nm2, n1, kk⟩ HQ.out.2.2.1)
  clear rA2 rB2
  go_wp2_with fail
  refine HADD.out.mono ?_
  rintro e w12 ⟨rfl, hm2⟩
  have HM2 := Lib.hid (MO.trans HM1.out hm2)
  clear hm2 a1 al b0 b2 bl
  have rA3 := HABb.out.1.touch HM2.out.2 HT.out.1
  have rB3 := HABb.out.2.touch HM2.out.2 HT.out.2
  have a1 := rA3.cell' (i := 1) rfl
  have al := rA3.lt
  have b0 := rB3.cell' (i := 0) rfl
  have b1 := rB3.cell' (i := 1) rfl
  have bl := rB3.lt
  have HRB3 := Lib.hid rB3
  clear rA3 rB3
  by_cases hk2 : kk = 2
  · have hkb : (kk == 2) = true := by rw [beq_iff_eq]; exact hk2
    have hne : n1 ≠ d2 := fun e => HIN.out e hk2
    obtain ⟨hpa1, hpa2⟩ := par_add HQ.out.1.toTid HQ.out.2.2.2.1 HQ.out.2.1 hne (by rw [HQ.out.2.2.2.2.1, HKK.out]; exact hk2) d2 ⟨nm2, n1, kk⟩
    obtain ⟨g, o, hnp, hget⟩ := mget_st HM2.out.1 HQ.out.2.2.2.2.2.1 hpa2
    have cp := hnp.parent
    have fp := hnp.froz (o + 5)
    have gl := hnp.lt
    have hgB : ¬ g = B0 := by
      rintro rfl
      rcases hnp.tg with h | h
      · exact HT.out.2 h
      · have := HABb.out.2.lt; omega
    have HGET := Lib.hid hget
    have HNP := Lib.hid (hnp.setP d2)
    have HEQ : Hid (((so.delE d1 nm1).addE d2 ⟨nm2, n1, kk⟩).put (setPar nr2.nd d2) = R.2.2) := Lib.hid (by
      rw [hpa1, HRF.out]
      simp only
      unfold moveS
      rw [HSO.out, HQ.out.2.2.2.2.1, if_pos (by rw [HKK.out]; exact hk2), HRID.out, HKK.out])
    clear hk2 hne hpa1 hpa2 hget hnp
    go_wp2_with fail
    refine HGET.out.mono ?_
    rintro e w13 ⟨rfl, rfl⟩
    go_wp2
    first | go_ret2 | skip
    rw [← HP.out]
    unfold DUnlR
    refine ⟨by rw [HRF.out]; first | done | rfl, ?_⟩
    exact MO.pre HM0.out (bl_trans HB9.out HBX.out) ((MO.trans HM2.out HNP.out).st_eq HEQ.out)
  · have hkb : (kk == 2) = false := by rw [beq_eq_false_iff_ne]; exact hk2
    have HEQ : Hid ((so.delE d1 nm1).addE d2 ⟨nm2, n1, kk⟩ = R.2.2) := Lib.hid (by
      rw [HRF.out]
      simp only
      unfold moveS
      rw [HSO.out, if_neg (by rw [HKK.out]; exact hk2), HRID.out, HKK.out])
    clear hk2
    go_wp2
    first | go_ret2 | skip
    rw [← HP.out]
    unfold DUnlR
    refine ⟨by rw [HRF.out]; first | done | rfl, ?_⟩
    exact MO.pre HM0.out (bl_trans HB9.out HBX.out) (HM2.out.st_eq HEQ.out)
end
end Go.Proofs.YtnkcbogikaebfaaGreatDoor
end
