/- Merged texts: VolLayW VolWrite VolRead VolCreA VolCreate VolOpenC. -/
import Derived.Test.YtjekpbkmhgfhoaaGreatDoorGBase41
import Derived.Deep.RegionHeld3
import Derived.Deep.DeepCutAuto
import Derived.Deep.CutBlock
section
/- The walk of vol's lay. -/
namespace Go.Proofs.YtjekpbkmhgfhoaaGreatDoor
open Go Go.RowKit
set_option maxRecDepth 100000
set_option linter.unusedSimpArgs false
set_option linter.unusedVariables false
attribute [local go_sem] giv
variable {E : Nat → Addr} {B : Nat}
section
variable {L : Nat → Prop} {p : VP} {s : V} {w w' : World}
theorem slIn_buf {h cap : Nat} {l : List Int} (b : Buf w h 5 cap (l.map (Value.int .u8))) : SlIn w (some ⟨h, 0, none⟩) l := fun h0 => ⟨_, rfl, fun j v hj => by
  have ha : (⟨h, 0, none⟩ : Addr).add j = ⟨h, j, none⟩ := by unfold Addr.add; split <;> simp_all
  rw [ha]
  refine ⟨?_, b.lt⟩
  obtain ⟨cur, h1, h2, h3⟩ := b
  have hl := (List.getElem?_eq_some_iff.1 hj).1
  rw [← h3] at hj
  rw [List.getElem?_take, List.length_map] at hj
  rw [if_pos (by simpa using hl)] at hj
  simp only [World.cell?, h1]
  rw [← Array.getElem?_toList]
  exact hj⟩
theorem lay_arith {i f m nb a capk pos N M j : Nat} (h1 : f + m ≤ 256) (h2 : 1 ≤ m) (h3 : m ≤ nb) (h4 : a = i * 256 + f) (h5 : nb ≤ capk) (h6 : capk ≤ maxLen) (h7 : a + nb = pos + N) (h8 : j < M) :
    (i : Int) * 256 + ((f : Int) + (m : Int)) = ((a + m : Nat) : Int) ∧ nb - m ≤ capk - m ∧ capk - m ≤ maxLen ∧ j + 1 ≤ M ∧ a + m + (nb - m) = pos + N ∧ M - (j + 1) < M - j := by
  refine ⟨by omega, by omega, Nat.le_trans (Nat.sub_le _ _) h6, by omega, by omega, by omega⟩
/-- What Get answers: nothing of a lost block; else its bytes, new. -/
def OldR (E : Nat → Addr) (w : World) (gv ge : Value) (o : FBlk) : Prop := (o = some none ∧ gv = .slice none 0 0 ∧ ge = errV E 5) ∨ (o ≠ some none ∧ ge = .nilIface ∧ ∃ h cap, gv = .slice (some ⟨h, 0, none⟩) 256 cap ∧ Buf w h 5 cap ((bytesOf o).map (Value.int .u8)))
set_option maxHeartbeats 8000000 in
theorem vlay_any (h : VAt E B L p s w) {fd : Nat} {x : Hdl} {r : NR} (hx : s.fs fd = some x) (hr : s.st.get x.node = some r) (hk : r.nd.kind = 1) {b : List Int} (hb : b ≠ []) (hlen : x.pos + b.length ≤ 16384)
    {lv : Value} (hps : PcK B L w lv (spanP x.pos.toNat b.length)) {sp : Option Addr} {cap : Nat} (hsl : SlK B L w sp b) (hcap : b.length ≤ cap) (hcap2 : cap ≤ maxLen) :
    Calls Tryz.prog 33 #[.pointer (some ⟨p.v, 0, none⟩), .int .i64 fd, encN r.nd, lv, .slice sp b.length cap] w fun e w' => e = .returned .nilIface ∧ VAt E B L p (laidV s fd x r.nd b) w' ∧ KV B L NoB w w' := by
  generalize hP : (fun (e : Ending) (w' : World) => e = .returned .nilIface ∧ VAt E B L p (laidV s fd x r.nd b) w' ∧ KV B L NoB w w') = Post
  have HP := Lib.hid hP
  obtain ⟨hfd, hp0, hp1, _⟩ := h.wf.fs fd x hx
  have hid := findN_id hr
  have hvid := valid_ids (h.wf.full.val r (findN_mem hr))
  have hvsz := valid_size (h.wf.full.val r (findN_mem hr))
  obtain ⟨pos, hpos⟩ : ∃ pos : Nat, x.pos = pos := ⟨x.pos.toNat, by omega⟩
  obtain ⟨C, hC⟩ : ∃ C, w.heap.size = C := ⟨_, rfl⟩
  obtain ⟨id, hide⟩ : ∃ id, x.node = id := ⟨_, rfl⟩
  obtain ⟨L1, hL1⟩ : ∃ L1 : Nat → Prop, L1 = fun y => y = C ∨ L y := ⟨_, rfl⟩
  have HL1 : Hid (L1 C ∧ (∀ y, L y → L1 y)) := Lib.hid (by rw [hL1]; exact ⟨.inl rfl, fun y hy => .inr hy⟩)
  rw [hpos, Int.toNat_natCast] at hps
  have hps2 := hps
  obtain ⟨lh, lo, lcap, rfl, -⟩ := hps2
  obtain ⟨rn, hrn⟩ : ∃ rn, r.nd = rn := ⟨_, rfl⟩
  rw [hrn] at hid hk hvsz ⊢
  rw [hide] at hid hr
  obtain ⟨q1, q2, q3, q4, q5, q6⟩ := rn
  simp only at hid hk hvsz
  subst hid
  obtain ⟨w1, hw1⟩ : ∃ w1, w1 = w.alloc (.cells #[.int .i64 q1, .int .i64 q2, .int .i64 q3, .int .i64 q4, .string q5, .int .i64 q6] 59) := ⟨_, rfl⟩
  have hb1 : Below w.heap.size w w1 := by rw [hw1]; exact bl_alloc (Below.refl _ _) _
  have hz1 : w1.heap.size = C + 1 := by rw [hw1]; simp [hC]
  have R1 : Hid (Row w1 C 59 [.int .i64 q1, .int .i64 q2, .int .i64 q3, .int .i64 q4, .string q5, .int .i64 q6]) := Lib.hid (by rw [hw1, ← hC]; exact Row.new _ _ _)
  have H1 : Hid (VAt E B L1 p s w1) := Lib.hid (h.loc hb1 (fun y hy => by
    rw [hL1] at hy
    rcases hy with hy | hy
    · right; omega
    · exact .inl hy) HL1.out.2)
  have PS1 := Lib.hid ((hps.kv (KV.of_below hb1)).more HL1.out.2)
  have SL1 := Lib.hid ((hsl.kv (KV.of_below hb1)).more HL1.out.2)
  have HBC : Hid (B ≤ C) := Lib.hid (by rw [← hC]; exact h.hB)
  have HB1 := Lib.hid hb1
  have HW1 := Lib.hid hw1
  have HC := Lib.hid hC
  have HX := Lib.hid hx
  have HR := Lib.hid hr
  have HRN := Lib.hid hrn
  have HPOS := Lib.hid hpos
  have HIDE := Lib.hid hide
  obtain ⟨N, hN⟩ : ∃ N, b.length = N := ⟨_, rfl⟩
  have HN := Lib.hid hN
  obtain ⟨ps, hpse⟩ : ∃ ps, spanP pos N = ps := ⟨_, rfl⟩
  have HPS := Lib.hid hpse
  obtain ⟨M, hM⟩ : ∃ M, ps.length = M := ⟨_, rfl⟩
  have HM := Lib.hid hM
  have hpl := spanP_len N pos
  have HNUM : Hid (pos + N ≤ 16384 ∧ N ≤ cap ∧ cap ≤ maxLen ∧ M ≤ N ∧ fd < 16 ∧ 1 ≤ q1 ∧ q1 ≤ 16777215 ∧ 0 ≤ q4 ∧ q4 ≤ 16384 ∧ q2 = 1 ∧ 0 < N) := Lib.hid ⟨by omega, by omega, hcap2, by rw [← hM, ← hpse]; exact hpl, hfd, by rw [hrn] at hvid; exact hvid.1, by rw [hrn] at hvid; exact hvid.2, hvsz.1, hvsz.2, hk, by rw [← hN]; exact List.length_pos_iff.2 hb⟩
  rw [hN, hpse] at PS1
  rw [hN, hpse, hM]
  clear hP h hx hr hk hb hlen hps hsl hcap hcap2 hfd hp0 hp1 hvid hvsz hpos hC hide hL1 hrn hw1 hb1 hz1 hN hpse hM hpl
  go_enter Tryz.func33, Tryz.ntmps33
  simp only [encN]
  go_wp2_with fail
  rw [← HW1.out]
  simp only [HC.out]
  go_loopw [4, 11, 13, 14, 15, 16, 17, 21] (fun v4 v11 _ _ _ _ _ v21 wr => ∃ (j a : Nat) (bk : List Int) (g : Nat → FBlk) (capk : Nat) (spk : Option Addr) (e11 : Int), v21 = .int .i64 j ∧ v4 = .slice spk bk.length capk ∧ v11 = .int .i64 e11 ∧ (0 < j → e11 = a) ∧ SlK B L1 wr spk bk ∧ bk.length ≤ capk ∧ capk ≤ maxLen ∧
    spanP a bk.length = ps.drop j ∧ j ≤ M ∧ layAt g a bk = layAt (s.g q1) pos b ∧ a + bk.length = pos + N ∧ (∀ i, g i ≠ none → i < 64) ∧ Wf g ∧ VAt E B L1 p (gOf s q1 g) wr ∧ KV B L1 NoB w1 wr) (fun _ _ _ _ _ _ _ v21 _ => M - (intOf v21).toNat)
  case atStart => exact ⟨0, pos, b, s.g q1, cap, sp, 0, rfl, by rw [HN.out], rfl, fun h => absurd h (by decide), SL1.out, by rw [HN.out]; exact HNUM.out.2.1, HNUM.out.2.2.1, by rw [HN.out, HPS.out]; rfl, Nat.zero_le _, rfl, by rw [HN.out], fun i hi => (H1.out.wf.blk q1 i hi).1, H1.out.wf.wf q1, by rw [gOf_self]; exact H1.out, KV.refl _ _ _ _⟩
  case round =>
    obtain ⟨j, a, bk, g, capk, spk, e11, rfl, rfl, rfl, he11, hsl, hcap, hcap2, hsp, hj, hlay, hab, hg, hw, hv, hkv⟩ := hrel
    have HSL := Lib.hid hsl
    have HE11 := Lib.hid he11
    have HCAP := Lib.hid (And.intro hcap hcap2)
    have HSP := Lib.hid hsp
    have HJ := Lib.hid hj
    have HLAY := Lib.hid hlay
    have HAB := Lib.hid hab
    have HG := Lib.hid (And.intro hg hw)
    have HV := Lib.hid hv
    have HKV := Lib.hid hkv
    clear hsl hcap hcap2 hsp hj hlay hab hg hw hv hkv he11
    by_cases hjm : j < M
    case neg =>
      have hbn : bk = [] := by
        have h1 := HSP.out
        have hj2 : j = M := by have := HJ.out; omega
        rw [hj2, ← HM.out, List.drop_length] at h1
        rcases Nat.eq_zero_or_pos bk.length with h0 | h0
        · exact List.eq_nil_of_length_eq_zero h0
        · rw [spanP_cons a h0] at h1
          cases h1
      subst hbn
      have hg2 : layAt (s.g q1) pos b = g := HLAY.out.symm
      have ha2 : a = pos + N := HAB.out
      have hj0 : 0 < j := by
        have h1 := HNUM.out.2.2.2.2.2.2.2.2.2.2
        have h2 : j = M := by have := HJ.out; omega
        rw [h2, ← HM.out, ← HPS.out, spanP_cons pos h1]
        simp
      have hee : e11 = ((pos + N : Nat) : Int) := by rw [HE11.out hj0, ha2]
      subst hee
      have hjm2 : ¬ ((j : Int) < (M : Int)) := by omega
      have HG2 := Lib.hid hg2
      clear hg2 ha2 hj0
      have rn := R1.out.kv (plainI _ _) HKV.out
      have z3 := rn.cell' (i := 3) rfl
      have zf := fun i => rn.froz i
      have zl := rn.lt
      have RN := Lib.hid rn
      clear rn
      obtain ⟨z, hz⟩ : ∃ z : Int, max q4 ((pos + N : Nat) : Int) = z := ⟨_, rfl⟩
      have hz2 : max q4 ((pos : Int) + (N : Int)) = z := by rw [← hz]; rfl
      obtain ⟨w7, hw7⟩ : ∃ w7, w7 = wr.setCell ⟨C, 3, none⟩ (.int .i64 z) := ⟨_, rfl⟩
      have HW7 := Lib.hid hw7
      have V7 : Hid (VAt E B L1 p (gOf s q1 g) w7) := Lib.hid (by rw [hw7]; exact HV.out.set HL1.out.1 HBC.out 3 _)
      have R7 : Hid (Row w7 C 59 [.int .i64 q1, .int .i64 q2, .int .i64 q3, .int .i64 z, .string q5, .int .i64 q6]) := Lib.hid (by rw [hw7]; exact RN.out.set 3 _)
      have HZ := Lib.hid hz
      clear hw7 hz
      go_wp2_with fail
      rw [← HW7.out]
      clear z3 zf zl
      have hq64 : In64 q1 := in64_of (by have := HNUM.out; omega) (by have := HNUM.out; omega)
      have hgetr : (gOf s q1 g).st.get q1 = some r := HR.out
      have HPUT : Hid (∀ w', VAt E B L1 p (gOf s q1 g) w' → Calls Tryz.prog 65 #[.pointer (some ⟨p.t, 0, none⟩), .agg #[.int .i64 q1, .int .i64 q2, .int .i64 q3, .int .i64 z, .string q5, .int .i64 q6]] w' fun e w'' => e = .returned .nilIface ∧ VAt E B L1 p { gOf s q1 g with st := s.st.put (sized r.nd z) } w'' ∧ KV B L1 NoB w' w'') := Lib.hid fun w' hv => by
        have n1 := HNUM.out
        have hzb : 0 ≤ z ∧ z ≤ 16384 := by rw [← HZ.out]; omega
        have hk1 : r.nd.kind = 1 := by rw [HRN.out]; exact n1.2.2.2.2.2.2.2.2.2.1
        have := va_size hv hgetr hk1 hzb.1 hzb.2 (VWf.laid (s := s) H1.out.wf HR.out hk1 hzb.1 hzb.2 HG.out.1 HG.out.2 (fs' := s.fs) (fun fd' h' hh => ⟨(H1.out.wf.fs fd' h' hh).1, (H1.out.wf.fs fd' h' hh).2.1, (H1.out.wf.fs fd' h' hh).2.2.1, h', hh, rfl⟩))
        rw [HRN.out] at this ⊢
        exact this
      have HKP : Hid (∀ w', (VAt E B L1 p (gOf s q1 g) w' ∨ VAt E B L1 p { gOf s q1 g with st := s.st.put (sized r.nd z) } w') → KV B L1 NoB w7 w' → w'.cell? ⟨p.v, 0, none⟩ = some (.pointer (some ⟨p.a, 0, none⟩)) ∧ w'.cell? ⟨p.a, 0, none⟩ = some (.pointer (some ⟨p.b, 0, none⟩)) ∧ w'.cell? ⟨p.b, 0, none⟩ = some (.pointer (some ⟨p.t, 0, none⟩)) ∧
          w'.cell? ⟨C, 0, none⟩ = some (.int .i64 q1) ∧ w'.cell? ⟨C, 1, none⟩ = some (.int .i64 q2) ∧ w'.cell? ⟨C, 2, none⟩ = some (.int .i64 q3) ∧ w'.cell? ⟨C, 3, none⟩ = some (.int .i64 z) ∧ w'.cell? ⟨C, 4, none⟩ = some (.string q5) ∧ w'.cell? ⟨C, 5, none⟩ = some (.int .i64 q6)) := Lib.hid fun w' hv hk => by
        have hc : VC p w' := by
          rcases hv with hv | hv
          · exact hv.vc
          · exact hv.vc
        obtain ⟨c0, c1, c2, t0, t1⟩ := hc
        have r := R7.out.kv (plainI _ _) hk
        exact ⟨c0, t0, t1, r.cell' (i := 0) rfl, r.cell' (i := 1) rfl, r.cell' (i := 2) rfl, r.cell' (i := 3) rfl, r.cell' (i := 4) rfl, r.cell' (i := 5) rfl⟩
      go_region_held3 (fun w' => w'.cell? ⟨p.v, 0, none⟩ = some (.pointer (some ⟨p.a, 0, none⟩)) ∧ w'.cell? ⟨p.a, 0, none⟩ = some (.pointer (some ⟨p.b, 0, none⟩)) ∧ w'.cell? ⟨p.b, 0, none⟩ = some (.pointer (some ⟨p.t, 0, none⟩)) ∧
          w'.cell? ⟨C, 0, none⟩ = some (.int .i64 q1) ∧ w'.cell? ⟨C, 1, none⟩ = some (.int .i64 q2) ∧ w'.cell? ⟨C, 2, none⟩ = some (.int .i64 q3) ∧ w'.cell? ⟨C, 3, none⟩ = some (.int .i64 z) ∧ w'.cell? ⟨C, 4, none⟩ = some (.string q5) ∧ w'.cell? ⟨C, 5, none⟩ = some (.int .i64 q6)) (first | exact HKP.out _ (.inl (V7.out.below (Below.refl _ _).drew)) (KV.of_below (Below.refl _ _).drew) | exact HKP.out _ (.inr V8.out) K8.out)
        (first
          | (go_at_call 65; refine (HPUT.out _ (V7.out.below (Below.refl _ _).drew)).mono ?_; rintro e w8 ⟨rfl, hv8, hk8⟩; have V8 := Lib.hid hv8; have K8 := Lib.hid ((KV.of_below (Below.refl w7.heap.size w7).drew).trans hk8); clear hv8 hk8))
      obtain ⟨c0, c1, c2, t0, t1⟩ := V8.out.vc
      have cl := V8.out.cells.2.2.2.2
      go_wp2_with fail
      have hWFF : VWf { ({ gOf s q1 g with st := s.st.put (sized r.nd z) } : V) with fs := fun j => if j = fd then some ⟨x.node, (pos : Int) + (N : Int)⟩ else s.fs j } := by
        have n1 := HNUM.out
        have hzb : 0 ≤ z ∧ z ≤ 16384 := by rw [← HZ.out]; omega
        have hk1 : r.nd.kind = 1 := by rw [HRN.out]; exact n1.2.2.2.2.2.2.2.2.2.1
        refine VWf.laid (s := s) H1.out.wf HR.out hk1 hzb.1 hzb.2 HG.out.1 HG.out.2 (fs' := fun j => if j = fd then some ⟨x.node, (pos : Int) + (N : Int)⟩ else s.fs j) (fun fd' h' hh => ?_)
        split at hh
        · rename_i he
          injection hh with hh
          subst hh
          refine ⟨by omega, ?_, ?_, x, by rw [he]; exact HX.out, rfl⟩
          · show (0 : Int) ≤ (pos : Int) + (N : Int)
            omega
          · show (pos : Int) + (N : Int) ≤ 1099511627776
            omega
        · exact ⟨(H1.out.wf.fs fd' h' hh).1, (H1.out.wf.fs fd' h' hh).2.1, (H1.out.wf.fs fd' h' hh).2.2.1, h', hh, rfl⟩
      have hposb : (pos : Int) + (N : Int) ≤ 16384 := by have := HNUM.out.1; omega
      refine (va_move V8.out HNUM.out.2.2.2.2.1 (x := x) HX.out (q := (pos : Int) + (N : Int)) (by omega) (by omega) hWFF).mono ?_
      rintro e w9 ⟨rfl, hv9, hk9⟩
      have hst : ({ ({ gOf s q1 g with st := s.st.put (sized r.nd z) } : V) with fs := fun j => if j = fd then some ⟨x.node, (pos : Int) + (N : Int)⟩ else s.fs j } : V) = laidV s fd x r.nd b := by
        have hN := HN.out
        rw [laidV_eq (h' := x) HX.out (by rw [HPOS.out]; omega) (by rw [HPOS.out, hN]; exact hposb), HRN.out, HPOS.out, hN, Int.toNat_natCast, HG2.out]
        simp only
        rw [show max q4 ((pos : Int) + (N : Int)) = z from HZ.out]
        rfl
      have V9 := Lib.hid (show VAt E B L1 p (laidV s fd x r.nd b) w9 from hst ▸ hv9)
      have hkr : KV B L NoB w wr := (KV.of_below HB1.out).trans (HKV.out.less HL1.out.2)
      have hk7 : KV B L NoB w w7 := by
        rw [HW7.out]
        exact Touch.setCell hkr (.inr (Nat.le_of_eq HC.out)) _
      have K9 := Lib.hid ((hk7.trans (K8.out.less HL1.out.2)).trans (hk9.less HL1.out.2))
      clear hv9 hk9 hst hkr hk7 hWFF c0 c1 c2 t0 t1 cl
      go_wp2
      rw [← HP.out]
      first
        | exact ⟨rfl, V9.out.less HL1.out.2, K9.out⟩
        | (go_ret; exact ⟨rfl, V9.out.less HL1.out.2, K9.out⟩)
    case pos =>
      obtain ⟨nb, hnb⟩ : ∃ nb, bk.length = nb := ⟨_, rfl⟩
      have HNB := Lib.hid hnb
      have hpos : 0 < nb := by
        rcases Nat.eq_zero_or_pos nb with h0 | h0
        · exfalso
          have h1 := HSP.out
          rw [hnb, h0, spanP_zero] at h1
          have h2 := congrArg List.length h1
          rw [List.length_drop, HM.out] at h2
          simp at h2
          omega
        · exact h0
      have hbk : bk ≠ [] := fun e => by rw [e] at hnb; simp at hnb; omega
      have hm := Nat.mod_lt a (show 256 > 0 by decide)
      obtain ⟨i, hi⟩ : ∃ i, a / 256 = i := ⟨_, rfl⟩
      obtain ⟨f, hf⟩ : ∃ f, a % 256 = f := ⟨_, rfl⟩
      obtain ⟨m, hmm⟩ : ∃ m, min nb (256 - f) = m := ⟨_, rfl⟩
      have hsp := HSP.out
      rw [hnb, spanP_cons a hpos, hi, hf, hmm] at hsp
      have hget : ps[j]? = some (i, f, f + m) := by
        have := congrArg (fun l : List (Nat × Nat × Nat) => l[0]?) hsp
        simp only [List.getElem?_cons_zero, List.getElem?_drop, Nat.add_zero] at this
        exact this.symm
      have hrest : spanP (a + m) (nb - m) = ps.drop (j + 1) := by
        have := congrArg List.tail hsp
        simp only [List.tail_cons, List.tail_drop] at this
        exact this
      have hlay := HLAY.out
      rw [layAt_cons g a hbk, hnb, hi, hf, hmm] at hlay
      obtain ⟨bh, bo, hspk, -⟩ := HSL.out (by rw [hnb]; exact hpos)
      subst hspk
      have HLAY2 := Lib.hid hlay
      have HREST := Lib.hid hrest
      obtain ⟨y0, y1, y2⟩ : wr.cell? ⟨lh, lo + j * 3, none⟩ = some (.int .i64 i) ∧ wr.cell? ⟨lh, lo + j * 3 + 1, none⟩ = some (.int .i64 f) ∧ wr.cell? ⟨lh, lo + j * 3 + 2, none⟩ = some (.int .i64 ((f + m : Nat) : Int)) := by
        obtain ⟨h', o', c', e1, _, _, e4⟩ := PS1.out.kv HKV.out
        injection e1 with e1
        injection e1 with e1
        injection e1 with e1 e2
        subst e1 e2
        exact e4 j _ hget
      have NUM2 : Hid (f + m ≤ 256 ∧ 1 ≤ m ∧ m ≤ nb ∧ i < 64 ∧ a = i * 256 + f ∧ f < 256 ∧ a + nb ≤ 16384) := Lib.hid (by
        have h1 := HAB.out
        have h2 := HNUM.out
        rw [hnb] at h1
        exact ⟨by omega, by omega, by omega, by omega, by omega, by omega, by omega⟩)
      have rn := R1.out.kv (plainI _ _) (KV.less HKV.out (fun _ h => h))
      have z0 := rn.cell' (i := 0) rfl
      have zl := rn.lt
      have RN := Lib.hid rn
      have hjm2 : (j : Int) < (M : Int) := by omega
      clear hsp hget hrest hlay hm hi hf hmm hpos hbk rn
      rw [hnb]
      clear hnb
      obtain ⟨D, hD⟩ : ∃ D, wr.heap.size = D := ⟨_, rfl⟩
      obtain ⟨w2, hw2⟩ : ∃ w2, w2 = (wr.alloc (.cells #[.int .i64 i, .int .i64 f, .int .i64 ((f : Int) + (m : Int))] 74)).alloc (.cells #[.int .i64 q1, .int .i64 i] 77) := ⟨_, rfl⟩
      have hb2 : Below wr.heap.size wr w2 := by rw [hw2]; exact bl_alloc (bl_alloc (Below.refl _ _) _) _
      have RP : Hid (Row w2 D 74 [.int .i64 i, .int .i64 f, .int .i64 ((f : Int) + (m : Int))]) := Lib.hid (by rw [hw2, ← hD]; exact (Row.new _ _ _).alloc _)
      have RC : Hid (Row w2 (D + 1) 77 [.int .i64 q1, .int .i64 i]) := Lib.hid (by
        have r := Row.new (wr.alloc (.cells #[.int .i64 i, .int .i64 f, .int .i64 ((f : Int) + (m : Int))] 74)) 77 [.int .i64 q1, .int .i64 i]
        rw [show (wr.alloc (.cells #[.int .i64 i, .int .i64 f, .int .i64 ((f : Int) + (m : Int))] 74)).heap.size = D + 1 by simp [hD]] at r
        rw [hw2]
        exact r)
      have HW2 := Lib.hid hw2
      have HD := Lib.hid hD
      have V2 := Lib.hid (HV.out.below hb2)
      have K2 := Lib.hid (HKV.out.then hb2)
      have S2 := Lib.hid (HSL.out.below hb2)
      have RN2 := Lib.hid (RN.out.below hb2)
      clear hw2 hD hb2
      go_wp2_with fail
      rw [← HW2.out]
      simp only [HD.out]
      clear y0 y1 y2 z0 zl hjm2
      obtain ⟨c0, c1, c2, t0, t1⟩ := V2.out.vc
      have k0 := RC.out.cell' (i := 0) rfl
      have k1 := RC.out.cell' (i := 1) rfl
      have kl := RC.out.lt
      have HK : Hid (∀ w', Below w2.heap.size w2 w' → w'.cell? ⟨p.v, 1, none⟩ = some (.pointer (some ⟨p.bb, 0, none⟩)) ∧ w'.cell? ⟨D + 1, 0, none⟩ = some (.int .i64 q1) ∧ w'.cell? ⟨D + 1, 1, none⟩ = some (.int .i64 i)) := Lib.hid fun w' hb => by
        obtain ⟨c0, c1, c2, t0, t1⟩ := (V2.out.below hb).vc
        have r := RC.out.below hb
        exact ⟨c1, r.cell' (i := 0) rfl, r.cell' (i := 1) rfl⟩
      have hcase : g i = some none ∨ g i ≠ some none := Classical.em _
      have hi64 := NUM2.out.2.2.2.1
      have hq164 : In64 q1 := in64_of (by have := HNUM.out; omega) (by have := HNUM.out; omega)
      have HGET : Hid (∀ w', Below w2.heap.size w2 w' → Calls Tryz.prog 29 #[.pointer (some ⟨p.bb, 0, none⟩), .agg #[.int .i64 q1, .int .i64 i]] w' fun e w'' => (∃ gv ge, e = .returned (.tuple #[gv, ge]) ∧ Hid (OldR E w'' gv ge (g i))) ∧ Below w'.heap.size w' w'') := Lib.hid fun w' hb => by
        rcases hcase with hlost | hlost
        · refine (va_bget_lost (V2.out.below hb) hq164 hi64 (by rw [gOf_at]; exact hlost)).mono ?_
          rintro e w'' ⟨rfl, hb3⟩
          exact ⟨⟨_, _, rfl, .inl ⟨hlost, rfl, rfl⟩⟩, hb3⟩
        · refine (va_bget (V2.out.below hb) hq164 hi64 (by rw [gOf_at]; exact hlost)).mono ?_
          rintro e w'' ⟨⟨oh, ocap, rfl, ohz, obuf⟩, hb3⟩
          rw [gOf_at] at obuf
          exact ⟨⟨_, _, rfl, .inr ⟨hlost, rfl, oh, ocap, rfl, obuf⟩⟩, hb3⟩
      clear hcase
      go_region_held3 (fun w' => w'.cell? ⟨p.v, 1, none⟩ = some (.pointer (some ⟨p.bb, 0, none⟩)) ∧ w'.cell? ⟨D + 1, 0, none⟩ = some (.int .i64 q1) ∧ w'.cell? ⟨D + 1, 1, none⟩ = some (.int .i64 i)) (first | exact HK.out _ (Below.refl _ _).drew | exact HK.out _ HB3.out)
        (first
          | (go_at_call 29; refine (HGET.out _ (Below.refl _ _).drew).mono ?_; rintro e w3 ⟨⟨gv, ge, rfl, hor⟩, hb3⟩; have HB3 := Lib.hid ((Below.refl w2.heap.size w2).drew.trans hb3); clear hb3))
      go_upto_region 7 with fail
      go_cut [40] (fun v40 wx => ∃ bx : Bool, v40 = .bool bx ∧ w3 = wx ∧ Hid (bx = true ↔ g i = some none))
      case first =>
        rcases hor.out with ⟨h1, rfl, rfl⟩ | ⟨h1, rfl, oh, ocap, rfl, obuf⟩
        · have H1L := Lib.hid h1
          clear h1 hor
          go_wp2_with fail
          go_meet
          case rel => exact ⟨true, rfl, rfl, Lib.hid ⟨fun _ => H1L.out, fun _ => rfl⟩⟩
        · have H1L := Lib.hid h1
          clear h1 hor obuf
          go_wp2_with fail
          go_meet
          case rel => exact ⟨false, rfl, rfl, Lib.hid ⟨fun h => absurd h (by decide), fun h => absurd h H1L.out⟩⟩
      case rest =>
      obtain ⟨bx, rfl, rfl, hbx⟩ := hcut
      go_upto_if 40 with fail
      go_cut [15] (fun v15 wx => w3 = wx ∧ Hid (∃ spo lol capo, v15 = .slice spo lol.length capo ∧ lol.length ≤ 256 ∧ SlIn wx spo lol ∧ pad lol = bytesOf (g i)))
      case first =>
        cases bx
        · have hnl : g i ≠ some none := fun h => by have := hbx.out.2 h; cases this
          rcases hor.out with ⟨h1, _⟩ | ⟨h1, rfl, oh, ocap, rfl, obuf⟩
          · exact absurd h1 hnl
          have OB := Lib.hid obuf
          clear h1 hor obuf hnl hbx
          go_wp2_with fail
          go_meet
          case rel => exact ⟨rfl, Lib.hid ⟨some ⟨oh, 0, none⟩, bytesOf (g i), ocap, by rw [bytesOf_len HG.out.2], by rw [bytesOf_len HG.out.2]; exact Nat.le_refl _, slIn_buf OB.out, by unfold pad; rw [bytesOf_len HG.out.2]; simp⟩⟩
        · have H1L := Lib.hid (hbx.out.1 rfl)
          clear hor hbx
          go_wp2_with fail
          go_meet
          case rel => exact ⟨rfl, Lib.hid ⟨none, [], 0, rfl, by simp, fun h0 => absurd h0 (by simp), by rw [H1L.out]; rfl⟩⟩
      case rest =>
        obtain ⟨rfl, hol⟩ := hcut
        obtain ⟨spo, lol, capo, rfl, ho1, ho2, ho3⟩ := hol.out
        have HOL := Lib.hid (And.intro ho1 (And.intro ho2 ho3))
        clear ho1 ho2 ho3 hol hor
        have V3 := Lib.hid (V2.out.below HB3.out)
        have RP3 := Lib.hid (RP.out.below HB3.out)
        have RC3 := Lib.hid (RC.out.below HB3.out)
        have RN3 := Lib.hid (RN2.out.below HB3.out)
        have S3 := Lib.hid (S2.out.below HB3.out)
        have K3 := Lib.hid (K2.out.then HB3.out)
        have n2 := NUM2.out
        have hc2 := HCAP.out
        have hnb2 := HNB.out
        have hbl : (bk.take m).length = m := by rw [List.length_take, HNB.out]; omega
        have hLAY : ∀ w', Below w3.heap.size w3 w' → Calls Tryz.prog 64 #[.slice spo lol.length capo, .agg #[.int .i64 i, .int .i64 f, .int .i64 ((f : Int) + (m : Int))], .slice (some ⟨bh, bo, none⟩) m capk] w' fun e w'' =>
            (∃ h, e = .returned (.slice (some ⟨h, 0, none⟩) 256 256) ∧ w'.heap.size ≤ h ∧ Row w'' h 5 ((laidB (bytesOf (g i)) f (bk.take m)).map (Value.int .u8))) ∧ Below w'.heap.size w' w'' := fun w' hb => by
          have hh := lay_any (w := w') (sp := spo) (spb := some ⟨bh, bo, none⟩) (capo := capo) (capb := capk) (lo := lol) (b := bk.take m) i f HOL.out.1 (fun h0 => by
            obtain ⟨ad, g1, g2⟩ := HOL.out.2.1 h0
            exact ⟨ad, g1, fun j v hj => ⟨(hb.cell (g2 j v hj).2).trans (g2 j v hj).1, Nat.lt_of_lt_of_le (g2 j v hj).2 hb.size⟩⟩) (by omega) (by omega) ((S3.out.below hb).take m).slIn
          rw [hbl] at hh
          rw [HOL.out.2.2] at hh
          rw [show ((f + m : Nat) : Int) = (f : Int) + (m : Int) by omega] at hh
          exact hh
        have hlen : (laidB (bytesOf (g i)) f (bk.take m)).length = 256 := laidB_len (bytesOf_len HG.out.2 i) (by rw [hbl]; omega)
        have hpad : pad (laidB (bytesOf (g i)) f (bk.take m)) = laidB (bytesOf (g i)) f (bk.take m) := by unfold pad; rw [hlen]; simp
        obtain ⟨ld, hld⟩ : ∃ ld, laidB (bytesOf (g i)) f (bk.take m) = ld := ⟨_, rfl⟩
        rw [hld] at hlen hpad
        have HLD := Lib.hid (And.intro hld (And.intro hlen hpad))
        have HWF := Lib.hid (VWf.gOf H1.out.wf HR.out (by rw [HRN.out]; exact HNUM.out.2.2.2.2.2.2.2.2.2.1) (putB_some HG.out.1 hi64 ld) (putB_wf HG.out.2 i hlen))
        have HSETC : Hid (∀ (w' : World) (hh : Nat), VAt E B L1 p (gOf s q1 g) w' → Row w' hh 5 (ld.map (Value.int .u8)) → Calls Tryz.prog 63 #[.pointer (some ⟨p.bb, 0, none⟩), .agg #[.int .i64 q1, .int .i64 i], .slice (some ⟨hh, 0, none⟩) 256 256] w' fun e w'' => e = .returned .nilIface ∧ VAt E B L1 p (gOf s q1 (putB g i ld)) w'' ∧ KV B L1 NoB w' w'') := Lib.hid fun w' hh hv hr => by
          have h1 := HNUM.out
          have hin : SlIn w' (some ⟨hh, 0, none⟩) ld := fun h0 => ⟨_, rfl, fun j v hj => by
            rw [show (⟨hh, 0, none⟩ : Addr).add j = ⟨hh, 0 + j, none⟩ by unfold Addr.add; split <;> simp_all, Nat.zero_add]
            exact ⟨(hr.cell j).trans hj, hr.lt⟩⟩
          have hwf := HWF.out
          rw [← gOf_set] at hwf
          have hh2 := va_bset hv (k := q1) (i := i) ⟨by omega, by omega⟩ hi64 (sp := some ⟨hh, 0, none⟩) (cap := 256) (l := ld) (by rw [HLD.out.2.1]; exact Nat.le_refl _) hin (by rw [HLD.out.2.2]; exact hwf)
          rw [HLD.out.2.1, HLD.out.2.2, gOf_set] at hh2
          exact hh2
        rw [hld] at hLAY
        have HLAYC := Lib.hid hLAY
        have hsl1 : (m : Int) ≤ (capk : Int) := by omega
        have hm0 : (0 : Int) ≤ (m : Int) := by omega
        have hfm : IntKind.i64.wrap ((f : Int) + (m : Int) - (f : Int)) = (m : Int) := by
          rw [IntWalk.i64_in _ (by omega)]
          omega
        have P3 : Hid (∀ w', VAt E B L1 p (gOf s q1 (putB g i ld)) w' ∨ VAt E B L1 p (gOf s q1 g) w' → KV B L1 NoB w3 w' → w'.cell? ⟨p.v, 1, none⟩ = some (.pointer (some ⟨p.bb, 0, none⟩)) ∧ w'.cell? ⟨D + 1, 0, none⟩ = some (.int .i64 q1) ∧ w'.cell? ⟨D + 1, 1, none⟩ = some (.int .i64 i) ∧ w'.cell? ⟨D, 0, none⟩ = some (.int .i64 i) ∧ w'.cell? ⟨D, 1, none⟩ = some (.int .i64 f) ∧ w'.cell? ⟨D, 2, none⟩ = some (.int .i64 ((f : Int) + (m : Int)))) := Lib.hid fun w' hv hk => by
          have hc : VC p w' := by
            rcases hv with hv | hv
            · exact hv.vc
            · exact hv.vc
          obtain ⟨c0, c1, c2, t0, t1⟩ := hc
          have r := RC3.out.kv (plainI _ _) hk
          have r2 := RP3.out.kv (plainI _ _) hk
          exact ⟨c1, r.cell' (i := 0) rfl, r.cell' (i := 1) rfl, r2.cell' (i := 0) rfl, r2.cell' (i := 1) rfl, r2.cell' (i := 2) rfl⟩
        clear V2 RP RC RN2 S2 K2 hLAY hld hlen hpad c0 c1 c2 t0 t1 k0 k1 kl n2 hc2 hbl hnb2
        go_wp2_with fail
        go_region_held3 (fun w' => w'.cell? ⟨p.v, 1, none⟩ = some (.pointer (some ⟨p.bb, 0, none⟩)) ∧ w'.cell? ⟨D + 1, 0, none⟩ = some (.int .i64 q1) ∧ w'.cell? ⟨D + 1, 1, none⟩ = some (.int .i64 i) ∧ w'.cell? ⟨D, 0, none⟩ = some (.int .i64 i) ∧ w'.cell? ⟨D, 1, none⟩ = some (.int .i64 f) ∧ w'.cell? ⟨D, 2, none⟩ = some (.int .i64 ((f : Int) + (m : Int)))) (first | exact P3.out _ (.inr (V3.out.below (Below.refl _ _).drew)) (KV.of_below (Below.refl _ _).drew) | exact P3.out _ (.inl V5.out) K5.out | exact P3.out _ (.inr (V3.out.below HB4.out)) (KV.of_below HB4.out))
          (first
            | (go_at_call 64; refine (HLAYC.out _ (Below.refl _ _).drew).mono ?_; rintro e w4 ⟨⟨hh, rfl, hhz, hrow⟩, hb4⟩; have HB4 := Lib.hid ((Below.refl w3.heap.size w3).drew.trans hb4); have HROW := Lib.hid hrow; clear hhz hrow hb4)
            | (go_at_call 63; refine (HSETC.out _ _ (V3.out.below HB4.out) HROW.out).mono ?_; rintro e w5 ⟨rfl, hv5, hk5⟩; have V5 := Lib.hid hv5; have K5 := Lib.hid ((KV.of_below HB4.out).trans hk5); clear hv5 hk5))
        have KX := Lib.hid (K3.out.trans K5.out)
        have S5 := Lib.hid (S3.out.kv K5.out)
        have rp5 := RP3.out.kv (plainI _ _) K5.out
        have w0 := rp5.cell' (i := 0) rfl
        have w1' := rp5.cell' (i := 1) rfl
        have w2' := rp5.cell' (i := 2) rfl
        clear rp5 HB4 K5 HROW HLAYC HSETC P3 V3 RP3 RC3 RN3 S3 K3
        have n2 := NUM2.out
        have hcm2 := HCAP.out
        have hnb2 := HNB.out
        have b1 : (f : Int) + (m : Int) ≤ 256 := by omega
        have b2 : (i : Int) < 64 := by omega
        have b3 : (m : Int) ≤ (nb : Int) := by omega
        have b4 : (nb : Int) ≤ (capk : Int) := by omega
        have b5 : (0 : Int) ≤ (m : Int) := by omega
        have hw64 : wrap64 ((j : Int) + 1) = (j : Int) + 1 := by
          have := HNUM.out
          unfold wrap64
          omega
        clear n2 hcm2 hnb2
        by_cases hcm : capk = m
        · have hcl : (capk = m) = True := eq_true hcm
          have HCM := Lib.hid hcm
          clear hcm
          go_wp2
          have hdl : (bk.drop m).length = nb - m := by rw [List.length_drop, HNB.out]
          have HCAPN : Hid (nb ≤ capk) := Lib.hid (by have h := HCAP.out.1; rw [HNB.out] at h; exact h)
          obtain ⟨r1, r2, r3, r4, r5, r6⟩ := lay_arith NUM2.out.1 NUM2.out.2.1 NUM2.out.2.2.1 NUM2.out.2.2.2.2.1 HCAPN.out HCAP.out.2 (N := N) (pos := pos) (by have h := HAB.out; rw [HNB.out] at h; exact h) hjm
          refine ⟨⟨j + 1, a + m, bk.drop m, putB g i ld, capk - m, some ⟨bh, bo, none⟩, (i : Int) * 256 + ((f : Int) + (m : Int)), by rw [hw64]; rfl, by rw [hdl], rfl, fun _ => r1, fun h0 => absurd h0 (by rw [hdl, ← HCM.out, Nat.sub_eq_zero_of_le HCAPN.out]; exact Nat.lt_irrefl 0), by rw [hdl]; exact r2, r3, by rw [hdl]; exact HREST.out, r4, by rw [← HLD.out.1]; exact HLAY2.out, by rw [hdl]; exact r5, putB_some HG.out.1 NUM2.out.2.2.2.1 ld, putB_wf HG.out.2 i HLD.out.2.1, V5.out, KX.out⟩, by rw [hw64]; exact r6⟩
        · have hcl : (capk = m) = False := eq_false hcm
          have HCM := Lib.hid hcm
          clear hcm
          go_wp2
          have hdl : (bk.drop m).length = nb - m := by rw [List.length_drop, HNB.out]
          have HCAPN : Hid (nb ≤ capk) := Lib.hid (by have h := HCAP.out.1; rw [HNB.out] at h; exact h)
          obtain ⟨r1, r2, r3, r4, r5, r6⟩ := lay_arith NUM2.out.1 NUM2.out.2.1 NUM2.out.2.2.1 NUM2.out.2.2.2.2.1 HCAPN.out HCAP.out.2 (N := N) (pos := pos) (by have h := HAB.out; rw [HNB.out] at h; exact h) hjm
          refine ⟨⟨j + 1, a + m, bk.drop m, putB g i ld, capk - m, some ⟨bh, bo + m, none⟩, (i : Int) * 256 + ((f : Int) + (m : Int)), by rw [hw64]; rfl, by rw [hdl], rfl, fun _ => r1, S5.out.drop m, by rw [hdl]; exact r2, r3, by rw [hdl]; exact HREST.out, r4, by rw [← HLD.out.1]; exact HLAY2.out, by rw [hdl]; exact r5, putB_some HG.out.1 NUM2.out.2.2.2.1 ld, putB_wf HG.out.2 i HLD.out.2.1, V5.out, KX.out⟩, by rw [hw64]; exact r6⟩
end
end Go.Proofs.YtjekpbkmhgfhoaaGreatDoor
end

section
/- The walk of vol's Write, where no block of the file is lost. -/
namespace Go.Proofs.YtjekpbkmhgfhoaaGreatDoor
open Go Go.RowKit
set_option maxRecDepth 100000
set_option linter.unusedSimpArgs false
set_option linter.unusedVariables false
attribute [local go_sem] giv
variable {E : Nat → Addr} {B : Nat}
section
variable {L : Nat → Prop} {p : VP} {s : V} {w w' : World}
set_option maxHeartbeats 1000000 in
theorem write1_any (h : VAt E B L p s w) {fd : Nat} {x : Hdl} {r : NR} (hx : s.fs fd = some x) (hr : s.st.get x.node = some r) (hk : r.nd.kind = 1) {b : List Int} (hb : b ≠ []) (hlen : x.pos + b.length ≤ 16384)
    {lv : Value} (hps : PcK B L w lv (spanP x.pos.toNat b.length)) {sp : Option Addr} {cap : Nat} (hsl : SlK B L w sp b) (hcap : b.length ≤ cap) (hcap2 : cap ≤ maxLen)
    {b1 b2 b3 b4 : Nat} {T : TypeId} (h1 : Box w b1 (.int .i64 fd)) (h2 : Row w b2 T (ndC r.nd)) (h3 : Box w b3 lv) (h4 : Box w b4 (.slice sp b.length cap)) :
    Calls Tryz.prog 32 #[.pointer (some ⟨p.v, 0, none⟩), .pointer (some ⟨b1, 0, none⟩), .pointer (some ⟨b2, 0, none⟩), .pointer (some ⟨b3, 0, none⟩), .pointer (some ⟨b4, 0, none⟩)] w fun e w' =>
      e = .returned .nilIface ∧ VAt E B L p (laidV s fd x r.nd b) w' ∧ KV B L NoB w w' := by
  have HT := Lib.hid (vlay_any h hx hr hk hb hlen hps hsl hcap hcap2)
  generalize hP : (fun (e : Ending) (w' : World) => e = .returned .nilIface ∧ VAt E B L p (laidV s fd x r.nd b) w' ∧ KV B L NoB w w') = Post
  rw [hP] at HT
  obtain ⟨lh, lo, lcap, rfl, -⟩ := hps
  obtain ⟨rn, hrn⟩ : ∃ rn, r.nd = rn := ⟨_, rfl⟩
  rw [hrn] at h2 HT
  obtain ⟨q1, q2, q3, q4, q5, q6⟩ := rn
  obtain ⟨N, hN⟩ : ∃ N, b.length = N := ⟨_, rfl⟩
  obtain ⟨M, hM⟩ : ∃ M, (spanP x.pos.toNat b.length).length = M := ⟨_, rfl⟩
  rw [hM] at h3 HT
  rw [hN] at h4 HT
  obtain ⟨x1, l1⟩ := h1
  obtain ⟨x3, l3⟩ := h3
  obtain ⟨x4, l4⟩ := h4
  have y0 := h2.cell' (i := 0) rfl
  have y1 := h2.cell' (i := 1) rfl
  have y2 := h2.cell' (i := 2) rfl
  have y3 := h2.cell' (i := 3) rfl
  have y4 := h2.cell' (i := 4) rfl
  have y5 := h2.cell' (i := 5) rfl
  have yl := h2.lt
  have HP := Lib.hid hP
  clear h hP hx hr hk hb hlen hsl hcap hcap2 h2 hrn hN hM
  go_enter Tryz.func32, Tryz.ntmps32
  go_wp2_with fail
  refine HT.out.mono ?_
  intro e w2 hpost
  have HPO := Lib.hid hpost
  have hp2 : e = .returned .nilIface := by
    rw [← HP.out] at hpost
    exact hpost.1
  subst hp2
  clear hpost
  go_wp2
  first
    | exact HPO.out
    | (go_ret; exact HPO.out)
theorem spanP_lt (a n : Nat) (hn : 0 < n) (h : a + n ≤ 16384) {i f t : Nat} (hm : (i, f, t) ∈ spanP a n) : i < 64 := by
  induction n using Nat.strongRecOn generalizing a with
  | ind n ih =>
    rw [spanP_cons a hn] at hm
    have hk := Nat.mod_lt a (show 256 > 0 by decide)
    rcases List.mem_cons.1 hm with hm | hm
    · injection hm with hm
      omega
    · by_cases h0 : 0 < n - min n (256 - a % 256)
      · exact ih _ (by omega) _ h0 (by omega) hm
      · rw [show n - min n (256 - a % 256) = 0 by omega, spanP_zero] at hm
        cases hm
theorem SlK.setBox {sp : Option Addr} {l : List Int} (h : SlK B L w sp l) {c : Nat} {T : TypeId} {v : Value} (r : Row w c T [v]) (hv : ∀ k n, v ≠ .int k n) (u : Value) : SlK B L (w.setCell ⟨c, 0, none⟩ u) sp l := fun h0 => by
  obtain ⟨x, off, e1, e2, e3, e4⟩ := h h0
  have hne : x ≠ c := fun e => by
    subst e
    have h1 := e4 0 h0
    rw [r.cell] at h1
    rcases Nat.eq_zero_or_pos (off + 0) with h2 | h2
    · rw [h2] at h1
      simp at h1
      exact hv _ _ h1
    · obtain ⟨k, hk⟩ : ∃ k, off + 0 = k + 1 := ⟨off + 0 - 1, by omega⟩
      rw [hk] at h1
      simp at h1
  have hb : (w.setCell ⟨c, 0, none⟩ u).heap[x]? = w.heap[x]? := Below.heap_setCell _ _ _ _ hne
  exact ⟨x, off, e1, e2.imp id fun h => h.imp id fun h => plain_keep h hb, by simpa using e3, fun i hi => (World.cell?_of_block (w := w) hb).trans (e4 i hi)⟩
/-- What a Write answers, and leaves, where no block of the file is lost. -/
theorem writeV_go {fd : Nat} {x : Hdl} {n : Nd} {b : List Int} (hat : atV s fd = some (x, n)) (hb : b.take 1024 ≠ []) (hp : ¬ 16384 < x.pos + (b.take 1024).length) (ha : (spanP x.pos.toNat (b.take 1024).length).any (fun p => lostB (s.g n.id p.1) && !wholeP p n.size) = false) :
    writeV s fd b = (triedC s 0 (laidV s fd x n (b.take 1024)), if triedC s 0 (laidV s fd x n (b.take 1024)) = 0 then ((b.take 1024).length : Int) else 0, triedS s 0 (laidV s fd x n (b.take 1024))) := by
  unfold writeV
  rw [hat]
  simp only
  rw [if_neg hb, if_neg hp, ha, if_neg (by simp)]
  have e1 := triedV_one s (fun c => (0, laidV c fd x n (b.take 1024)))
  have e2 := triedV_two s (fun c => (0, laidV c fd x n (b.take 1024)))
  simp only at e1 e2
  rw [e1, e2]
  split
  · rename_i h
    simp [h]
  · rename_i h
    have h0 := Classical.not_not.1 h
    simp [h0]
theorem writeV_lost {fd : Nat} {x : Hdl} {n : Nd} {b : List Int} (hat : atV s fd = some (x, n)) (hb : b.take 1024 ≠ []) (hp : ¬ 16384 < x.pos + (b.take 1024).length) (ha : (spanP x.pos.toNat (b.take 1024).length).any (fun p => lostB (s.g n.id p.1) && !wholeP p n.size) = true) :
    writeV s fd b = (107, 0, s) := by
  unfold writeV
  rw [hat]
  simp only
  rw [if_neg hb, if_neg hp, ha, if_pos rfl]
theorem anyP_no {P : Nat × Nat × Nat → Bool} {l : List (Nat × Nat × Nat)} (h : ∀ q ∈ l, P q = false) : l.any P = false := by
  rw [List.any_eq_false]
  intro q hq
  rw [h q hq]
  simp
theorem anyP_yes {P : Nat × Nat × Nat → Bool} {l : List (Nat × Nat × Nat)} {j : Nat} {q : Nat × Nat × Nat} (hj : l[j]? = some q) (h : P q = true) : l.any P = true := by
  rw [List.any_eq_true]
  exact ⟨q, List.mem_of_getElem? hj, h⟩
theorem take_next {l : List (Nat × Nat × Nat)} {j : Nat} {q : Nat × Nat × Nat} (hj : l[j]? = some q) {P : Nat × Nat × Nat → Prop} (h : ∀ x ∈ l.take j, P x) (hq : P q) : ∀ x ∈ l.take (j + 1), P x := fun x hx => by
  rw [List.take_add_one, hj] at hx
  rcases List.mem_append.1 hx with hx | hx
  · exact h x hx
  · simp at hx
    rw [hx]
    exact hq
theorem triedC_two (s s1 : V) : triedC s 0 s1 = 0 ∨ triedC s 0 s1 = 119 := by
  unfold triedC
  rw [if_neg (by simp)]
  split
  · exact .inr rfl
  · exact .inl rfl
theorem Row.box {c : Nat} {T : TypeId} {v : Value} (r : Row w c T [v]) : Box w c v := .row r
set_option maxHeartbeats 8000000 in
theorem vwritel_any (h : VAt E B L p s w) {fd : Nat} {x : Hdl} {r : NR} (hx : s.fs fd = some x) (hr : s.st.get x.node = some r) (hk : r.nd.kind = 1) {b : List Int} {sp : Option Addr} {cap : Nat} (hsl : SlK B L w sp b) (hcap : b.length ≤ cap) (hcap2 : cap ≤ maxLen) :
    Calls Tryz.prog 9 #[.pointer (some ⟨p.v, 0, none⟩), .int .i64 fd, .slice sp b.length cap] w fun e w' => e = .returned (.tuple #[.int .i64 (writeV s fd b).2.1, errOf E (writeV s fd b).1]) ∧ VAt E B L p (writeV s fd b).2.2 w' ∧ KV B L NoB w w' := by
  have hid := findN_id hr
  have hat : atV s fd = some (x, r.nd) := by unfold atV; rw [hx]; simp only [Option.map_some]; rw [hr]; rfl
  have hnd : (s.st.nd x.node).getD noNd = r.nd := by unfold St.nd; rw [hr]; rfl
  have hvid := valid_ids (h.wf.full.val r (findN_mem hr))
  have HSZ := Lib.hid (valid_size (h.wf.full.val r (findN_mem hr)))
  obtain ⟨hfd, hp0, hp1, _⟩ := h.wf.fs fd x hx
  have HRES := Lib.hid (writeV_go (s := s) (fd := fd) (x := x) (n := r.nd) (b := b) hat)
  have HLST := Lib.hid (writeV_lost (s := s) (fd := fd) (x := x) (n := r.nd) (b := b) hat)
  have HNONE : Hid (b.take 1024 = [] → writeV s fd b = (0, 0, s)) := Lib.hid (fun e => by
    have hb0 : b = [] := by
      cases b with
      | nil => rfl
      | cons y ys => simp at e
    rw [hb0]
    exact writeV_none hat)
  have HBIG : Hid (b.take 1024 ≠ [] → 16384 < x.pos + (b.take 1024).length → writeV s fd b = (118, 0, s)) := Lib.hid (fun e1 e2 => by
    unfold writeV
    rw [hat]
    simp only
    rw [if_neg e1, if_pos e2])
  obtain ⟨R, hR⟩ : ∃ R, writeV s fd b = R := ⟨_, rfl⟩
  rw [hR] at HRES HLST HNONE HBIG ⊢
  clear hR hat
  generalize hP : (fun (e : Ending) (w' : World) => e = .returned (.tuple #[.int .i64 R.2.1, errOf E R.1]) ∧ VAt E B L p R.2.2 w' ∧ KV B L NoB w w') = Post
  have HP := Lib.hid hP
  obtain ⟨A, hA⟩ : ∃ A, w.heap.size = A := ⟨_, rfl⟩
  obtain ⟨L1, hL1⟩ : ∃ L1 : Nat → Prop, L1 = fun y => y = A ∨ y = A + 1 ∨ L y := ⟨_, rfl⟩
  have HL1 : Hid (L1 (A + 1) ∧ (∀ y, L y → L1 y)) := Lib.hid (by rw [hL1]; exact ⟨.inr (.inl rfl), fun y hy => .inr (.inr hy)⟩)
  obtain ⟨N0, hN0⟩ : ∃ N0, b.length = N0 := ⟨_, rfl⟩
  rw [hN0]
  obtain ⟨w1, hw1⟩ : ∃ w1, w1 = (w.alloc (.cells #[.int .i64 fd] 3)).alloc (.cells #[.slice sp N0 cap] 31) := ⟨_, rfl⟩
  have hb1 : Below w.heap.size w w1 := by rw [hw1]; exact bl_alloc (bl_alloc (Below.refl _ _) _) _
  have hz1 : w1.heap.size = A + 2 := by rw [hw1]; simp [hA]
  have RF1 : Hid (Row w1 A 3 [.int .i64 fd]) := Lib.hid (by rw [hw1, ← hA]; exact (Row.new _ _ [_]).alloc _)
  have RB1 : Hid (Row w1 (A + 1) 31 [.slice sp N0 cap]) := Lib.hid (by
    have r := Row.new (w.alloc (.cells #[.int .i64 fd] 3)) 31 [.slice sp N0 cap]
    rw [show (w.alloc (.cells #[.int .i64 fd] 3)).heap.size = A + 1 by simp [hA]] at r
    rw [hw1]
    exact r)
  have V1 : Hid (VAt E B L1 p s w1) := Lib.hid (h.loc hb1 (fun y hy => by
    rw [hL1] at hy
    rcases hy with hy | hy | hy
    · right; omega
    · right; omega
    · exact .inl hy) HL1.out.2)
  have S1 := Lib.hid ((hsl.kv (KV.of_below hb1)).more HL1.out.2)
  have HA := Lib.hid hA
  have HB1 := Lib.hid hb1
  have HW1 := Lib.hid hw1
  have HBA : Hid (B ≤ A + 1) := Lib.hid (by have := h.hB; omega)
  have HX := Lib.hid hx
  have HR2 := Lib.hid (And.intro hr hk)
  have HNUM : Hid (fd < 16 ∧ 0 ≤ x.pos ∧ x.pos ≤ 1099511627776 ∧ 1 ≤ r.nd.id ∧ r.nd.id ≤ 16777215 ∧ N0 ≤ cap ∧ cap ≤ maxLen) := Lib.hid ⟨hfd, hp0, hp1, hvid.1, hvid.2, by omega, hcap2⟩
  have HID := Lib.hid hid
  have HND := Lib.hid hnd
  have HN0 := Lib.hid hN0
  clear hP h hx hr hk hsl hcap hcap2 hid hnd hvid hfd hp0 hp1 hL1 hA hb1 hw1 hz1 hN0
  go_enter Tryz.func9, Tryz.ntmps9
  go_wp2_with fail
  rw [← HW1.out]
  simp only [HA.out]
  refine (at_any V1.out HNUM.out.1 HX.out HND.out (in64_of (by have := HNUM.out; have := HID.out; omega) (by have := HNUM.out; have := HID.out; omega))).mono ?_
  rintro e w2 ⟨rfl, hb2⟩
  have RF2 := Lib.hid (RF1.out.below hb2)
  have rb2 := RB1.out.below hb2
  have V2 := Lib.hid (V1.out.below hb2)
  have HB2 := Lib.hid (HB1.out.trans (hb2.mono HB1.out.size))
  have S2 := Lib.hid (S1.out.below hb2)
  obtain ⟨rn, hrn⟩ : ∃ rn, r.nd = rn := ⟨_, rfl⟩
  have HRN := Lib.hid hrn
  rw [hrn]
  obtain ⟨q1, q2, q3, q4, q5, q6⟩ := rn
  obtain ⟨xn, xp⟩ := x
  simp only [encN]
  obtain ⟨pos, hpos⟩ : ∃ pos : Nat, xp = pos := ⟨xp.toNat, by have h1 := HNUM.out.2.1; simp only at h1; omega⟩
  subst hpos
  obtain ⟨D, hD⟩ : ∃ D, w2.heap.size = D := ⟨_, rfl⟩
  obtain ⟨N, hN⟩ : ∃ N, min N0 1024 = N := ⟨_, rfl⟩
  have hbl : (b.take 1024).length = N := by rw [List.length_take, HN0.out, Nat.min_comm]; exact hN
  have HBL := Lib.hid hbl
  obtain ⟨wa, hwa⟩ : ∃ wa, wa = w2.setCell ⟨A + 1, 0, none⟩ (.slice sp N cap) := ⟨_, rfl⟩
  have va : VAt E B L1 p s wa := by rw [hwa]; exact V2.out.set HL1.out.1 HBA.out 0 _
  have rba : Row wa (A + 1) 31 [.slice sp N cap] := by rw [hwa]; exact rb2.set 0 _
  have rfa : Row wa A 3 [.int .i64 fd] := by rw [hwa]; exact RF2.out.other (by show A ≠ A + 1; omega) _
  have sa : SlK B L1 wa sp (b.take 1024) := by rw [hwa]; exact (S2.out.take 1024).setBox rb2 (fun k n h => by cases h) _
  have hza : wa.heap.size = w2.heap.size := by rw [hwa]; simp
  obtain ⟨w4, hw4⟩ : ∃ w4, w4 = (wa.alloc (.cells #[.int .i64 xn, .int .i64 pos] 68)).alloc (.cells #[.int .i64 q1, .int .i64 q2, .int .i64 q3, .int .i64 q4, .string q5, .int .i64 q6] 59) := ⟨_, rfl⟩
  have hb4 : Below wa.heap.size wa w4 := by rw [hw4]; exact bl_alloc (bl_alloc (Below.refl _ _) _) _
  have RH4 : Hid (Row w4 D 68 [.int .i64 xn, .int .i64 pos]) := Lib.hid (by rw [hw4, ← hD, ← hza]; exact (Row.new _ _ _).alloc _)
  have RN4 : Hid (Row w4 (D + 1) 59 (ndC ⟨q1, q2, q3, q4, q5, q6⟩)) := Lib.hid (by
    have r := Row.new (wa.alloc (.cells #[.int .i64 xn, .int .i64 pos] 68)) 59 [.int .i64 q1, .int .i64 q2, .int .i64 q3, .int .i64 q4, .string q5, .int .i64 q6]
    rw [show (wa.alloc (.cells #[.int .i64 xn, .int .i64 pos] 68)).heap.size = D + 1 by simp [hza, hD]] at r
    rw [hw4]
    exact r)
  have V4 := Lib.hid (va.below hb4)
  have RF4 := Lib.hid (rfa.below hb4)
  have RB4 := Lib.hid (rba.below hb4)
  have S4 := Lib.hid (sa.below hb4)
  have KW4 : Hid (KV B L NoB w w4) := Lib.hid (by
    have k2 : KV B L NoB w w2 := KV.of_below HB2.out
    have ka : KV B L NoB w wa := by rw [hwa]; exact Touch.setCell k2 (.inr (by have := HA.out; show w.heap.size ≤ A + 1; omega)) _
    exact ka.then hb4)
  have HW4 : Hid (w4 = ((w2.setCell ⟨A + 1, 0, none⟩ (.slice sp N cap)).alloc (.cells #[.int .i64 xn, .int .i64 pos] 68)).alloc (.cells #[.int .i64 q1, .int .i64 q2, .int .i64 q3, .int .i64 q4, .string q5, .int .i64 q6] 59)) := Lib.hid (by rw [hw4, hwa])
  have HD := Lib.hid hD
  have x0 := rb2.cell' (i := 0) rfl
  have xl := rb2.lt
  have xl0 : A < w2.heap.size := by omega
  have xf := fun i => rb2.froz i
  have HN := Lib.hid hN
  clear hw4 hwa va rba rfa sa hza hb4 hD hb2 hrn rb2 RF1 RB1 V1 S1 RF2 V2 S2 hbl
  have hn1 := HNUM.out.2.2.2.2.2.1
  have hmin : min (N0 : Int) 1024 = (N : Int) := by omega
  have hmle : (N : Int) ≤ (cap : Int) := by omega
  clear hN
  by_cases hN0 : N = 0
  · have hnil : b.take 1024 = [] := List.eq_nil_of_length_eq_zero (by rw [HBL.out]; exact hN0)
    have HRN0 := Lib.hid (HNONE.out hnil)
    have hz : ((N : Int) == 0) = true := by rw [hN0]; rfl
    have HN00 := Lib.hid hN0
    clear hN0 hnil
    go_wp2_with fail
    rw [← HW4.out, ← HP.out, HRN0.out]
    first
      | exact ⟨rfl, V4.out.less HL1.out.2, KW4.out⟩
      | (go_ret2; exact ⟨rfl, V4.out.less HL1.out.2, KW4.out⟩)
  have hz : ((N : Int) == 0) = false := by rw [beq_eq_false_iff_ne]; omega
  have hnn : b.take 1024 ≠ [] := fun e => by
    have h1 := HBL.out
    rw [e] at h1
    exact hN0 h1.symm
  have hwpn : wrap64 ((pos : Int) + (N : Int)) = (pos : Int) + (N : Int) := by
    have h1 := HNUM.out.2.2.1
    simp only at h1
    clear hn1 hz
    unfold wrap64
    omega
  by_cases hbig : 16384 < (pos : Int) + (N : Int)
  · have HRB := Lib.hid (HBIG.out hnn (by rw [HBL.out]; exact hbig))
    have CE := Lib.hid (show errOf E 118 = errV E 2 from errOf_code (g := 2) (by decide))
    clear hN0 hnn
    go_wp2_with fail
    rw [← HW4.out]
    have ce := V4.out.env.toEnv.cell 2 (by decide)
    have cl : 2 < w4.heap.size := Nat.lt_of_lt_of_le (V4.out.env.toEnv.glt _ (by decide)) V4.out.env.toEnv.size
    go_region
    go_wp2
    rw [← HP.out, HRB.out]
    simp only
    rw [CE.out]
    first
      | exact ⟨rfl, (V4.out.below (Below.refl _ _).drew).less HL1.out.2, KW4.out.then (Below.refl _ _).drew⟩
      | (go_ret2; exact ⟨rfl, (V4.out.below (Below.refl _ _).drew).less HL1.out.2, KW4.out.then (Below.refl _ _).drew⟩)
  have hrg0 := HRES.out hnn (by rw [HBL.out]; first | exact hbig | exact Int.not_lt.1 hbig | exact Int.not_lt.2 hbig)
  have hrl0 := HLST.out hnn (by rw [HBL.out]; first | exact hbig | exact Int.not_lt.1 hbig | exact Int.not_lt.2 hbig)
  rw [HBL.out] at hrl0
  have hrg1 : (spanP pos N).any (fun p => lostB (s.g q1 p.1) && !wholeP p q4) = false → _ := fun h0 => hrg0 (by rw [HBL.out, HRN.out]; exact h0)
  rw [HRN.out] at hrl0
  simp only [Int.toNat_natCast] at hrl0
  have HRG0 := Lib.hid hrg1
  have HRL0 := Lib.hid hrl0
  clear hrg0 hrl0 hrg1
  have HNN := Lib.hid hnn
  clear hnn
  go_wp2_with fail
  rw [← HW4.out]
  have HFIT : Hid ((pos : Int) + (N : Int) ≤ 16384 ∧ 0 < N) := Lib.hid ⟨by first | exact hbig | exact Int.not_lt.1 hbig, by omega⟩
  simp only [HD.out]
  refine (spanP_any pos N (by omega) (by omega) (by omega) w4).mono ?_
  rintro e w5 ⟨⟨lv, rfl, hsl5⟩, hb5⟩
  obtain ⟨ps, hps⟩ : ∃ ps, spanP pos N = ps := ⟨_, rfl⟩
  have HPS := Lib.hid hps
  have hpk : PcK B L1 w5 lv (spanP pos N) := by
    rw [spanP_cons pos HFIT.out.2] at hsl5 ⊢
    exact PcK.of_sl hsl5
  rw [hps] at hpk
  obtain ⟨M, hM⟩ : ∃ M, ps.length = M := ⟨_, rfl⟩
  have HM := Lib.hid hM
  have hpk2 := hpk
  obtain ⟨lh, lo, lcap, rfl, -⟩ := hpk2
  have HPK := Lib.hid hpk
  rw [hM] at HPK
  rw [hM]
  obtain ⟨G, hG⟩ : ∃ G, w5.heap.size = G := ⟨_, rfl⟩
  obtain ⟨w6, hw6⟩ : ∃ w6, w6 = w5.alloc (.cells #[.slice (some ⟨lh, lo, none⟩) M lcap] 71) := ⟨_, rfl⟩
  have hb6 : Below w5.heap.size w5 w6 := by rw [hw6]; exact bl_alloc (Below.refl _ _) _
  have hb46 := hb5.trans (hb6.mono hb5.size)
  have RG6 : Hid (Row w6 G 71 [.slice (some ⟨lh, lo, none⟩) M lcap]) := Lib.hid (by rw [hw6, ← hG]; exact Row.new _ _ [_])
  have V6 := Lib.hid (V4.out.below hb46)
  have RF6 := Lib.hid (RF4.out.below hb46)
  have RB6 := Lib.hid (RB4.out.below hb46)
  have RN6 := Lib.hid (RN4.out.below hb46)
  have S6 := Lib.hid (S4.out.below hb46)
  have KW6 := Lib.hid (KW4.out.then hb46)
  have PK6 := Lib.hid (HPK.out.kv (KV.of_below hb6))
  have HW6 := Lib.hid hw6
  have HGE := Lib.hid hG
  have hpl : M ≤ N := by rw [← hM, ← hps]; exact spanP_len N pos
  have HML : Hid (M ≤ 16384) := Lib.hid (by have := HFIT.out; omega)
  clear hps hpk hM hsl5 hw6 hG hb5 hb6 hb46 hpl V4 RF4 RB4 RN4 RH4 S4 KW4 HPK x0 xl xl0 xf hbig hz hN0 hmin hmle hn1 hwpn
  go_wp2_with fail
  rw [← HW6.out]
  simp only [HGE.out]
  go_loopw [13, 14, 15, 49] (fun _ _ _ v49 wr => ∃ j : Nat, v49 = .int .i64 j ∧ j ≤ M ∧ (∀ q ∈ ps.take j, (lostB (s.g q1 q.1) && !wholeP q q4) = false) ∧ Below w6.heap.size w6 wr) (fun _ _ _ v49 _ => M - (intOf v49).toNat)
  case atStart => exact ⟨0, rfl, Nat.zero_le _, (fun q hq => by simp at hq), Below.refl _ _⟩
  case round =>
    obtain ⟨j, rfl, hj, hno, hb⟩ := hrel
    have HBr := Lib.hid hb
    have HJ := Lib.hid hj
    have HNO := Lib.hid hno
    clear hb hj hno
    by_cases hjm : j < M
    case neg =>
      have hjm2 : ¬ ((j : Int) < (M : Int)) := by omega
      clear hjm
      have VR := Lib.hid (V6.out.below HBr.out)
      have RFr := Lib.hid (RF6.out.below HBr.out).box
      have rbr := RB6.out.below HBr.out
      have RBr := Lib.hid rbr
      have RNr := Lib.hid (RN6.out.below HBr.out)
      have RGr := Lib.hid (RG6.out.below HBr.out).box
      have PKr := Lib.hid (PK6.out.kv (KV.of_below HBr.out))
      have Sr := Lib.hid (S6.out.below HBr.out)
      have KWr := Lib.hid (KW6.out.then HBr.out)
      have HT : Hid (Calls Tryz.prog 31 #[.pointer (some ⟨p.v, 0, none⟩), .func (.func 32) #[] #[.pointer (some ⟨A, 0, none⟩), .pointer (some ⟨D + 1, 0, none⟩), .pointer (some ⟨G, 0, none⟩), .pointer (some ⟨A + 1, 0, none⟩)]] wr fun e w' =>
          e = .returned (errOf E (triedC s 0 (laidV s fd ⟨xn, pos⟩ r.nd (b.take 1024)))) ∧ VAt E B L1 p (triedS s 0 (laidV s fd ⟨xn, pos⟩ r.nd (b.take 1024))) w' ∧ KV B L1 NoB wr w') := Lib.hid (by
        refine Calls.mono (tried_any (g := 32) (cap := #[.pointer (some ⟨A, 0, none⟩), .pointer (some ⟨D + 1, 0, none⟩), .pointer (some ⟨G, 0, none⟩), .pointer (some ⟨A + 1, 0, none⟩)]) (enters_of Tryz.func32 (by kernel_rfl) rfl) VR.out (X := NoB) (fun _ => True) (fun _ h => h.elim) (c := 0) (s1 := laidV s fd ⟨xn, pos⟩ r.nd (b.take 1024)) (.inl rfl) ?_) (fun e w' h => ⟨h.1, h.2.1, h.2.2.1⟩)
        intro L' p' w1 hkv hL hv
        have hbl := HBL.out
        have hps := HPS.out
        have hm := HM.out
        have hn := HNUM.out
        have hf := HFIT.out
        have hpk : PcK B L' w1 (.slice (some ⟨lh, lo, none⟩) M lcap) (spanP (⟨xn, pos⟩ : Hdl).pos.toNat (b.take 1024).length) := by
          rw [hbl, Int.toNat_natCast, hps]
          exact (PKr.out.kv hkv).more hL
        have hrn4 : Row w1 (D + 1) 59 (ndC r.nd) := by
          rw [HRN.out]
          exact RNr.out.kv (plainI _ _) hkv
        refine (write1_any hv HX.out HR2.out.1 HR2.out.2 HNN.out (by rw [hbl]; exact hf.1) hpk ((Sr.out.kv hkv).more hL) (cap := cap) (by have := HN.out; rw [hbl]; omega) hn.2.2.2.2.2.2 (RFr.out.kv (plainI _ _) hkv) hrn4 (RGr.out.kv (plainSl _ _ _) hkv) (by rw [hbl]; exact RBr.out.box.kv (plainSl _ _ _) hkv)).mono ?_
        rintro e w2 ⟨e1, e2, e3⟩
        exact ⟨e1, fun _ => ⟨e2, trivial⟩, e3⟩)
      have x0 := rbr.cell' (i := 0) rfl
      have xl := rbr.lt
      have hmf : ∀ (fn : Fn) (first cap : Array Value) (w : World), (Instr.makeFunc fn first cap).run Tryz.prog w = .ok (.func fn first cap) w := fun _ _ _ _ => rfl
      have HTC := triedC_two s (laidV s fd ⟨xn, pos⟩ r.nd (b.take 1024))
      have HRG2 := HRG0.out (anyP_no (by
        have h1 := HNO.out
        obtain rfl : j = M := by have := HJ.out; omega
        rw [← HM.out, List.take_length, ← HPS.out] at h1
        exact h1))
      obtain ⟨s2, hs2⟩ : ∃ s2, triedS s 0 (laidV s fd ⟨xn, pos⟩ r.nd (b.take 1024)) = s2 := ⟨_, rfl⟩
      obtain ⟨c2, hc2⟩ : ∃ c2, triedC s 0 (laidV s fd ⟨xn, pos⟩ r.nd (b.take 1024)) = c2 := ⟨_, rfl⟩
      rw [hs2, hc2, HBL.out] at HRG2
      rw [hs2, hc2] at HT
      rw [hc2] at HTC
      have HRR := Lib.hid HRG2
      clear HRG2 hs2 hc2 rbr x0 xl
      have CE := Lib.hid (show errOf E 119 = errV E 6 from errOf_code (g := 6) (by decide))
      rcases HTC with rfl | rfl
      · go_wp2_with fail
        refine HT.out.mono ?_
        rintro e w9 ⟨rfl, h9, k9⟩
        have V9 := Lib.hid h9
        have rb9 := RBr.out.kv (plainSl _ _ _) k9
        have K9 := Lib.hid (KWr.out.trans (k9.less HL1.out.2))
        have x0 := rb9.cell' (i := 0) rfl
        have xl := rb9.lt
        have xl0 : A < w9.heap.size := by omega
        clear h9 k9 rb9
        rw [errOf_zero]
        go_wp2
        rw [← HP.out, HRR.out]
        simp only [if_true, eq_self_iff_true]
        first
          | exact ⟨rfl, V9.out.less HL1.out.2, K9.out⟩
          | (go_ret2; exact ⟨rfl, V9.out.less HL1.out.2, K9.out⟩)
      · go_wp2_with fail
        refine HT.out.mono ?_
        rintro e w9 ⟨rfl, h9, k9⟩
        have V9 := Lib.hid h9
        have K9 := Lib.hid (KWr.out.trans (k9.less HL1.out.2))
        clear h9 k9
        rw [CE.out]
        go_wp2
        rw [← HP.out, HRR.out]
        rw [if_neg (by decide)]
        simp only
        rw [CE.out]
        first
          | exact ⟨rfl, V9.out.less HL1.out.2, K9.out⟩
          | (go_ret2; exact ⟨rfl, V9.out.less HL1.out.2, K9.out⟩)
    case pos =>
      have hjm2 : (j : Int) < (M : Int) := by omega
      obtain ⟨⟨pi, pf, pt⟩, hget⟩ : ∃ q, ps[j]? = some q := ⟨_, List.getElem?_eq_getElem (by rw [HM.out]; exact hjm)⟩
      obtain ⟨y0, y1, y2⟩ : wr.cell? ⟨lh, lo + j * 3, none⟩ = some (.int .i64 pi) ∧ wr.cell? ⟨lh, lo + j * 3 + 1, none⟩ = some (.int .i64 pf) ∧ wr.cell? ⟨lh, lo + j * 3 + 2, none⟩ = some (.int .i64 pt) := by
        obtain ⟨h', o', c', e1, _, _, e4⟩ := PK6.out.kv (KV.of_below HBr.out)
        injection e1 with e1
        injection e1 with e1
        injection e1 with e1 e2
        subst e1 e2
        exact e4 j _ hget
      have hpi : pi < 64 := by
        have h1 := HPS.out
        have := spanP_lt pos N HFIT.out.2 (by have := HFIT.out.1; omega) (i := pi) (f := pf) (t := pt) (by rw [h1]; exact List.mem_of_getElem? hget)
        exact this
      obtain ⟨P, hP⟩ : ∃ P, wr.heap.size = P := ⟨_, rfl⟩
      obtain ⟨wq, hwq⟩ : ∃ wq, wq = wr.alloc (.cells #[.int .i64 pi, .int .i64 pf, .int .i64 pt] 74) := ⟨_, rfl⟩
      have hbq : Below wr.heap.size wr wq := by rw [hwq]; exact bl_alloc (Below.refl _ _) _
      have RP : Hid (Row wq P 74 [.int .i64 pi, .int .i64 pf, .int .i64 pt]) := Lib.hid (by rw [hwq, ← hP]; exact Row.new _ _ _)
      have HBq := Lib.hid (HBr.out.trans (hbq.mono HBr.out.size))
      have HWQ := Lib.hid hwq
      have HPE := Lib.hid hP
      have HPI := Lib.hid hpi
      have HKQ : Hid (∀ w', Below wq.heap.size wq w' → w'.cell? ⟨p.v, 1, none⟩ = some (.pointer (some ⟨p.bb, 0, none⟩)) ∧ w'.cell? ⟨D + 1, 0, none⟩ = some (.int .i64 q1) ∧ w'.cell? ⟨P, 0, none⟩ = some (.int .i64 pi)) := Lib.hid fun w' hb => by
        have hb2 := HBq.out.trans (hb.mono HBq.out.size)
        obtain ⟨c0, c1, c2, t0, t1⟩ := (V6.out.below hb2).vc
        exact ⟨c1, (RN6.out.below hb2).cell' (i := 0) rfl, (RP.out.below hb).cell' (i := 0) rfl⟩
      have hq164 : In64 q1 := in64_of (by have := HNUM.out; have := HRN.out; rw [HRN.out] at *; simp only at *; omega) (by have := HNUM.out; rw [HRN.out] at *; simp only at *; omega)
      have hsz4 := HSZ.out
      rw [HRN.out] at hsz4
      have HSZ4 : Hid (0 ≤ q4 ∧ q4 ≤ 1099511627776) := Lib.hid ⟨hsz4.1, by have := hsz4.2; simp only at this; omega⟩
      have HGET := Lib.hid hget
      clear hwq hP hpi hbq hget hsz4
      by_cases hnl2 : s.g q1 pi = some none
      case pos =>
        go_wp2_with fail
        rw [← HWQ.out]
        simp only [HPE.out]
        clear y0 y1 y2 hjm2
        go_region_held3 (fun w' => w'.cell? ⟨p.v, 1, none⟩ = some (.pointer (some ⟨p.bb, 0, none⟩)) ∧ w'.cell? ⟨D + 1, 0, none⟩ = some (.int .i64 q1) ∧ w'.cell? ⟨P, 0, none⟩ = some (.int .i64 pi)) (first | exact HKQ.out _ (Below.refl _ _).drew | exact HKQ.out _ HB9.out)
          (first
            | (go_at_call 29; refine (va_bget_lost (V6.out.below (HBq.out.trans ((Below.refl wq.heap.size wq).drew.mono HBq.out.size))) hq164 HPI.out hnl2).mono ?_; rintro e w9 ⟨rfl, hb9⟩; have HB9 := Lib.hid ((Below.refl wq.heap.size wq).drew.trans hb9); clear hb9))
        have r9 := RP.out.below HB9.out
        have rn9 := RN6.out.below (HBq.out.trans (HB9.out.mono HBq.out.size))
        have y0 := r9.cell' (i := 0) rfl
        have y1 := r9.cell' (i := 1) rfl
        have y2 := r9.cell' (i := 2) rfl
        have yl := r9.lt
        have n3 := rn9.cell' (i := 3) rfl
        have nl := rn9.lt
        clear r9 rn9
        go_wp2_with fail
        refine (whole_any pi pf pt q4 HSZ4.out.1 HSZ4.out.2 w9).mono ?_
        rintro e wa ⟨rfl, hba⟩
        have HBA2 := Lib.hid (HBq.out.trans ((HB9.out.trans (hba.mono HB9.out.size)).mono HBq.out.size))
        clear y0 y1 y2 yl n3 nl hba
        cases hwh : wholeP (pi, pf, pt) q4
        case false =>
          have HRL := Lib.hid (HRL0.out (by rw [HPS.out]; exact anyP_yes HGET.out (by simp only [hnl2, hwh]; rfl)))
          have CE := Lib.hid (show errOf E 107 = errV E 5 from errOf_code (g := 5) (by decide))
          clear hwh
          go_wp2
          rw [← HP.out, HRL.out]
          simp only
          rw [CE.out]
          first
            | exact ⟨rfl, (V6.out.below HBA2.out).less HL1.out.2, KW6.out.then HBA2.out⟩
            | (go_ret2; exact ⟨rfl, (V6.out.below HBA2.out).less HL1.out.2, KW6.out.then HBA2.out⟩)
        case true =>
          have HWH := Lib.hid hwh
          clear hwh
          have hw64 : wrap64 ((j : Int) + 1) = (j : Int) + 1 := by
            have := HML.out
            unfold wrap64
            omega
          go_wp2
          go_roundw
          case rel => exact ⟨j + 1, by rw [hw64]; rfl, hjm, take_next HGET.out HNO.out (by simp only [HWH.out]; simp), HBA2.out⟩
          case measure => rw [hw64]; simp only [intOf]; omega
      go_wp2_with fail
      rw [← HWQ.out]
      simp only [HPE.out]
      clear y0 y1 y2 hjm2
      go_region_held3 (fun w' => w'.cell? ⟨p.v, 1, none⟩ = some (.pointer (some ⟨p.bb, 0, none⟩)) ∧ w'.cell? ⟨D + 1, 0, none⟩ = some (.int .i64 q1) ∧ w'.cell? ⟨P, 0, none⟩ = some (.int .i64 pi)) (first | exact HKQ.out _ (Below.refl _ _).drew | exact HKQ.out _ HB9.out)
        (first
          | (go_at_call 29; refine (va_bget (V6.out.below (HBq.out.trans ((Below.refl wq.heap.size wq).drew.mono HBq.out.size))) hq164 HPI.out hnl2).mono ?_; rintro e w9 ⟨⟨oh, ocap, rfl, -, -⟩, hb9⟩; have HB9 := Lib.hid ((Below.refl wq.heap.size wq).drew.trans hb9); clear hb9))
      have hw64 : wrap64 ((j : Int) + 1) = (j : Int) + 1 := by
        have := HML.out
        unfold wrap64
        omega
      go_wp2
      go_roundw
      case rel => exact ⟨j + 1, by rw [hw64]; rfl, hjm, take_next HGET.out HNO.out (by rw [lostB_no hnl2]; rfl), HBq.out.trans (HB9.out.mono HBq.out.size)⟩
      case measure => rw [hw64]; simp only [intOf]; omega
theorem vwrite_any (h : VAt E B L p s w) {fd : Nat} {x : Hdl} {r : NR} (hx : s.fs fd = some x) (hr : s.st.get x.node = some r) (hk : r.nd.kind = 1) (hnl : ∀ i, s.g r.nd.id i ≠ some none) {b : List Int} {sp : Option Addr} {cap : Nat} (hsl : SlK B L w sp b) (hcap : b.length ≤ cap) (hcap2 : cap ≤ maxLen) :
    Calls Tryz.prog 9 #[.pointer (some ⟨p.v, 0, none⟩), .int .i64 fd, .slice sp b.length cap] w fun e w' => e = .returned (.tuple #[.int .i64 (writeV s fd b).2.1, errOf E (writeV s fd b).1]) ∧ VAt E B L p (writeV s fd b).2.2 w' ∧ KV B L NoB w w' := vwritel_any h hx hr hk hsl hcap hcap2
end
end Go.Proofs.YtjekpbkmhgfhoaaGreatDoor
end

section
/- The walk of vol's Read. -/
namespace Go.Proofs.YtjekpbkmhgfhoaaGreatDoor
open Go Go.RowKit
set_option maxRecDepth 100000
set_option linter.unusedSimpArgs false
set_option linter.unusedVariables false
attribute [local go_sem] giv
variable {E : Nat → Addr} {B : Nat}
def encB1 (n : Int) : List Value := [.int .u8 n]
theorem u8_inf : (Tryz.prog.info? 5).map (fun i => (i.zero, i.size, i.bytes)) = some (some (.int .u8 0), 1, 1) := by kernel_rfl
theorem u8T : ElemT Tryz.prog 31 5 1 1 encB1 :=
  ⟨Tryz.underlying31, ⟨.int .u8 0, rfl, u8_inf⟩, fun _ => rfl, fun x u hu => by simp [encB1] at hu; rw [hu]; rfl, by omega⟩
theorem RdE.ofBuf {w : World} {h cap : Nat} {l : List Int} (b : Buf w h 5 cap (l.map (Value.int .u8))) : RdE w 1 encB1 (.slice (some ⟨h, 0, none⟩) l.length cap) l := by
  have hlt := b.lt
  obtain ⟨cur, h1, h2, h3⟩ := b
  have hc : l.length ≤ cap := by
    have := congrArg List.length h3
    rw [List.length_take, List.length_map] at this
    have h4 : cur.toList.length = cap := by simpa using h2
    omega
  refine ⟨_, _, rfl, hc, (fun h => by cases h), fun _ => ⟨_, _, rfl, hlt, fun i j hi hj => ?_⟩⟩
  obtain rfl : j = 0 := by omega
  have hg : cur.toList[i]? = some (.int .u8 (l[i]'hi)) := by
    have := congrArg (fun l : List Value => l[i]?) h3
    simp only [List.getElem?_take, List.length_map, if_pos hi] at this
    rw [this, List.getElem?_map, List.getElem?_eq_getElem hi]
    rfl
  simp only [World.cell?, h1, Nat.zero_add, Nat.mul_one, Nat.add_zero]
  rw [← Array.getElem?_toList, hg, List.getElem?_eq_getElem hi]
  rfl
theorem readF_fuel : ∀ (f f' : Nat) (g : Nat → FBlk) (a n : Nat), n ≤ f → n ≤ f' → readF f g a n = readF f' g a n := by
  intro f
  induction f with
  | zero =>
    intro f' g a n h1 _
    obtain rfl : n = 0 := by omega
    cases f' <;> rfl
  | succ f ih =>
    intro f' g a n h1 h2
    cases f' with
    | zero =>
      obtain rfl : n = 0 := by omega
      rfl
    | succ f' =>
      unfold readF
      by_cases h0 : n = 0
      · rw [if_pos h0, if_pos h0]
      · rw [if_neg h0, if_neg h0]
        have := Nat.mod_lt a (show 256 > 0 by decide)
        simp only
        rw [ih f' g _ _ (by omega) (by omega)]
theorem readAt_zero (g : Nat → FBlk) (a : Nat) : readAt g a 0 = [] := rfl
theorem readAt_cons (g : Nat → FBlk) (a : Nat) {n : Nat} (hn : 0 < n) :
    readAt g a n = (((bytesOf (g (a / 256))).drop (a % 256)).take (min n (256 - a % 256))) ++ readAt g (a + min n (256 - a % 256)) (n - min n (256 - a % 256)) := by
  unfold readAt
  cases n with
  | zero => omega
  | succ n =>
    have := Nat.mod_lt a (show 256 > 0 by decide)
    conv => lhs; unfold readF
    rw [if_neg (by omega)]
    simp only
    rw [readF_fuel n _ g _ _ (by omega) (Nat.le_refl _)]
theorem readV_go {s : V} {fd : Nat} {x : Hdl} {n : Nd} {m : Int} (hx : s.fs fd = some x) (hat : atV s fd = some (x, n)) (hm : 0 ≤ m) (h0 : 0 ≤ x.pos) (hs : x.pos < n.size) (hz : n.size ≤ 16384) {k : Nat} (hk : (min (min m 1024) (n.size - x.pos)).toNat = k) (ha : (spanP x.pos.toNat k).any (fun p => lostB (s.g n.id p.1)) = false) :
    readV s fd m = (0, readAt (s.g n.id) x.pos.toNat k, { s with fs := fun j => if j = fd then some ⟨x.node, x.pos + k⟩ else s.fs j }) := by
  unfold readV
  rw [hat]
  simp only
  rw [if_neg (by omega), if_neg (by omega), hk, ha, if_neg (by simp)]
  unfold seekV
  rw [hx]
  simp only
  rw [if_neg (by omega)]
theorem readV_lost {s : V} {fd : Nat} {x : Hdl} {n : Nd} {m : Int} (hat : atV s fd = some (x, n)) (hm : 0 ≤ m) (hs : x.pos < n.size) {k : Nat} (hk : (min (min m 1024) (n.size - x.pos)).toNat = k) (ha : (spanP x.pos.toNat k).any (fun p => lostB (s.g n.id p.1)) = true) :
    readV s fd m = (107, [], s) := by
  unfold readV
  rw [hat]
  simp only
  rw [if_neg (by omega), if_neg (by omega), hk, ha, if_pos rfl]
theorem any_no {g : Nat → FBlk} {l : List (Nat × Nat × Nat)} (h : ∀ q ∈ l, lostB (g q.1) = false) : l.any (fun p => lostB (g p.1)) = false := by
  rw [List.any_eq_false]
  intro q hq
  rw [h q hq]
  simp
theorem any_yes {g : Nat → FBlk} {l : List (Nat × Nat × Nat)} {j : Nat} {q : Nat × Nat × Nat} (hj : l[j]? = some q) (h : g q.1 = some none) : l.any (fun p => lostB (g p.1)) = true := by
  rw [List.any_eq_true]
  exact ⟨q, List.mem_of_getElem? hj, by rw [h]; rfl⟩
section
variable {L : Nat → Prop} {p : VP} {s : V} {w w' : World}
theorem SlE.kvB {base : Nat} {v : Value} {l : List Int} (h : SlE w base 5 1 encB1 v l) (h0 : l ≠ []) (k : KV B L NoB w w') : SlE w' base 5 1 encB1 v l :=
  h.touch k fun x hx hs => by
    rcases hs with hs | hs
    · refine hs.2.2 ?_
      cases l with
      | nil => exact (h0 rfl).elim
      | cons y ys =>
        have := World.ownsRow.cells h (g := x) hx 0 (.int .u8 y) rfl
        exact ⟨.int .u8 y, this, plainI _ _⟩
    · exact hs.elim
set_option maxHeartbeats 8000000 in
theorem vreadl_any (h : VAt E B L p s w) {fd : Nat} {x : Hdl} {r : NR} (hx : s.fs fd = some x) (hr : s.st.get x.node = some r) {m : Int} (hm : In64 m) (hm0 : m ≠ 0) :
    Calls Tryz.prog 15 #[.pointer (some ⟨p.v, 0, none⟩), .int .i64 fd, .int .i64 m] w fun e w' => (∃ v, e = .returned (.tuple #[v, errOf E (readV s fd m).1]) ∧ SlE w' w.heap.size 5 1 encB1 v (readV s fd m).2.1) ∧ VAt E B L p (readV s fd m).2.2 w' ∧ KV B L NoB w w' := by
  have hid := findN_id hr
  have hat : atV s fd = some (x, r.nd) := by unfold atV; rw [hx]; simp only [Option.map_some]; rw [hr]; rfl
  have hnd : (s.st.nd x.node).getD noNd = r.nd := by unfold St.nd; rw [hr]; rfl
  have hvid := valid_ids (h.wf.full.val r (findN_mem hr))
  have hvsz := valid_size (h.wf.full.val r (findN_mem hr))
  obtain ⟨hfd, hp0, hp1, _⟩ := h.wf.fs fd x hx
  have HNEG : Hid (m < 0 → readV s fd m = (114, [], s)) := Lib.hid (fun e1 => by
    unfold readV
    rw [hat]
    simp only
    rw [if_pos e1])
  have HEND : Hid (¬ m < 0 → r.nd.size ≤ x.pos → readV s fd m = (0, [], s)) := Lib.hid (fun e1 e2 => by
    unfold readV
    rw [hat]
    simp only
    rw [if_neg e1, if_pos e2])
  have HRES := Lib.hid (fun (e0 : 0 ≤ m) (e1 : x.pos < r.nd.size) (k : Nat) (e2 : (min (min m 1024) (r.nd.size - x.pos)).toNat = k) => readV_go (s := s) (fd := fd) (x := x) (n := r.nd) (m := m) hx hat e0 hp0 e1 hvsz.2 e2)
  have HLST := Lib.hid (fun (e0 : 0 ≤ m) (e1 : x.pos < r.nd.size) (k : Nat) (e2 : (min (min m 1024) (r.nd.size - x.pos)).toNat = k) => readV_lost (s := s) (fd := fd) (x := x) (n := r.nd) (m := m) hat e0 e1 e2)
  obtain ⟨R, hR⟩ : ∃ R, readV s fd m = R := ⟨_, rfl⟩
  rw [hR] at HRES HLST HNEG HEND ⊢
  clear hR hat
  generalize hP : (fun (e : Ending) (w' : World) => (∃ v, e = .returned (.tuple #[v, errOf E R.1]) ∧ SlE w' w.heap.size 5 1 encB1 v R.2.1) ∧ VAt E B L p R.2.2 w' ∧ KV B L NoB w w') = Post
  have HP := Lib.hid hP
  have V1 := Lib.hid h
  have HX := Lib.hid hx
  have HR2 := Lib.hid hr
  have HNUM : Hid (fd < 16 ∧ 0 ≤ x.pos ∧ x.pos ≤ 1099511627776 ∧ 1 ≤ r.nd.id ∧ r.nd.id ≤ 16777215 ∧ 0 ≤ r.nd.size ∧ r.nd.size ≤ 16384) := Lib.hid ⟨hfd, hp0, hp1, hvid.1, hvid.2, hvsz.1, hvsz.2⟩
  have HID := Lib.hid hid
  have HND := Lib.hid hnd
  have HM64 := Lib.hid (And.intro hm hm0)
  clear hP h hx hr hid hnd hvid hvsz hfd hp0 hp1 hm hm0
  go_enter Tryz.func15, Tryz.ntmps15
  go_wp2_with fail
  refine (at_any V1.out HNUM.out.1 HX.out HND.out (in64_of (by have := HNUM.out; have := HID.out; omega) (by have := HNUM.out; have := HID.out; omega))).mono ?_
  rintro e w2 ⟨rfl, hb2⟩
  have V2 := Lib.hid (V1.out.below hb2)
  have HB2 := Lib.hid hb2
  obtain ⟨rn, hrn⟩ : ∃ rn, r.nd = rn := ⟨_, rfl⟩
  have HRN := Lib.hid hrn
  rw [hrn]
  obtain ⟨q1, q2, q3, q4, q5, q6⟩ := rn
  obtain ⟨xn, xp⟩ := x
  simp only [encN]
  obtain ⟨pos, hpos⟩ : ∃ pos : Nat, xp = pos := ⟨xp.toNat, by have h1 := HNUM.out.2.1; simp only at h1; omega⟩
  subst hpos
  have HQ4 : Hid (0 ≤ q4 ∧ q4 ≤ 16384) := Lib.hid (by have := HNUM.out.2.2.2.2.2; rw [hrn] at this; exact this)
  obtain ⟨D, hD⟩ : ∃ D, w2.heap.size = D := ⟨_, rfl⟩
  obtain ⟨w4, hw4⟩ : ∃ w4, w4 = (w2.alloc (.cells #[.int .i64 xn, .int .i64 pos] 68)).alloc (.cells #[.int .i64 q1, .int .i64 q2, .int .i64 q3, .int .i64 q4, .string q5, .int .i64 q6] 59) := ⟨_, rfl⟩
  have hb4 : Below w2.heap.size w2 w4 := by rw [hw4]; exact bl_alloc (bl_alloc (Below.refl _ _) _) _
  have RH4 : Hid (Row w4 D 68 [.int .i64 xn, .int .i64 pos]) := Lib.hid (by rw [hw4, ← hD]; exact (Row.new _ _ _).alloc _)
  have RN4 : Hid (Row w4 (D + 1) 59 (ndC ⟨q1, q2, q3, q4, q5, q6⟩)) := Lib.hid (by
    have r := Row.new (w2.alloc (.cells #[.int .i64 xn, .int .i64 pos] 68)) 59 [.int .i64 q1, .int .i64 q2, .int .i64 q3, .int .i64 q4, .string q5, .int .i64 q6]
    rw [show (w2.alloc (.cells #[.int .i64 xn, .int .i64 pos] 68)).heap.size = D + 1 by simp [hD]] at r
    rw [hw4]
    exact r)
  have V4 := Lib.hid (V2.out.below hb4)
  have HB4 := Lib.hid (HB2.out.trans (hb4.mono HB2.out.size))
  have HD := Lib.hid hD
  have HW4 := Lib.hid hw4
  clear hw4 hb4 hD hb2 hrn V1 V2
  by_cases hneg : m < 0
  · have HRB := Lib.hid (HNEG.out hneg)
    have CE := Lib.hid (show errOf E 114 = errV E 3 from errOf_code (g := 3) (by decide))
    go_wp2_with fail
    rw [← HW4.out]
    have ce := V4.out.env.toEnv.cell 3 (by decide)
    have cl : 3 < w4.heap.size := Nat.lt_of_lt_of_le (V4.out.env.toEnv.glt _ (by decide)) V4.out.env.toEnv.size
    go_region
    go_wp2
    rw [← HP.out, HRB.out]
    simp only
    rw [CE.out]
    first
      | exact ⟨⟨_, rfl, SlE.nil _ _ _ _ _⟩, V4.out.below (Below.refl _ _).drew, KV.of_below (HB4.out.drew)⟩
      | (go_ret2; exact ⟨⟨_, rfl, SlE.nil _ _ _ _ _⟩, V4.out.below (Below.refl _ _).drew, KV.of_below (HB4.out.drew)⟩)
  by_cases hend : q4 ≤ (pos : Int)
  · have HRB := Lib.hid (HEND.out (by first | exact hneg | exact Int.not_lt.1 hneg) (by rw [HRN.out]; exact hend))
    go_wp2_with fail
    rw [← HW4.out, ← HP.out, HRB.out]
    first
      | exact ⟨⟨_, rfl, SlE.nil _ _ _ _ _⟩, V4.out, KV.of_below HB4.out⟩
      | (go_ret2; exact ⟨⟨_, rfl, SlE.nil _ _ _ _ _⟩, V4.out, KV.of_below HB4.out⟩)
  have hm1 : 0 < m := by have := HM64.out.2; omega
  obtain ⟨N, hN⟩ : ∃ N : Nat, (min (min m 1024) (q4 - pos)).toNat = N := ⟨_, rfl⟩
  have hrg0 := HRES.out (by omega) (by rw [HRN.out]; show (pos : Int) < q4; omega) N (by rw [HRN.out]; exact hN)
  have hrl0 := HLST.out (by omega) (by rw [HRN.out]; show (pos : Int) < q4; omega) N (by rw [HRN.out]; exact hN)
  rw [HRN.out] at hrg0 hrl0
  simp only [Int.toNat_natCast] at hrg0 hrl0
  have HRG0 := Lib.hid hrg0
  have HRL0 := Lib.hid hrl0
  clear hrg0 hrl0
  have HFIT : Hid ((pos : Int) + (N : Int) ≤ q4 ∧ 0 < N ∧ N ≤ 1024 ∧ (pos : Int) + (N : Int) ≤ 16384) := Lib.hid (by have := HQ4.out; refine ⟨by omega, by omega, by omega, by omega⟩)
  have hmin : min (min m 1024) (q4 - (pos : Int)) = (N : Int) := by omega
  have hws : wrap64 (q4 - (pos : Int)) = q4 - (pos : Int) := by
    have := HQ4.out
    have h1 := HNUM.out.2.2.1
    simp only at h1
    clear hmin hN
    unfold wrap64
    omega
  clear hN hm1
  go_wp2_with fail
  rw [← HW4.out]
  simp only [HD.out]
  refine (spanP_any pos N (by have := HFIT.out; omega) HFIT.out.2.1 (by have := HFIT.out; omega) w4).mono ?_
  rintro e w5 ⟨⟨lv, rfl, hsl5⟩, hb5⟩
  obtain ⟨ps, hps⟩ : ∃ ps, spanP pos N = ps := ⟨_, rfl⟩
  have HPS := Lib.hid hps
  have hpk : PcK B L w5 lv (spanP pos N) := by
    rw [spanP_cons pos HFIT.out.2.1] at hsl5 ⊢
    exact PcK.of_sl hsl5
  rw [hps] at hpk
  obtain ⟨M, hM⟩ : ∃ M, ps.length = M := ⟨_, rfl⟩
  have HM := Lib.hid hM
  have hpk2 := hpk
  obtain ⟨lh, lo, lcap, rfl, -⟩ := hpk2
  have PK5 := Lib.hid hpk
  rw [hM] at PK5
  rw [hM]
  have V5 := Lib.hid (V4.out.below hb5)
  have RH5 := Lib.hid (RH4.out.below hb5)
  have RN5 := Lib.hid (RN4.out.below hb5)
  have HB5 := Lib.hid (HB4.out.trans (hb5.mono HB4.out.size))
  have hpl : M ≤ N := by rw [← hM, ← hps]; exact spanP_len N pos
  have HML : Hid (M ≤ 16384) := Lib.hid (by have := HFIT.out; omega)
  clear hps hpk hM hsl5 hpl V4 RN4 RH4 hb5 hmin hws hneg hend
  go_wp2_with fail
  go_loopw [11, 13, 14, 15, 50] (fun v11 _ _ _ v50 wr => ∃ (j a n : Nat) (done : List Int), v50 = .int .i64 j ∧ j ≤ M ∧ done ++ readAt (s.g q1) a n = readAt (s.g q1) pos N ∧ spanP a n = ps.drop j ∧ a + n = pos + N ∧ done.length + n = N ∧ (∀ q ∈ ps.take j, lostB (s.g q1 q.1) = false) ∧ SlE wr w5.heap.size 5 1 encB1 v11 done ∧ Below w5.heap.size w5 wr) (fun _ _ _ _ v50 _ => M - (intOf v50).toNat)
  case atStart => exact ⟨0, pos, N, [], rfl, Nat.zero_le _, rfl, by rw [HPS.out]; rfl, rfl, by simp, (fun q hq => by simp at hq), SlE.nil _ _ _ _ _, Below.refl _ _⟩
  case round =>
    obtain ⟨j, a, n, done, rfl, hj, hlay, hsp, hab, hdn, hno, hsl, hb⟩ := hrel
    have HNO := Lib.hid hno
    have HBr := Lib.hid hb
    have HJ := Lib.hid hj
    have HLAY := Lib.hid hlay
    have HSP := Lib.hid hsp
    have HAB := Lib.hid hab
    have HDN := Lib.hid hdn
    have HSL := Lib.hid hsl
    clear hb hj hlay hsp hab hdn hno hsl
    by_cases hjm : j < M
    case neg =>
      have hjm2 : ¬ ((j : Int) < (M : Int)) := by omega
      have HJE : Hid (j = M) := Lib.hid (by have := HJ.out; omega)
      have hn0 : n = 0 := by
        have h1 := HSP.out
        have hj2 : j = M := by have := HJ.out; omega
        rw [hj2, ← HM.out, List.drop_length] at h1
        rcases Nat.eq_zero_or_pos n with h0 | h0
        · exact h0
        · rw [spanP_cons a h0] at h1
          cases h1
      subst hn0
      have HD2 := Lib.hid (show done = readAt (s.g q1) pos N by have := HLAY.out; rw [readAt_zero, List.append_nil] at this; exact this)
      clear hjm
      have hwp : wrap64 ((pos : Int) + (N : Int)) = (pos : Int) + (N : Int) := by
        have := HFIT.out
        unfold wrap64
        omega
      have VR := Lib.hid (V5.out.below HBr.out)
      have RHr := Lib.hid (RH5.out.below HBr.out)
      have HWFF := Lib.hid (VR.out.wf.moved HX.out (q := (pos : Int) + (N : Int)) (by have := HFIT.out; omega) (by have := HFIT.out; omega))
      have HKM : Hid (∀ s' w', VAt E B L p s' w' → KV B L NoB wr w' → w'.cell? ⟨p.v, 2, none⟩ = some (.pointer (some ⟨p.fb, 0, none⟩)) ∧ w'.cell? ⟨D, 1, none⟩ = some (.int .i64 pos)) := Lib.hid fun s' w' hv hk => by
        obtain ⟨c0, c1, c2, t0, t1⟩ := hv.vc
        exact ⟨c2, (RHr.out.kv (plainI _ _) hk).cell' (i := 1) rfl⟩
      have HWK : Hid (IntKind.i64.wrap ((pos : Int) + (N : Int)) = (pos : Int) + (N : Int)) := Lib.hid (IntWalk.i64_in _ (by have := HFIT.out; omega))
      have HNE : Hid (done ≠ []) := Lib.hid (fun e => by have h1 := HDN.out; have := HFIT.out; rw [e, List.length_nil] at h1; omega)
      have hd0 : (0 : Int) ≤ (pos : Int) + (N : Int) ∧ (pos : Int) + (N : Int) ≤ 1099511627776 := by have := HFIT.out; omega
      have HD0 := Lib.hid hd0
      clear hd0
      go_wp2_with fail
      clear hjm2
      go_region_held3 (fun w' => w'.cell? ⟨p.v, 2, none⟩ = some (.pointer (some ⟨p.fb, 0, none⟩)) ∧ w'.cell? ⟨D, 1, none⟩ = some (.int .i64 pos)) (first | exact HKM.out _ _ (VR.out.below (Below.refl _ _).drew) (KV.of_below (Below.refl _ _).drew) | exact HKM.out _ _ V9.out K9.out)
        (first
          | (go_at_call 42; rw [HWK.out]; refine (va_move (VR.out.below (Below.refl _ _).drew) HNUM.out.1 HX.out HD0.out.1 HD0.out.2 HWFF.out).mono ?_; rintro e w9 ⟨rfl, hv9, hk9⟩; have V9 := Lib.hid hv9; have K9 := Lib.hid ((KV.of_below (Below.refl wr.heap.size wr).drew).trans hk9); clear hv9 hk9))
      have S9 := Lib.hid ((HSL.out.kvB HNE.out K9.out).mono (HB5.out.size))
      have hrg := HRG0.out (any_no (by
        have h1 := HNO.out
        rw [HJE.out, ← HM.out, List.take_length, ← HPS.out] at h1
        exact h1))
      rw [← HD2.out] at hrg
      have HRG2 := Lib.hid hrg
      have KF := Lib.hid ((KV.of_below (HB5.out.trans (HBr.out.mono HB5.out.size))).trans K9.out)
      clear hrg
      go_wp2
      rw [← HP.out, HRG2.out]
      first
        | exact ⟨⟨_, rfl, S9.out⟩, V9.out, KF.out⟩
        | (go_ret2; exact ⟨⟨_, rfl, S9.out⟩, V9.out, KF.out⟩)
    case pos =>
      have hjm2 : (j : Int) < (M : Int) := by omega
      have hn : 0 < n := by
        rcases Nat.eq_zero_or_pos n with h0 | h0
        · exfalso
          have h1 := HSP.out
          rw [h0, spanP_zero] at h1
          have h2 := congrArg List.length h1
          rw [List.length_drop, HM.out] at h2
          simp at h2
          omega
        · exact h0
      have hmd := Nat.mod_lt a (show 256 > 0 by decide)
      obtain ⟨i, hi⟩ : ∃ i, a / 256 = i := ⟨_, rfl⟩
      obtain ⟨f, hf⟩ : ∃ f, a % 256 = f := ⟨_, rfl⟩
      obtain ⟨m', hmm⟩ : ∃ m', min n (256 - f) = m' := ⟨_, rfl⟩
      have hsp := HSP.out
      rw [spanP_cons a hn, hi, hf, hmm] at hsp
      have hget : ps[j]? = some (i, f, f + m') := by
        have := congrArg (fun l : List (Nat × Nat × Nat) => l[0]?) hsp
        simp only [List.getElem?_cons_zero, List.getElem?_drop, Nat.add_zero] at this
        exact this.symm
      have hspn : spanP (a + m') (n - m') = ps.drop (j + 1) := by
        have := congrArg (fun l : List (Nat × Nat × Nat) => l.drop 1) hsp
        simp only [List.drop_succ_cons, List.drop_zero, List.drop_drop] at this
        rw [this]
      have hlay := HLAY.out
      rw [readAt_cons _ a hn, hi, hf, hmm] at hlay
      have HLAY2 := Lib.hid hlay
      have HSPN := Lib.hid hspn
      have hpi : i < 64 := by have := HAB.out; have := HFIT.out; omega
      have HNN : Hid (f + m' ≤ 256 ∧ 1 ≤ m' ∧ m' ≤ n) := Lib.hid (by refine ⟨by omega, by omega, by omega⟩)
      obtain ⟨y0, y1, y2⟩ : wr.cell? ⟨lh, lo + j * 3, none⟩ = some (.int .i64 i) ∧ wr.cell? ⟨lh, lo + j * 3 + 1, none⟩ = some (.int .i64 f) ∧ wr.cell? ⟨lh, lo + j * 3 + 2, none⟩ = some (.int .i64 ((f + m' : Nat) : Int)) := by
        obtain ⟨h', o', c', e1, _, _, e4⟩ := PK5.out.kv (KV.of_below HBr.out)
        injection e1 with e1
        injection e1 with e1
        injection e1 with e1 e2
        subst e1 e2
        exact e4 j _ hget
      obtain ⟨T, hT⟩ : ∃ T : Nat, f + m' = T := ⟨_, rfl⟩
      rw [hT] at y2
      obtain ⟨P, hP⟩ : ∃ P, wr.heap.size = P := ⟨_, rfl⟩
      obtain ⟨wq, hwq⟩ : ∃ wq, wq = wr.alloc (.cells #[.int .i64 i, .int .i64 f, .int .i64 T] 74) := ⟨_, rfl⟩
      have hbq : Below wr.heap.size wr wq := by rw [hwq]; exact bl_alloc (Below.refl _ _) _
      have RP : Hid (Row wq P 74 [.int .i64 i, .int .i64 f, .int .i64 T]) := Lib.hid (by rw [hwq, ← hP]; exact Row.new _ _ _)
      have HBq := Lib.hid (HBr.out.trans (hbq.mono HBr.out.size))
      have SLq := Lib.hid (HSL.out.below hbq)
      have HWQ := Lib.hid hwq
      have HPE := Lib.hid hP
      have HPI := Lib.hid hpi
      have HTE := Lib.hid hT
      have HKQ : Hid (∀ w', Below wq.heap.size wq w' → w'.cell? ⟨p.v, 1, none⟩ = some (.pointer (some ⟨p.bb, 0, none⟩)) ∧ w'.cell? ⟨D + 1, 0, none⟩ = some (.int .i64 q1) ∧ w'.cell? ⟨P, 0, none⟩ = some (.int .i64 i)) := Lib.hid fun w' hb => by
        have hb2 := HBq.out.trans (hb.mono HBq.out.size)
        obtain ⟨c0, c1, c2, t0, t1⟩ := (V5.out.below hb2).vc
        exact ⟨c1, (RN5.out.below hb2).cell' (i := 0) rfl, (RP.out.below hb).cell' (i := 0) rfl⟩
      have hq164 : In64 q1 := in64_of (by have := HNUM.out; have := HRN.out; rw [HRN.out] at *; simp only at *; omega) (by have := HNUM.out; rw [HRN.out] at *; simp only at *; omega)
      have HGET := Lib.hid hget
      clear hwq hP hpi hbq hget hi hf hmm hT hsp hspn hlay hn hmd
      by_cases hnl2 : s.g q1 i = some none
      case pos =>
        have HRL := Lib.hid (HRL0.out (by rw [HPS.out]; exact any_yes HGET.out hnl2))
        have CE := Lib.hid (show errOf E 107 = errV E 5 from errOf_code (g := 5) (by decide))
        go_wp2_with fail
        rw [← HWQ.out]
        simp only [HPE.out]
        clear y0 y1 y2 hjm2
        go_region_held3 (fun w' => w'.cell? ⟨p.v, 1, none⟩ = some (.pointer (some ⟨p.bb, 0, none⟩)) ∧ w'.cell? ⟨D + 1, 0, none⟩ = some (.int .i64 q1) ∧ w'.cell? ⟨P, 0, none⟩ = some (.int .i64 i)) (first | exact HKQ.out _ (Below.refl _ _).drew | exact HKQ.out _ HB9.out)
          (first
            | (go_at_call 29; refine (va_bget_lost (V5.out.below (HBq.out.trans ((Below.refl wq.heap.size wq).drew.mono HBq.out.size))) hq164 HPI.out hnl2).mono ?_; rintro e w9 ⟨rfl, hb9⟩; have HB9 := Lib.hid ((Below.refl wq.heap.size wq).drew.trans hb9); clear hb9))
        have V9 := Lib.hid (V5.out.below (HBq.out.trans (HB9.out.mono HBq.out.size)))
        have K9 := Lib.hid (KV.of_below (B := B) (L := L) (X := NoB) (HB5.out.trans ((HBq.out.trans (HB9.out.mono HBq.out.size)).mono HB5.out.size)))
        go_wp2
        rw [← HP.out, HRL.out]
        simp only
        rw [CE.out]
        first
          | exact ⟨⟨_, rfl, SlE.nil _ _ _ _ _⟩, V9.out, K9.out⟩
          | (go_ret2; exact ⟨⟨_, rfl, SlE.nil _ _ _ _ _⟩, V9.out, K9.out⟩)
      go_wp2_with fail
      rw [← HWQ.out]
      simp only [HPE.out]
      clear y0 y1 y2 hjm2
      go_region_held3 (fun w' => w'.cell? ⟨p.v, 1, none⟩ = some (.pointer (some ⟨p.bb, 0, none⟩)) ∧ w'.cell? ⟨D + 1, 0, none⟩ = some (.int .i64 q1) ∧ w'.cell? ⟨P, 0, none⟩ = some (.int .i64 i)) (first | exact HKQ.out _ (Below.refl _ _).drew | exact HKQ.out _ HB9.out)
        (first
          | (go_at_call 29; refine (va_bget (V5.out.below (HBq.out.trans ((Below.refl wq.heap.size wq).drew.mono HBq.out.size))) hq164 HPI.out hnl2).mono ?_; rintro e w9 ⟨⟨oh, ocap, rfl, -, hbuf⟩, hb9⟩; have HBUF := Lib.hid hbuf; have HB9 := Lib.hid ((Below.refl wq.heap.size wq).drew.trans hb9); clear hb9 hbuf))
      have r9 := RP.out.below HB9.out
      have x1 := r9.cell' (i := 1) rfl
      have x2 := r9.cell' (i := 2) rfl
      have xl := r9.lt
      have SL9 := Lib.hid (SLq.out.below HB9.out)
      have hlen : (bytesOf (s.g q1 i)).length = 256 := bytesOf_len (V5.out.wf.wf q1) i
      have rd := RdE.ofBuf HBUF.out
      rw [hlen] at rd
      have hcap := rd.len.2
      have RD9 := Lib.hid rd
      have HLEN := Lib.hid hlen
      have hT1 : (f : Int) ≤ (T : Int) := by have := HTE.out; have := HNN.out; omega
      have hT2 : (T : Int) ≤ 256 := by have := HTE.out; have := HNN.out; omega
      have hT3 : (T : Int) ≤ (ocap : Int) := by omega
      have hcf : (ocap = f) = False := eq_false (by have := HTE.out; have := HNN.out; omega)
      have HRS : Hid (RdE w9 1 encB1 (.slice (some ⟨oh, f, none⟩) (T - f) (ocap - f)) (((bytesOf (s.g q1 i)).drop f).take m')) := Lib.hid (by
        have hl : f ≤ T ∧ T ≤ 256 ∧ T - f = m' := by have := HTE.out; have := HNN.out; omega
        have h := RdE.sliced RD9.out (l := f) (h := T) hl.1 (by rw [HLEN.out]; exact hl.2.1)
        unfold Go.sliced at h
        rw [if_neg (by rw [hcf]; exact id), hl.2.2] at h
        rw [hl.2.2]
        have e : (⟨oh, 0, none⟩ : Addr).add (f * 1) = ⟨oh, f, none⟩ := by unfold Addr.add; split <;> simp_all
        simp only [Option.map_some] at h
        rw [e] at h
        exact h)
      have HDL : Hid (done.length ≤ 16384 ∧ (((bytesOf (s.g q1 i)).drop f).take m').length = m' ∧ m' ≤ 256) := Lib.hid ⟨by have := HDN.out; have := HFIT.out; omega, by rw [List.length_take, List.length_drop, HLEN.out]; have := HNN.out; omega, by have := HNN.out; omega⟩
      have HBS : Hid (w5.heap.size ≤ w9.heap.size) := Lib.hid (Nat.le_trans HBr.out.size (Nat.le_trans (by have := HWQ.out; rw [this]; simp) HB9.out.size))
      clear r9 rd hlen hcap
      have hw64 : wrap64 ((j : Int) + 1) = (j : Int) + 1 := by
        have := HML.out
        have := HJ.out
        unfold wrap64
        omega
      go_wp2_with (at_builtin; refine wpList_app u8T rfl _ _ rfl rfl SL9.out rfl HRS.out (by have := HDL.out; unfold maxLen; omega) (by have := HDL.out; omega) HBS.out ?_; intro v' w' hs' ht'; have HS' := Lib.hid hs'; have HT' := Lib.hid ht'; clear hs' ht')
      have hbt := HT'.out.below HBS.out (fun x hx => (SL9.out.lt x hx).1)
      have HBT := Lib.hid ((HBq.out.trans (HB9.out.mono HBq.out.size)).trans hbt)
      clear hbt
      go_roundw
      case rel =>
        have hn4 := HNN.out
        have hs4 := HAB.out
        have hl4 := HDN.out
        have hd4 := HDL.out.2.1
        refine ⟨j + 1, a + m', n - m', done ++ ((bytesOf (s.g q1 i)).drop f).take m', by rw [hw64]; rfl, by have := HJ.out; omega, ?_, HSPN.out, by omega, by rw [List.length_append, hd4]; omega, take_next HGET.out HNO.out (lostB_no hnl2), HS'.out, HBT.out⟩
        rw [List.append_assoc]
        exact HLAY2.out
      case measure => rw [hw64]; simp only [intOf]; have := HJ.out; omega
theorem vread_any (h : VAt E B L p s w) {fd : Nat} {x : Hdl} {r : NR} (hx : s.fs fd = some x) (hr : s.st.get x.node = some r) (hnl : ∀ i, s.g r.nd.id i ≠ some none) {m : Int} (hm : In64 m) (hm0 : m ≠ 0) :
    Calls Tryz.prog 15 #[.pointer (some ⟨p.v, 0, none⟩), .int .i64 fd, .int .i64 m] w fun e w' => (∃ v, e = .returned (.tuple #[v, errOf E (readV s fd m).1]) ∧ SlE w' w.heap.size 5 1 encB1 v (readV s fd m).2.1) ∧ VAt E B L p (readV s fd m).2.2 w' ∧ KV B L NoB w w' := vreadl_any h hx hr hm hm0
end
end Go.Proofs.YtjekpbkmhgfhoaaGreatDoor
end

section
/- The closure of vol's create: a file is made, and opened. -/
namespace Go.Proofs.YtjekpbkmhgfhoaaGreatDoor
open Go Go.RowKit
set_option maxRecDepth 100000
set_option linter.unusedSimpArgs false
set_option linter.unusedVariables false
attribute [local go_sem] giv
variable {E : Nat → Addr} {B : Nat}
theorem makeT_node {s : St} (f : Full s) {a : ByteArray} {kind : Int} {tx : ByteArray} (h : (makeT s a kind tx).1 = 0) : ∃ r, (makeT s a kind tx).2.2.get (makeT s a kind tx).2.1 = some r ∧ r.nd.kind = kind := by
  unfold makeT at h ⊢
  simp only at h ⊢
  split at h
  · rename_i h1; simp only at h; exact (h1 h).elim
  · rename_i h1
    rw [if_neg h1]
    split at h
    · simp at h
    · rename_i h2
      rw [if_neg h2]
      split at h
      · rename_i h3; simp only at h; exact (h3.2 h).elim
      · rename_i h3
        rw [if_neg h3]
        split at h
        · rename_i h4; simp only at h; exact (h4 h).elim
        · rename_i h4
          rw [if_neg h4]
          split at h
          · simp at h
          · rename_i h5
            rw [if_neg h5]
            simp only
            rw [get_addE, get_put f.rise, if_pos rfl]
            have key : ∀ (b : Prop) [Decidable b] (x y : NR), x.nd.kind = kind → y.nd.kind = kind → (if b then x else y).nd.kind = kind := by
              intro b _ x y hx hy
              split
              · exact hx
              · exact hy
            exact ⟨_, rfl, key _ _ _ rfl rfl⟩
theorem openF_wf {s : V} (h : VWf s) {id : Int} {r : NR} (hr : s.st.get id = some r) (hk : r.nd.kind = 1) {fd : Nat} (hfd : fd < 16) : VWf { s with fs := fun k => if k = fd then some ⟨id, 0⟩ else s.fs k } :=
  ⟨h.full, h.blk, h.wf, fun j x hx => by
    simp only at hx
    split at hx
    · rename_i he
      injection hx with hx
      subst hx
      exact ⟨by omega, by simp, by simp, r, hr, hk⟩
    · exact h.fs j x hx⟩
section
variable {L : Nat → Prop} {p : VP} {s : V} {w w' : World}
theorem KV.setX {b : Nat} (h : KV B L (fun y => y = b) w w') (v : Value) : KV B L (fun y => y = b) w (w'.setCell ⟨b, 0, none⟩ v) :=
  Touch.setCell (S := fun x => (B ≤ x ∧ ¬ L x ∧ ¬ Plain w x) ∨ x = b) h (.inl (.inr rfl)) _
set_option maxHeartbeats 2000000 in
/-- The closure: code, file number, state as createA; the number lies in the box fb. -/
theorem create1_any (h : VAt E B L p s w) (x : ByteArray) {b1 b2 : Nat} {T2 : TypeId} (h1 : Box w b1 (.string x)) {n0 : Int} (h2 : Row w b2 T2 [.int .i64 n0]) (hL : L b2) (hB : B ≤ b2) (h12 : b1 ≠ b2) :
    Calls Tryz.prog 56 #[.pointer (some ⟨p.v, 0, none⟩), .pointer (some ⟨b1, 0, none⟩), .pointer (some ⟨b2, 0, none⟩)] w fun e w' =>
      e = .returned (errOf E (createA x s).1) ∧ ((createA x s).1 = 0 → VAt E B L p (createA x s).2.2 w' ∧ Row w' b2 T2 [.int .i64 (createA x s).2.1]) ∧ KV B L (fun y => y = b2) w w' ∧ ∃ n : Int, Row w' b2 T2 [.int .i64 n] := by
  have hfull := h.wf.full
  have hwf1 := h.wf.tree (makeT_full hfull x 1 noText) (makeT_keep hfull x 1 noText)
  have HMK := Lib.hid (fun (w' : World) (hc : VAt E B L p s w') => va_make hc x noText (k := 1) (by decide) hwf1)
  have HNODE : Hid ((makeT s.st x 1 noText).1 = 0 → ∃ r, (makeT s.st x 1 noText).2.2.get (makeT s.st x 1 noText).2.1 = some r ∧ r.nd.kind = 1) := Lib.hid (fun hc => makeT_node hfull hc)
  have HA : Hid (createA x s = if (makeT s.st x 1 noText).1 ≠ 0 then ((makeT s.st x 1 noText).1, 0, { s with st := (makeT s.st x 1 noText).2.2 }) else openF { s with st := (makeT s.st x 1 noText).2.2 } (makeT s.st x 1 noText).2.1) := Lib.hid rfl
  have HSPL := Lib.hid (err_split (E := E) (makeT_code s.st x 1 noText))
  obtain ⟨MT, hMT⟩ : ∃ MT, makeT s.st x 1 noText = MT := ⟨_, rfl⟩
  rw [hMT] at HMK HNODE HA HSPL hwf1
  obtain ⟨mc, mid, ms⟩ := MT
  simp only at HMK HNODE HA HSPL hwf1
  obtain ⟨s1, hs1⟩ : ∃ s1 : V, { s with st := ms } = s1 := ⟨_, rfl⟩
  rw [hs1] at HMK HA hwf1
  obtain ⟨R, hR⟩ : ∃ R, createA x s = R := ⟨_, rfl⟩
  rw [hR] at HA ⊢
  generalize hP : (fun (e : Ending) (w' : World) => e = .returned (errOf E R.1) ∧ (R.1 = 0 → VAt E B L p R.2.2 w' ∧ Row w' b2 T2 [.int .i64 R.2.1]) ∧ KV B L (fun y => y = b2) w w' ∧ ∃ n : Int, Row w' b2 T2 [.int .i64 n]) = Post
  have HP := Lib.hid hP
  have H := Lib.hid h
  have H1 := Lib.hid h1
  have H2 := Lib.hid h2
  have HWF1 := Lib.hid hwf1
  have HS1 := Lib.hid hs1
  have HLB := Lib.hid (And.intro hL hB)
  have HKM : Hid (∀ s' w', VAt E B L p s' w' → KV B L NoB w w' → w'.cell? ⟨p.v, 0, none⟩ = some (.pointer (some ⟨p.a, 0, none⟩)) ∧ w'.cell? ⟨b1, 0, none⟩ = some (.string x)) := Lib.hid fun s' w' hv hk => ⟨hv.cells.1, (h1.kv (plainS _) hk).1⟩
  clear hP h h1 h2 hL hB h12 hwf1 hMT hR hs1 hfull
  go_enter Tryz.func56, Tryz.ntmps56
  go_wp2_with fail
  go_region_held3 (fun w' => w'.cell? ⟨p.v, 0, none⟩ = some (.pointer (some ⟨p.a, 0, none⟩)) ∧ w'.cell? ⟨b1, 0, none⟩ = some (.string x)) (first | exact HKM.out _ _ (H.out.below (Below.refl _ _).drew) (KV.of_below (Below.refl _ _).drew) | exact HKM.out _ _ V2.out K2.out)
    (first
      | (go_at_call 57; refine (HMK.out _ (H.out.below (Below.refl _ _).drew)).mono ?_; rintro e w2 ⟨rfl, hv2, hk2⟩; have V2 := Lib.hid hv2; have K2 := Lib.hid ((KV.of_below (Below.refl w.heap.size w).drew).trans hk2); clear hv2 hk2))
  rcases HSPL.out with ⟨hc, he⟩ | ⟨hc, ⟨ep, he⟩⟩
  case inr =>
    have HE := Lib.hid he
    have HR2 : Hid (R = (mc, 0, s1)) := Lib.hid (by rw [HA.out, if_pos hc])
    have HC2 := Lib.hid hc
    rw [he]
    clear he hc
    go_wp2
    rw [← HP.out]
    have hfin : (Ending.returned (.iface 295 (.pointer (some ep))) : Ending) = .returned (errOf E R.1) ∧ (R.1 = 0 → VAt E B L p R.2.2 w2 ∧ Row w2 b2 T2 [.int .i64 R.2.1]) ∧ KV B L (fun y => y = b2) w w2 ∧ ∃ n : Int, Row w2 b2 T2 [.int .i64 n] := by
      rw [HR2.out]
      exact ⟨by rw [HE.out], fun h => (HC2.out h).elim, K2.out.anyX, n0, H2.out.kv (plainI _ _) K2.out⟩
    first
      | exact hfin
      | (go_ret; exact hfin)
  case inl =>
    subst hc
    rw [he]
    have HRO : Hid (R = openF s1 mid) := Lib.hid (by rw [HA.out, if_neg (by simp)])
    have r2 := H2.out.kv (plainI _ _) K2.out
    have x0 := r2.cell' (i := 0) rfl
    have xf := fun i => r2.froz i
    have xl := r2.lt
    obtain ⟨c0, c1, c2, c3, cl⟩ := V2.out.cells
    have HNI : Hid (In64 mid) := Lib.hid (by
      obtain ⟨r, hr, hk⟩ := HNODE.out rfl
      have hst : s1.st = ms := by rw [← HS1.out]
      have := valid_ids (V2.out.wf.full.val r (findN_mem (by rw [← hst] at hr; exact hr)))
      have hid := findN_id hr
      exact in64_of (by omega) (by omega))
    have HTY := Lib.hid r2
    clear he r2
    cases hfd : fdOf s1.fs with
    | none =>
      have HR2 : Hid (R = (120, 0, s1)) := Lib.hid (by rw [HRO.out]; unfold openF; rw [hfd])
      have HN := Lib.hid hfd
      have CE := Lib.hid (show errOf E 120 = errV E 4 from errOf_code (g := 4) (by decide))
      clear hfd
      go_wp2_with fail
      refine (va_fopen_no V2.out mid HN.out).mono ?_
      rintro e w3 ⟨rfl, hb3⟩
      have V3 := Lib.hid (V2.out.below hb3)
      have r3 := HTY.out.below hb3
      have K3 := Lib.hid (K2.out.then hb3)
      have x0 := r3.cell' (i := 0) rfl
      have xf := fun i => r3.froz i
      have xl := r3.lt
      have HT3 := Lib.hid r3
      clear r3 hb3 c0 c1 c2 c3 cl
      go_wp2
      rw [← HP.out]
      have hfin : ∀ w4, w4 = w3.setCell ⟨b2, 0, none⟩ (.int .i64 0) → (Ending.returned (errV E 4) : Ending) = .returned (errOf E R.1) ∧ (R.1 = 0 → VAt E B L p R.2.2 w4 ∧ Row w4 b2 T2 [.int .i64 R.2.1]) ∧ KV B L (fun y => y = b2) w w4 ∧ ∃ n : Int, Row w4 b2 T2 [.int .i64 n] := by
        rintro w4 rfl
        rw [HR2.out]
        exact ⟨by rw [CE.out], fun h => by simp at h, KV.setX K3.out.anyX _, _, HT3.out.set 0 _⟩
      first
        | exact hfin _ rfl
        | (go_ret; exact hfin _ rfl)
    | some fd =>
      have HR2 : Hid (R = (0, fd, { s1 with fs := fun k => if k = fd then some ⟨mid, 0⟩ else s1.fs k })) := Lib.hid (by rw [HRO.out]; unfold openF; rw [hfd])
      have HN := Lib.hid hfd
      have HW2 : Hid (VWf { s1 with fs := fun k => if k = fd then some ⟨mid, 0⟩ else s1.fs k }) := Lib.hid (by
        obtain ⟨r, hr, hk⟩ := HNODE.out rfl
        have hst : s1.st = ms := by rw [← HS1.out]
        exact openF_wf V2.out.wf (by rw [hst]; exact hr) hk (fdOf_some hfd).1)
      clear hfd
      go_wp2_with fail
      refine (va_fopen V2.out mid HN.out HW2.out).mono ?_
      rintro e w3 ⟨rfl, hv3, hk3⟩
      have V3 := Lib.hid hv3
      have r3 := HTY.out.kv (plainI _ _) hk3
      have K3 := Lib.hid (K2.out.trans hk3)
      have x0 := r3.cell' (i := 0) rfl
      have xf := fun i => r3.froz i
      have xl := r3.lt
      have HT3 := Lib.hid r3
      clear r3 hv3 hk3 c0 c1 c2 c3 cl
      go_wp2
      rw [← HP.out]
      have hfin : ∀ w4, w4 = w3.setCell ⟨b2, 0, none⟩ (.int .i64 fd) → (Ending.returned .nilIface : Ending) = .returned (errOf E R.1) ∧ (R.1 = 0 → VAt E B L p R.2.2 w4 ∧ Row w4 b2 T2 [.int .i64 R.2.1]) ∧ KV B L (fun y => y = b2) w w4 ∧ ∃ n : Int, Row w4 b2 T2 [.int .i64 n] := by
        rintro w4 rfl
        rw [HR2.out]
        exact ⟨rfl, fun _ => ⟨V3.out.set HLB.out.1 HLB.out.2 0 _, HT3.out.set 0 _⟩, KV.setX K3.out.anyX _, _, HT3.out.set 0 _⟩
      first
        | exact hfin _ rfl
        | (go_ret; exact hfin _ rfl)
end
end Go.Proofs.YtjekpbkmhgfhoaaGreatDoor
end

section
/- The walk of vol's create. -/
namespace Go.Proofs.YtjekpbkmhgfhoaaGreatDoor
open Go Go.RowKit
set_option maxRecDepth 100000
set_option linter.unusedSimpArgs false
set_option linter.unusedVariables false
attribute [local go_sem] giv
variable {E : Nat → Addr} {B : Nat}
section
variable {L : Nat → Prop} {p : VP} {s : V} {w w' : World}
theorem va_last (h : VAt E B L p s w) {sp : Option Addr} {np cap : Nat} {ps : List ByteArray} (rp : RdS w (.slice sp np cap) ps) (hlen : ps.length ≤ 1000) (hsm : ∀ x ∈ ps, x.size ≤ 1000000) (slash : Bool) :
    Calls Tryz.prog 55 #[.pointer (some ⟨p.b, 0, none⟩), .agg #[.slice sp np cap, .bool slash]] w fun e w' =>
      e = .returned (.tuple #[.agg #[.int .i64 (lastP s.st ⟨ps, slash⟩).2.dir, .int .i64 (lastP s.st ⟨ps, slash⟩).2.node, .string (lastP s.st ⟨ps, slash⟩).2.name], errOf E (lastP s.st ⟨ps, slash⟩).1]) ∧ VAt E B L p s w' ∧ KV B L NoB w w' := by
  obtain ⟨fm, lab, gd, n, k, fn, h⟩ := h
  refine (wlast_any h.wb.wide h.wf.full rp hlen hsm slash h.env).mono ?_
  rintro e w' ⟨h1, h2, h3⟩
  obtain ⟨k1, k2⟩ := h.tree (X := NoB) (st' := s.st) (h2.less fun x hx => .inl hx) h3 h.wf
  exact ⟨h1, ⟨fm, lab, gd, n, k, fn, k1⟩, k2⟩
theorem SlS.kv {base : Nat} {v : Value} {ks : List ByteArray} (h : SlS w base v ks) (k : KV B L NoB w w') : RdS w' v ks := by
  cases ks with
  | nil =>
    rcases h.cases with ⟨rfl, -⟩ | ⟨g, cap, rfl, -, -, h1, -⟩
    · exact ⟨none, 0, rfl, Nat.le_refl _, fun _ => rfl, fun h => (h rfl).elim⟩
    · exact ⟨_, cap, rfl, h1, (fun h => by cases h), fun h => (h rfl).elim⟩
  | cons y ys =>
    refine SlE.rd (SlE.touch h k fun x hx hs => ?_) (fun _ => rfl)
    rcases hs with hs | hs
    · have := World.ownsRow.cells h (g := x) hx 0 (.string y) rfl
      exact hs.2.2 ⟨.string y, this, plainS _⟩
    · exact hs.elim
theorem createV_bad {x : ByteArray} (h : (parseP x).1 ≠ 0) : createV s x = ((parseP x).1, 0, s) := by
  unfold createV
  simp only
  rw [if_pos h]
theorem createV_last {x : ByteArray} (h : (parseP x).1 = 0) (h2 : (lastP s.st (parseP x).2).1 ≠ 0) : createV s x = ((lastP s.st (parseP x).2).1, 0, s) := by
  unfold createV
  simp only
  rw [if_neg (by rw [h]; simp), if_pos h2]
theorem createV_there {x : ByteArray} (h : (parseP x).1 = 0) (h2 : (lastP s.st (parseP x).2).1 = 0) (h3 : 0 < (lastP s.st (parseP x).2).2.node) : createV s x = (109, 0, s) := by
  unfold createV
  simp only
  rw [if_neg (by rw [h]; simp), if_neg (by rw [h2]; simp), if_pos h3]
theorem createV_go {x : ByteArray} (h : (parseP x).1 = 0) (h2 : (lastP s.st (parseP x).2).1 = 0) (h3 : ¬ 0 < (lastP s.st (parseP x).2).2.node) :
    createV s x = (triedC s (createA x s).1 (createA x s).2.2, if triedC s (createA x s).1 (createA x s).2.2 = 0 then (createA x s).2.1 else 0, triedS s (createA x s).1 (createA x s).2.2) := by
  unfold createV
  simp only
  rw [if_neg (by rw [h]; simp), if_neg (by rw [h2]; simp), if_neg h3]
  have e1 := triedV_one s (fun c => ((createA x c).1, (createA x c).2.2))
  have e2 := triedV_two s (fun c => ((createA x c).1, (createA x c).2.2))
  simp only at e1 e2
  rw [e1, e2]
  by_cases h0 : triedC s (createA x s).1 (createA x s).2.2 = 0
  · rw [if_neg (by rw [h0]; simp), if_pos h0, h0]
  · rw [if_pos h0, if_neg h0]
theorem createA_code (x : ByteArray) (s : V) : CodeOk (createA x s).1 := by
  unfold createA
  simp only
  split
  · exact makeT_code _ _ _ _
  · unfold openF
    split
    · refine .inr ⟨?_, ?_⟩ <;> simp
    · exact .inl rfl
theorem triedC_code {c : Int} (hc : CodeOk c) (s1 : V) : CodeOk (triedC s c s1) := by
  unfold triedC
  split
  · exact hc
  · split
    · exact .inr (by decide)
    · exact .inl rfl
theorem KV.trans2 {w'' : World} {G : Nat} (h : KV B L NoB w w') (k : KV B (fun y => y = G ∨ L y) (fun y => y = G) w' w'') (hG : w.heap.size ≤ G) : KV B L NoB w w'' := by
  refine Touch.trans h k fun x hx hl => ?_
  rcases hx with ⟨h1, h2, h3⟩ | hx
  · refine .inl ⟨h1, fun hl => h2 (.inr hl), fun hp => h3 (plain_keep hp (h.block x hl fun hs => ?_))⟩
    rcases hs with hs | hs
    · exact hs.2.2 hp
    · exact hs
  · omega
set_option maxHeartbeats 8000000 in
theorem vcreate_any (h : VAt E B L p s w) (x : ByteArray) :
    Calls Tryz.prog 25 #[.pointer (some ⟨p.v, 0, none⟩), .string x] w fun e w' => e = .returned (.tuple #[.int .i64 (createV s x).2.1, errOf E (createV s x).1]) ∧ VAt E B L p (createV s x).2.2 w' ∧ KV B L NoB w w' := by
  have HBAD := Lib.hid (createV_bad (s := s) (x := x))
  have HLAST := Lib.hid (createV_last (s := s) (x := x))
  have HTHERE := Lib.hid (createV_there (s := s) (x := x))
  have HGO := Lib.hid (createV_go (s := s) (x := x))
  obtain ⟨R, hR⟩ : ∃ R, createV s x = R := ⟨_, rfl⟩
  rw [hR] at HBAD HLAST HTHERE HGO ⊢
  generalize hP : (fun (e : Ending) (w' : World) => e = .returned (.tuple #[.int .i64 R.2.1, errOf E R.1]) ∧ VAt E B L p R.2.2 w' ∧ KV B L NoB w w') = Post
  have HP := Lib.hid hP
  have H := Lib.hid h
  obtain ⟨A, hA⟩ : ∃ A, w.heap.size = A := ⟨_, rfl⟩
  obtain ⟨w1, hw1⟩ : ∃ w1, w1 = w.alloc (.cells #[.string x] 9) := ⟨_, rfl⟩
  have hb1 : Below w.heap.size w w1 := by rw [hw1]; exact bl_alloc (Below.refl _ _) _
  have R1 : Hid (Row w1 A 9 [.string x]) := Lib.hid (by rw [hw1, ← hA]; exact Row.new _ _ [_])
  have HB1 := Lib.hid hb1
  have H1 := Lib.hid (h.below hb1)
  have HA := Lib.hid hA
  have HW1 := Lib.hid hw1
  clear hR hP h hA hb1 hw1
  go_enter Tryz.func25, Tryz.ntmps25
  go_wp2_with fail
  rw [← HW1.out]
  simp only [HA.out]
  refine (parse_any x w1 H1.out.env).mono ?_
  rintro e w2 ⟨⟨v, rfl, hsl⟩, hb2⟩
  obtain ⟨sp, cap, hv⟩ := hsl.shape
  subst hv
  have HSL := Lib.hid hsl
  obtain ⟨NP, hNP⟩ : ∃ NP, (parseP x).2.parts.length = NP := ⟨_, rfl⟩
  rw [hNP] at HSL ⊢
  obtain ⟨slash, hslash⟩ : ∃ b, (parseP x).2.slash = b := ⟨_, rfl⟩
  rw [hslash]
  have HSLASH := Lib.hid hslash
  have R2 := Lib.hid (R1.out.below hb2)
  have H2 := Lib.hid (H1.out.below hb2)
  have HB2 := Lib.hid (HB1.out.trans (hb2.mono HB1.out.size))
  obtain ⟨D, hD⟩ : ∃ D, w2.heap.size = D := ⟨_, rfl⟩
  obtain ⟨w3, hw3⟩ : ∃ w3, w3 = w2.alloc (.cells #[.slice sp NP cap, .bool slash] 120) := ⟨_, rfl⟩
  have hb3 : Below w2.heap.size w2 w3 := by rw [hw3]; exact bl_alloc (Below.refl _ _) _
  have RP3 : Hid (Row w3 D 120 [.slice sp NP cap, .bool slash]) := Lib.hid (by rw [hw3, ← hD]; exact Row.new _ _ _)
  have R3 := Lib.hid (R2.out.below hb3)
  have H3 := Lib.hid (H2.out.below hb3)
  have SL3 := Lib.hid (SlE.below HSL.out hb3)
  have HB3 := Lib.hid (HB2.out.trans (hb3.mono HB2.out.size))
  have HD := Lib.hid hD
  have HW3 := Lib.hid hw3
  have HPC := Lib.hid (err_split (E := E) (parseP_code x))
  clear hsl hNP hslash hb2 hD hw3 hb3 R1 H1 R2 H2 HSL
  rcases HPC.out with ⟨hc, he⟩ | ⟨hc, ⟨ep, he⟩⟩
  case inr =>
    have HE := Lib.hid he
    have HRB := Lib.hid (HBAD.out hc)
    rw [he]
    clear he hc
    go_wp2_with fail
    rw [← HW3.out, ← HP.out, HRB.out]
    simp only
    rw [HE.out]
    first
      | exact ⟨rfl, H3.out, KV.of_below HB3.out⟩
      | (go_ret2; exact ⟨rfl, H3.out, KV.of_below HB3.out⟩)
  case inl =>
    have HC0 := Lib.hid hc
    rw [he]
    clear hc he
    go_wp2_with fail
    rw [← HW3.out]
    simp only [HD.out]
    have HLC := Lib.hid (err_split (E := E) (lastP_code s.st (parseP x).2))
    have hpe : (parseP x).2 = ⟨(parseP x).2.parts, slash⟩ := by rw [← HSLASH.out]
    have HPE := Lib.hid hpe
    have HVL := Lib.hid (fun (w' : World) (hv : VAt E B L p s w') (hk : KV B L NoB w3 w') => by
      have := va_last hv (SlS.kv SL3.out hk) (Nat.le_trans (parse_len x) (by decide)) (parse_small x) slash
      rw [← HPE.out] at this
      exact this)
    obtain ⟨F, hF⟩ : ∃ F, lastP s.st (parseP x).2 = F := ⟨_, rfl⟩
    have HFE := Lib.hid hF
    rw [hF] at HVL HLC
    obtain ⟨fc, fd, fn, fname⟩ := F
    obtain ⟨ev, hev⟩ : ∃ ev, errOf E fc = ev := ⟨_, rfl⟩
    simp only at HVL HLC
    rw [hev] at HVL
    have HEV := Lib.hid hev
    have S : ∀ w', VAt E B L p s w' ∧ ShV E B L p s w3.heap.size [.int .i64 fd, .int .i64 fn, .string fname] 127 w3 w' → w'.cell? ⟨p.v, 0, none⟩ = some (.pointer (some ⟨p.a, 0, none⟩)) ∧ w'.cell? ⟨p.a, 0, none⟩ = some (.pointer (some ⟨p.b, 0, none⟩)) ∧ w'.cell? ⟨D, 0, none⟩ = some (.slice sp NP cap) ∧ w'.cell? ⟨D, 1, none⟩ = some (.bool slash) := fun w' hC => by
      obtain ⟨c0, c1, c2, t0, t1⟩ := hC.1.vc
      have r := hC.2.row RP3.out (plainSl _ _ _)
      exact ⟨c0, t0, r.cell' (i := 0) rfl, r.cell' (i := 1) rfl⟩
    have HT := Lib.hid (fun (w' : World) (hC : VAt E B L p s w' ∧ ShV E B L p s w3.heap.size [.int .i64 fd, .int .i64 fn, .string fname] 127 w3 w') => HVL.out w' hC.1 hC.2.kv)
    have HW0 := H3
    have HBB : Hid (B ≤ w3.heap.size) := Lib.hid H3.out.hB
    clear hF hev hpe
    apply wp_region_rel _ (by kernel_rfl) (by kernel_rfl) (fun w' => VAt E B L p s w' ∧ ShV E B L p s w3.heap.size [.int .i64 fd, .int .i64 fn, .string fname] 127 w3 w') (fun w' w'' => ShV E B L p s w3.heap.size [.int .i64 fd, .int .i64 fn, .string fname] 127 w' w'') (fun w' w'' h1 h2 => ⟨h2.vol h1.1, h1.2.trans h2⟩) ⟨HW0.out.below (Below.refl _ _).drew, ShV.of_below (Below.refl _ _).drew⟩
    repeat (first
      | (apply wpRel_fix (by rfl)
         · intro w' hC hf R hR
           have hS := S w' hC
           go_simp
           exact hR _ (ShV.refl _)
         simp only [Act.put, List.setIfInBounds_toArray, List.set_cons_zero, List.set_cons_succ])
      | (apply wpRel_fix (by rfl)
         · intro w' hC hf R hR
           have hS := S w' hC
           go_simp
           refine (HT.out w' hC).mono ?_
           rintro e w'' ⟨rfl, hw9, hk9⟩
           exact ⟨_, rfl, hR _ (ShV.call hw9 hk9)⟩
         simp only [Act.put, List.setIfInBounds_toArray, List.set_cons_zero, List.set_cons_succ]))
    apply wpRel_rel (PtTyT w3.heap.size ([.int .i64 fd, .int .i64 fn, .string fname] : List Value).length 127) (by rfl) ptTyV_keep
    · intro w' hC hf R hR
      go_simp
      exact hR _ _ ⟨_, rfl, Touch.size hC.2.kept, TyB.new _ _ _ rfl, ⟨_, (Row.new w' _ _).cell 0, by first | exact plainI _ _ | exact plainS _ | exact plainSl _ _ _⟩⟩ (ShV.of_below (bl_alloc (Below.refl _ _) _))
    intro vptr
    simp only [Act.put, List.setIfInBounds_toArray, List.set_cons_zero, List.set_cons_succ]
    apply wpRel_dep 8 (PtRowT w3.heap.size [.int .i64 fd, .int .i64 fn, .string fname] 127) (by rfl) (by rfl) ptRowV_keep
    · intro w' hC hf R hR
      obtain ⟨c, rfl, hc, hk, hpl⟩ := hf _ (List.mem_cons_self ..) (by kernel_rfl)
      obtain ⟨u0, e0⟩ := hk.cell (i := 0) (Nat.lt_of_lt_of_eq (by decide : 0 < 3) rfl)
      have f0 := hk.froz 0
      obtain ⟨u1, e1⟩ := hk.cell (i := 1) (Nat.lt_of_lt_of_eq (by decide : 1 < 3) rfl)
      have f1 := hk.froz 1
      obtain ⟨u2, e2⟩ := hk.cell (i := 2) (Nat.lt_of_lt_of_eq (by decide : 2 < 3) rfl)
      have f2 := hk.froz 2
      have hN := Lib.hid hk
      have hM := Lib.hid hpl
      have hcl := plain_lt hpl
      clear hk hpl
      go_simp
      exact hR _ _ (ptRowT_mk ⟨_, _, rfl, (by first | exact plainI _ _ | exact plainS _ | exact plainSl _ _ _)⟩ hN.out hc) (ShV.setAll ⟨_, _, rfl, (by first | exact plainI _ _ | exact plainS _ | exact plainSl _ _ _)⟩ (by decide) hN.out hM.out HBB.out hc)
    intro vst
    simp only [Act.put, List.setIfInBounds_toArray, List.set_cons_zero, List.set_cons_succ]
    repeat (first
      | (apply wpRel_fix (by rfl)
         · intro w' hC hf R hR
           have hS := S w' hC
           go_simp
           exact hR _ (ShV.refl _)
         simp only [Act.put, List.setIfInBounds_toArray, List.set_cons_zero, List.set_cons_succ]))
    refine wpRel_nil (fun w4 hC hf => ?_)
    obtain ⟨c, rfl, hcs, hcp, hrow⟩ : PtRowT w3.heap.size [.int .i64 fd, .int .i64 fn, .string fname] 127 vptr w4 := hf _ (List.mem_cons_self ..)
    have H5 := Lib.hid hC.1
    have K5 := Lib.hid ((KV.of_below HB3.out).trans hC.2.kv)
    have RA5 := Lib.hid (hC.2.row R3.out (plainS _))
    have x0 := hrow.cell' (i := 0) rfl
    have x1 := hrow.cell' (i := 1) rfl
    have x2 := hrow.cell' (i := 2) rfl
    have xl := hrow.lt
    clear hC hf hrow hcs hcp S HVL HT
    rcases HLC.out with ⟨hc, he⟩ | ⟨hc, ⟨ep, he⟩⟩
    case inr =>
      have HRB : Hid (R = (fc, 0, s)) := Lib.hid (by
        have := HLAST.out HC0.out (by rw [HFE.out]; exact hc)
        rw [HFE.out] at this
        exact this)
      have HE := Lib.hid he
      have hev2 := HEV.out
      rw [he] at hev2
      subst hev2
      clear he hc
      go_wp2_with fail
      rw [← HP.out, HRB.out]
      simp only
      rw [HE.out]
      first
        | exact ⟨rfl, H5.out, K5.out⟩
        | (go_ret2; exact ⟨rfl, H5.out, K5.out⟩)
    case inl =>
      have hev2 := HEV.out
      rw [he] at hev2
      subst hev2
      have HFC := Lib.hid hc
      clear he hc
      by_cases hn : 0 < fn
      · have HRB : Hid (R = (109, 0, s)) := Lib.hid (HTHERE.out HC0.out (by rw [HFE.out]; exact HFC.out) (by rw [HFE.out]; exact hn))
        have CE := Lib.hid (show errOf E 109 = errV E 0 from errOf_code (g := 0) (by decide))
        have ce := H5.out.env.toEnv.cell 0 (by decide)
        have cl : 0 < w4.heap.size := Nat.lt_of_lt_of_le (H5.out.env.toEnv.glt _ (by decide)) H5.out.env.toEnv.size
        go_wp2_with fail
        go_region
        go_wp2
        rw [← HP.out, HRB.out]
        simp only
        rw [CE.out]
        first
          | exact ⟨rfl, H5.out.below (Below.refl _ _).drew, K5.out.then (Below.refl _ _).drew⟩
          | (go_ret2; exact ⟨rfl, H5.out.below (Below.refl _ _).drew, K5.out.then (Below.refl _ _).drew⟩)
      · have HRB := Lib.hid (HGO.out HC0.out (by rw [HFE.out]; exact HFC.out) (by rw [HFE.out]; first | exact hn | exact Int.not_lt.1 hn))
        obtain ⟨G, hG⟩ : ∃ G, w4.heap.size = G := ⟨_, rfl⟩
        obtain ⟨w6, hw6⟩ : ∃ w6, w6 = w4.alloc (.cells #[.int .i64 0] 3) := ⟨_, rfl⟩
        have hb6 : Below w4.heap.size w4 w6 := by rw [hw6]; exact bl_alloc (Below.refl _ _) _
        have hz6 : w6.heap.size = G + 1 := by rw [hw6]; simp [hG]
        have R6 : Hid (Row w6 G 3 [.int .i64 0]) := Lib.hid (by rw [hw6, ← hG]; exact Row.new _ _ [_])
        have H6 : Hid (VAt E B (fun y => y = G ∨ L y) p s w6) := Lib.hid (H5.out.loc hb6 (fun y hy => by
          rcases hy with hy | hy
          · right; omega
          · exact .inl hy) (fun y hy => .inr hy))
        have RA6 := Lib.hid ((RA5.out.below hb6).box)
        have K6 := Lib.hid (K5.out.then hb6)
        have HBG : Hid (B ≤ G ∧ w.heap.size ≤ G ∧ A ≠ G) := Lib.hid (by
          have h1 := H5.out.hB
          have h2 := Touch.size K5.out
          have h3 := RA5.out.lt
          refine ⟨by omega, by omega, by omega⟩)
        have HT := Lib.hid (triedP_any (g := 56) (cap := #[.pointer (some ⟨A, 0, none⟩), .pointer (some ⟨G, 0, none⟩)]) (enters_of Tryz.func56 (by kernel_rfl) rfl) H6.out (X := fun y => y = G)
          (fun w' => Row w' G 3 [.int .i64 (createA x s).2.1]) (fun w' => Box w' A (.string x) ∧ ∃ n : Int, Row w' G 3 [.int .i64 n])
          (fun L' w w' h k => ⟨h.1.kv (plainS _) k, by obtain ⟨n, r⟩ := h.2; exact ⟨n, r.kv (plainI _ _) k⟩⟩) ⟨RA6.out, 0, R6.out⟩
          (fun y hy => ⟨.inl hy, by rw [hy]; exact HBG.out.1⟩) (c := (createA x s).1) (s1 := (createA x s).2.2) (createA_code x s)
          (fun L' p' w1 hkv hL hv hp => by
            obtain ⟨ha, n, hr⟩ := hp
            refine (create1_any hv x ha hr (hL G (.inl rfl)) HBG.out.1 HBG.out.2.2).mono ?_
            rintro e w2 ⟨e1, e2, e3, e4⟩
            refine ⟨e1, e2, e3, ?_, e4⟩
            exact ⟨(Touch.cell e3 (p := ⟨A, 0, none⟩) ha.2 (fun hs => by
              rcases hs with hs | hs
              · exact hs.2.2 ⟨_, ha.1, plainS _⟩
              · exact HBG.out.2.2 hs)).trans ha.1, Nat.lt_of_lt_of_le ha.2 (Touch.size e3)⟩))
        have HTC := Lib.hid (err_split (E := E) (triedC_code (s := s) (createA_code x s) (createA x s).2.2))
        obtain ⟨TC, hTC⟩ : ∃ TC, triedC s (createA x s).1 (createA x s).2.2 = TC := ⟨_, rfl⟩
        obtain ⟨TS', hTS⟩ : ∃ TS', triedS s (createA x s).1 (createA x s).2.2 = TS' := ⟨_, rfl⟩
        rw [hTC, hTS] at HT HRB
        rw [hTC] at HTC
        have HW6 := Lib.hid hw6
        have HGE := Lib.hid hG
        have hmf : ∀ (fn : Fn) (first cap : Array Value) (w : World), (Instr.makeFunc fn first cap).run Tryz.prog w = .ok (.func fn first cap) w := fun _ _ _ _ => rfl
        clear hw6 hG hb6 hz6 hTC hTS
        go_wp2_with fail
        rw [← HW6.out]
        simp only [HGE.out]
        refine HT.out.mono ?_
        rintro e w9 ⟨rfl, h9, k9, i9⟩
        have V9 := Lib.hid h9
        have I9 := Lib.hid i9
        have K9 : Hid (KV B L NoB w w9) := Lib.hid (K6.out.trans2 k9 HBG.out.2.1)
        clear h9 k9 i9 x0 x1 x2 xl
        rcases HTC.out with ⟨hc, he⟩ | ⟨hc, ⟨ep, he⟩⟩
        case inr =>
          have HE := Lib.hid he
          have HCN := Lib.hid hc
          rw [he]
          clear he hc
          go_wp2_with fail
          rw [← HP.out, HRB.out]
          simp only
          rw [if_neg HCN.out, HE.out]
          first
            | exact ⟨rfl, V9.out.less (fun y hy => .inr hy), K9.out⟩
            | (go_ret2; exact ⟨rfl, V9.out.less (fun y hy => .inr hy), K9.out⟩)
        case inl =>
          have HCN := Lib.hid hc
          rw [he]
          have r9 := I9.out hc
          have x0 := r9.cell' (i := 0) rfl
          have xl := r9.lt
          clear he hc r9
          go_wp2_with fail
          rw [← HP.out, HRB.out]
          simp only
          rw [if_pos HCN.out, HCN.out]
          first
            | exact ⟨rfl, V9.out.less (fun y hy => .inr hy), K9.out⟩
            | (go_ret2; exact ⟨rfl, V9.out.less (fun y hy => .inr hy), K9.out⟩)
end
end Go.Proofs.YtjekpbkmhgfhoaaGreatDoor
end

section
/- The walk of vol's Open of a name that is not there, with create. -/
namespace Go.Proofs.YtjekpbkmhgfhoaaGreatDoor
open Go Go.RowKit
set_option maxRecDepth 100000
set_option linter.unusedSimpArgs false
set_option linter.unusedVariables false
attribute [local go_sem] giv
variable {E : Nat → Addr} {B : Nat}
section
variable {L : Nat → Prop} {p : VP} {s : V} {w w' : World}
set_option maxHeartbeats 2000000 in
theorem vopen_new (h : VAt E B L p s w) {x : ByteArray} (hl : (lookT s.st x true).1 = 109) :
    Calls Tryz.prog 8 #[.pointer (some ⟨p.v, 0, none⟩), .string x, .bool true] w fun e w' => e = .returned (.tuple #[.int .i64 (openV s x true).2.1, errOf E (openV s x true).1]) ∧ VAt E B L p (openV s x true).2.2 w' ∧ KV B L NoB w w' := by
  have hR : openV s x true = createV s x := by
    unfold openV
    simp only
    rw [if_pos ⟨hl, trivial⟩]
  rw [hR]
  have HC := Lib.hid (fun (w' : World) (hv : VAt E B L p s w') => vcreate_any hv x)
  obtain ⟨R, hR2⟩ : ∃ R, createV s x = R := ⟨_, rfl⟩
  rw [hR2] at HC ⊢
  generalize hP : (fun (e : Ending) (w' : World) => e = .returned (.tuple #[.int .i64 R.2.1, errOf E R.1]) ∧ VAt E B L p R.2.2 w' ∧ KV B L NoB w w') = Post
  have HP := Lib.hid hP
  have H := Lib.hid h
  have HL := Lib.hid (va_look h x true)
  obtain ⟨n, hn⟩ : ∃ n, (lookT s.st x true).2 = n := ⟨_, rfl⟩
  have CE := Lib.hid (show errOf E 109 = errV E 0 from errOf_code (g := 0) (by decide))
  rw [hl, hn, CE.out] at HL
  obtain ⟨c0, c1, c2, c3, cl⟩ := h.cells
  clear hP h hl hR hR2 hn
  obtain ⟨ev, rv⟩ := R
  obtain ⟨fd, sv⟩ := rv
  obtain ⟨er, her⟩ : ∃ er, errOf E ev = er := ⟨_, rfl⟩
  simp only at HC HP
  rw [her] at HC HP
  go_enter Tryz.func8, Tryz.ntmps8
  go_wp2_with fail
  refine HL.out.mono ?_
  rintro e w2 ⟨rfl, h2, k2⟩
  have H2 := Lib.hid h2
  have K2 := Lib.hid k2
  obtain ⟨q1, q2, q3, q4, q5, q6⟩ := n
  simp only [encN]
  obtain ⟨w3, hw3⟩ : ∃ w3, w3 = w2.alloc (.cells #[.int .i64 q1, .int .i64 q2, .int .i64 q3, .int .i64 q4, .string q5, .int .i64 q6] 59) := ⟨_, rfl⟩
  have hb3 : Below w2.heap.size w2 w3 := by rw [hw3]; exact bl_alloc (Below.refl _ _) _
  have H3 := Lib.hid (H2.out.below hb3)
  have K3 := Lib.hid (K2.out.then hb3)
  have ce := H2.out.env.toEnv.cell 0 (by decide)
  have cl2 : 0 < w2.heap.size := Nat.lt_of_lt_of_le (H2.out.env.toEnv.glt _ (by decide)) H2.out.env.toEnv.size
  have ce3 := H3.out.env.toEnv.cell 0 (by decide)
  have cl3 : 0 < w3.heap.size := Nat.lt_of_lt_of_le (H3.out.env.toEnv.glt _ (by decide)) H3.out.env.toEnv.size
  have HW3 := Lib.hid hw3
  clear h2 k2 hb3 hw3 c0 c1 c2 c3 cl
  have hlt : ¬ w2.heap.size = 0 := by omega
  have hlt2 : ¬ 0 = w2.heap.size := by omega
  have heq := run_eql_err_same (E 0)
  unfold errV
  go_wp2_with fail
  rw [← HW3.out]
  refine (HC.out w3 H3.out).mono ?_
  rintro e w4 ⟨rfl, h4, k4⟩
  have H4 := Lib.hid h4
  have K4 := Lib.hid (K3.out.trans k4)
  clear h4 k4
  go_wp2
  rw [← HP.out]
  first
    | exact ⟨rfl, H4.out, K4.out⟩
    | (go_ret2; exact ⟨rfl, H4.out, K4.out⟩)
end
end Go.Proofs.YtjekpbkmhgfhoaaGreatDoor
end
