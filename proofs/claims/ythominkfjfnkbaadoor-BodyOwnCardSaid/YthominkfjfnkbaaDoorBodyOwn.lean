/- The walk of the law BodyOwn. -/
import Derived.Test.YthominkfjfnkbaaDoorBodyLaw
namespace Go.Proofs.YthominkfjfnkbaaDoor
open Go Go.RowKit
set_option maxRecDepth 100000
set_option linter.unusedSimpArgs false
attribute [local go_sem] giv
variable {E : Nat → Addr} {B : Nat}

/-- What the law's buffer of bytes is while it is turned: some bytes. -/
def Turned (w : World) (B c0 n ci : Nat) (si : Option Addr) : Prop := n = 0 ∨ ∃ hi, si = some ⟨hi, 0, none⟩ ∧ c0 ≠ hi ∧ B ≤ hi ∧ ∃ xs : List Int, xs.length = n ∧ Buf w hi 5 ci (xs.map (Value.int .u8))

set_option maxHeartbeats 4000000 in
theorem own_any {sp : Option Addr} {cap : Nat} {l : List Int} (k : Int) (w : World) (hr : RdB w (.slice sp l.length cap) l) (hsp : l ≠ [] → ∀ h off s, sp = some ⟨h, off, s⟩ → h < B) (hE : Env E B w) :
    Calls Tryd.prog 6 #[.slice sp l.length cap, .int .i64 k] w fun e w' => e = .returned (.bool true) ∧ Below B w w' := by
  have hB := hE.size
  have HE := Lib.hid hE
  have HR := Lib.hid hr
  have HSP := Lib.hid hsp
  clear hE hr hsp
  go_enter Tryd.func6, Tryd.ntmps6
  go_wp2_with fail
  refine (first16 _).mono ?_
  rintro e w1 ⟨rfl, hb1⟩
  have HB1 := Lib.hid (hb1.mono hB)
  have HE1 := Lib.hid (HE.out.below hb1)
  clear hb1
  by_cases hl : (256 : Int) < l.length
  · go_wp2
    go_ret
    exact ⟨rfl, HB1.out⟩
  have hl' : decide ((256 : Int) < l.length) = false := decide_eq_false hl
  have hl256 : l.length ≤ 256 := by omega
  go_wp2_with fail
  refine (number_any k 64 (by omega) _).mono ?_
  rintro e w2 ⟨rfl, rfl⟩
  obtain ⟨K, hK⟩ : ∃ K : Nat, k % 64 = K := ⟨(k % 64).toNat, by omega⟩
  have hK64 : K < 64 := by omega
  have hi1 : In64 ((3, (K : Int)) : Cl).1 := by unfold In64; omega
  have hi2 : In64 ((3, (K : Int)) : Cl).2 := by unfold In64; omega
  have HI64 := Lib.hid (And.intro hi1 hi2)
  rw [hK]
  clear hK hi1 hi2
  go_wp2_with fail
  refine (bnew_any w1 (fun x => w1.heap.size ≤ x) (fun _ h => h)).mono ?_
  rintro e w2 ⟨rfl, hbo, hb2⟩
  have hBw1 : B ≤ w1.heap.size := HE1.out.size
  have HB2 := Lib.hid (HB1.out.trans (hb2.mono hBw1))
  have HE2 := Lib.hid (HE1.out.below hb2)
  obtain ⟨b, hb⟩ : ∃ b, b = w1.heap.size + 2 := ⟨_, rfl⟩
  obtain ⟨m, hm⟩ : ∃ m, m = w1.heap.size := ⟨_, rfl⟩
  obtain ⟨d, hd⟩ : ∃ d, d = w1.heap.size + 1 := ⟨_, rfl⟩
  rw [← hb]
  rw [← hb, ← hd, ← hm] at hbo
  have HX := Lib.hid (hbo.less (M' := fun x => x = b ∨ x = m ∨ x = d) (fun x hx => by omega) (.inl rfl) (.inr (.inl rfl)) (.inr (.inr rfl)))
  have HBMD : Hid (B ≤ b ∧ B ≤ m ∧ B ≤ d) := Lib.hid (by omega)
  clear hbo hb2 hb hm hd HB1 HE1 hBw1
  go_wp2_with fail
  have R0 := Lib.hid (Row.new w2 54 [.int .i64 3, .int .i64 K])
  have hb2a := bl_alloc (Below.refl w2.heap.size w2) (.cells #[.int .i64 3, .int .i64 K] 54)
  have HB2a := Lib.hid (HB2.out.trans (hb2a.mono HE2.out.size))
  have HE2a := Lib.hid (HE2.out.below hb2a)
  have HX2a := Lib.hid (HX.out.below hb2a)
  have HLT : Hid (b < w2.heap.size ∧ m < w2.heap.size ∧ d < w2.heap.size ∧ B ≤ w2.heap.size) := Lib.hid ⟨HX.out.lt, HX.out.ltm, HX.out.ltd, HE2.out.size⟩
  clear hb2a HB2 HE2 HX
  generalize w2.heap.size = c0 at *
  refine (bytes_any (HR.out.old HB2a.out HSP.out) (by omega)).mono ?_
  rintro e w3 ⟨⟨u, rfl, hu⟩, hb3⟩
  have hus := hu.shape
  obtain ⟨si, ci, rfl, hsi⟩ := hus
  have hrd := hu.rdB
  have hc0 : c0 < (w2.alloc (.cells #[.int .i64 3, .int .i64 K] 54)).heap.size := R0.out.lt
  rw [List.length_map] at hrd ⊢
  have HT3 : Hid (Turned w3 B c0 l.length ci si) := Lib.hid (by
    rcases hsi with h | ⟨hi, h1, h2, h3⟩
    · exact .inl (by have := congrArg List.length h; simpa using this)
    · exact .inr ⟨hi, h1, by omega, by have := HE2a.out.size; omega, l, rfl, h3⟩)
  have HSI : Hid (∀ x, si = some ⟨x, 0, none⟩ → l = [] ∨ (c0 < x ∧ x < w3.heap.size)) := Lib.hid (by
    intro x hx
    rcases hsi with h | ⟨hi, h1, h2, h3⟩
    · exact .inl (by simpa using h)
    · rw [h1] at hx
      cases hx
      exact .inr ⟨by omega, h3.lt⟩)
  have HX3 := Lib.hid ((HX2a.out.more (M' := fun x => (x = b ∨ x = m ∨ x = d) ∨ (si = some ⟨x, 0, none⟩ ∧ l ≠ [])) (fun x hx => by
    rcases hx with hx | ⟨hx, hne⟩
    · exact .inl hx
    · rcases hsi with h | ⟨hi, h1, h2, h3⟩
      · exact absurd (by simpa using h) hne
      · rw [h1] at hx
        cases hx
        exact .inr h2) (fun x hx => .inl hx)).below hb3)
  have HM3 : Hid (∀ x, ((x = b ∨ x = m ∨ x = d) ∨ (si = some ⟨x, 0, none⟩ ∧ l ≠ [])) → x < w3.heap.size) := Lib.hid (by
    intro x hx
    have := HX3.out.lt
    have := HX3.out.ltm
    have := HX3.out.ltd
    rcases hx with hx | ⟨hx, hne⟩
    · omega
    · rcases HSI.out x hx with h | h
      · exact absurd h hne
      · exact h.2)
  have R3 := Lib.hid (R0.out.below hb3)
  have HE3 := Lib.hid (HE2a.out.below hb3)
  have HB3 := Lib.hid (HB2a.out.trans (hb3.mono HE2a.out.size))
  have HRD := Lib.hid hrd
  have q0 := R3.out.cell 0
  have q1 := R3.out.cell 1
  have ql := R3.out.lt
  clear hu hsi hb3 hc0 hrd R0 HE2a HB2a HX2a
  go_wp2_with fail
  refine (bset_ok (c := (3, (K : Int))) HX3.out (by unfold cellOk; omega) hl256 HRD.out.slIn HM3.out).mono ?_
  rintro e w4 ⟨rfl, ⟨n4, k4, hbo⟩, ht4⟩
  have HX4 := Lib.hid hbo
  have R4 := Lib.hid (R3.out.touch ht4 (by have := HLT.out; omega))
  have HE4 := Lib.hid (HE3.out.keep (ht4.below HE3.out.size (fun x hx => by have := HBMD.out; omega)))
  have HB4 := Lib.hid (HB3.out.trans (ht4.below HE3.out.size (fun x hx => by have := HBMD.out; omega)))
  have HT4 : Hid (Turned w4 B c0 l.length ci si) := Lib.hid (by
    by_cases hl0 : l = []
    · exact .inl (by rw [hl0]; rfl)
    rcases HT3.out with h | ⟨hi, h1, h2, h3, xs, h4, h5⟩
    · exact .inl h
    · refine .inr ⟨hi, h1, h2, h3, xs, h4, h5.touch ht4 ?_⟩
      have := HLT.out
      rcases HSI.out hi h1 with h | h
      · exact absurd h hl0
      · omega)
  clear hbo ht4 HX3 HM3 R3 HE3 HB3 HRD HT3 q0 q1 ql
  go_wp2_with fail
  go_loopw [9] (fun i wr => ∃ j : Nat, j ≤ l.length ∧ i = .int .i64 j ∧ Hid (BodyAt wr (fun x => (x = b ∨ x = m ∨ x = d) ∨ (si = some ⟨x, 0, none⟩ ∧ l ≠ [])) b m d (upd (fun _ => none) (3, (K : Int)) (some (pad l))) (upd (fun _ => none) (3, (K : Int)) 1) n4 k4) ∧ Hid (Row wr c0 54 [.int .i64 3, .int .i64 K]) ∧ Hid (Env E B wr) ∧ Hid (Below B w wr) ∧ Hid (Turned wr B c0 l.length ci si)) (fun i _ => l.length - (intOf i).toNat)
  case atStart => exact ⟨0, Nat.zero_le _, rfl, HX4, R4, HE4, HB4, HT4⟩
  case round =>
    obtain ⟨j, hj, rfl, HXr, Rr, HEr, HBr, HTr⟩ := hrel
    clear HX4 R4 HE4 HB4 HT4
    by_cases hlt : j < l.length
    · rcases HTr.out with h | ⟨hi, rfl, h2, h3, xs, h4, h5⟩
      · omega
      have hjx : j < xs.length := by omega
      obtain ⟨x, hx⟩ : ∃ x, xs[j]? = some x := ⟨_, List.getElem?_eq_getElem hjx⟩
      have c0' : wr.cell? ⟨hi, j, none⟩ = some (.int .u8 x) := by
        rw [h5.cell (by simpa using hjx)]
        simp [hx]
      have hf := h5.froz j
      have hne : l ≠ [] := by rintro rfl; simp at hlt
      have hsi2 : c0 < hi := by
        rcases HSI.out hi rfl with h | h
        · exact absurd h hne
        · exact h.1
      have HBF := Lib.hid h5
      have HXS := Lib.hid h4
      have HNE := Lib.hid hne
      clear h5 hx h4 hne
      go_wp2
      go_roundw
      case rel =>
        have hlt' := HLT.out
        refine ⟨j + 1, by omega, by go_num, Lib.hid (HXr.out.touch (S := fun y => y = hi) (Touch.setCell (S := fun y => y = hi) (Touch.refl _ _) (.inl rfl) _) (fun y hy => by subst hy; exact ⟨.inr ⟨rfl, HNE.out⟩, by omega, by omega, by omega⟩)),
          Lib.hid (Rr.out.other h2 _), Lib.hid (HEr.out.keep ((Below.refl B wr).setCell (p := ⟨hi, j, none⟩) h3 _)), Lib.hid (HBr.out.trans ((Below.refl B wr).setCell (p := ⟨hi, j, none⟩) h3 _)),
          Lib.hid (.inr ⟨hi, rfl, h2, h3, xs.set j _, by simp [HXS.out], by rw [List.map_set]; exact HBF.out.set _ _⟩)⟩
      case measure => simp [intOf]; omega
    · obtain rfl : j = l.length := by omega
      clear hj hlt HTr
      go_wp2_with fail
      refine (bclone_any HXr.out).mono ?_
      rintro e w5 ⟨⟨b2, m2, d2, rfl, hb2, hm2, hd2, hy⟩, hb5⟩
      obtain ⟨M3, hM3⟩ : ∃ M3 : Nat → Prop, M3 = fun x => ((x = b ∨ x = m ∨ x = d) ∨ (si = some ⟨x, 0, none⟩ ∧ l ≠ [])) ∨ x = b2 ∨ x = m2 ∨ x = d2 := ⟨_, rfl⟩
      have HX5 : Hid (BodyAt w5 M3 b m d (upd (fun _ => none) (3, (K : Int)) (some (pad l))) (upd (fun _ => none) (3, (K : Int)) 1) n4 k4) := Lib.hid ((HXr.out.more (fun x hx => by
        rw [hM3] at hx
        rcases hx with hx | hx
        · exact .inl hx
        · exact .inr (by omega)) (fun x hx => by rw [hM3]; exact .inl hx)).below hb5)
      have HY5 : Hid (BodyAt w5 M3 b2 m2 d2 (upd (fun _ => none) (3, (K : Int)) (some (pad l))) (upd (fun _ => none) (3, (K : Int)) 1) n4 k4) := Lib.hid (hy.less (fun x hx => by
        rw [hM3] at hx
        rcases hx with hx | hx
        · exact .inl hx
        · exact .inr (by omega)) (by rw [hM3]; exact .inr (.inl rfl)) (by rw [hM3]; exact .inr (.inr (.inl rfl))) (by rw [hM3]; exact .inr (.inr (.inr rfl))))
      have HNE : Hid (b < b2 ∧ b < m2 ∧ b < d2 ∧ m < b2 ∧ m < m2 ∧ m < d2 ∧ d < b2 ∧ d < m2 ∧ d < d2) := Lib.hid (by have := HXr.out.lt; have := HXr.out.ltm; have := HXr.out.ltd; omega)
      have R5 := Lib.hid (Rr.out.below hb5)
      have HE5 := Lib.hid (HEr.out.below hb5)
      have HB5 := Lib.hid (HBr.out.trans (hb5.mono HEr.out.size))
      have q0 := R5.out.cell 0
      have q1 := R5.out.cell 1
      have ql := R5.out.lt
      clear hb2 hm2 hd2 hy hb5 hM3 HXr Rr HEr HBr
      go_wp2_with fail
      refine (bget_some (c := (3, (K : Int))) HX5.out HI64.out.1 HI64.out.2 (l := pad l) (by simp [upd])).mono ?_
      rintro e w6 ⟨⟨hv, cv, rfl, hvs, hbuf⟩, hb6⟩
      obtain ⟨M4, hM4⟩ : ∃ M4 : Nat → Prop, M4 = fun x => M3 x ∨ x = hv := ⟨_, rfl⟩
      have hmore : ∀ x, M4 x → M3 x ∨ w5.heap.size ≤ x := fun x hx => by
        rw [hM4] at hx
        rcases hx with hx | hx
        · exact .inl hx
        · exact .inr (by omega)
      have HX6 := Lib.hid ((HX5.out.more hmore (fun x hx => by rw [hM4]; exact .inl hx)).below hb6)
      have HY6 := Lib.hid ((HY5.out.more hmore (fun x hx => by rw [hM4]; exact .inl hx)).below hb6)
      have R6 := Lib.hid (R5.out.below hb6)
      have HE6 := Lib.hid (HE5.out.below hb6)
      have HB6 := Lib.hid (HB5.out.trans (hb6.mono HE5.out.size))
      have HHV : Hid (b < hv ∧ m < hv ∧ d < hv ∧ b2 < hv ∧ m2 < hv ∧ d2 < hv ∧ c0 < hv ∧ B ≤ hv ∧ M4 hv) := Lib.hid (by
        have := HX5.out.lt; have := HX5.out.ltm; have := HX5.out.ltd; have := HY5.out.lt; have := HY5.out.ltm; have := HY5.out.ltd; have := HE5.out.size
        exact ⟨by omega, by omega, by omega, by omega, by omega, by omega, by omega, by omega, by rw [hM4]; exact .inr rfl⟩)
      have HBUF : Hid (∃ xs : List Int, xs.length = 256 ∧ Buf w6 hv 5 cv (xs.map (Value.int .u8))) := Lib.hid ⟨_, pad_len hl256, hbuf⟩
      clear hvs hbuf hb6 hM4 hmore HX5 HY5 R5 HE5 HB5 q0 q1 ql
      go_wp2_with fail
      go_loopw [13] (fun i wr => ∃ j : Nat, j ≤ 256 ∧ i = .int .i64 j ∧ Hid (BodyAt wr M4 b m d (upd (fun _ => none) (3, (K : Int)) (some (pad l))) (upd (fun _ => none) (3, (K : Int)) 1) n4 k4) ∧ Hid (BodyAt wr M4 b2 m2 d2 (upd (fun _ => none) (3, (K : Int)) (some (pad l))) (upd (fun _ => none) (3, (K : Int)) 1) n4 k4) ∧ Hid (Row wr c0 54 [.int .i64 3, .int .i64 K]) ∧ Hid (Env E B wr) ∧ Hid (Below B w wr) ∧ Hid (∃ xs : List Int, xs.length = 256 ∧ Buf wr hv 5 cv (xs.map (Value.int .u8)))) (fun i _ => 256 - (intOf i).toNat)
      case atStart => exact ⟨0, Nat.zero_le _, rfl, HX6, HY6, R6, HE6, HB6, HBUF⟩
      case round =>
        obtain ⟨j, hj, rfl, HXr, HYr, Rr, HEr, HBr, HTr⟩ := hrel
        clear HX6 HY6 R6 HE6 HB6 HBUF
        by_cases hlt : j < 256
        · obtain ⟨xs, h4, h5⟩ := HTr.out
          have hjx : j < xs.length := by omega
          obtain ⟨x, hx⟩ : ∃ x, xs[j]? = some x := ⟨_, List.getElem?_eq_getElem hjx⟩
          have c0' : wr.cell? ⟨hv, j, none⟩ = some (.int .u8 x) := by
            rw [h5.cell (by simpa using hjx)]
            simp [hx]
          have hf := h5.froz j
          have HBF := Lib.hid h5
          have HXS := Lib.hid h4
          clear h5 hx h4
          have hj256 : (j : Int) < 256 := by omega
          go_wp2
          go_roundw
          case rel =>
            have hh := HHV.out
            refine ⟨j + 1, by omega, by go_num, Lib.hid (HXr.out.touch (S := fun y => y = hv) (Touch.setCell (S := fun y => y = hv) (Touch.refl _ _) (.inl rfl) _) (fun y hy => by subst hy; exact ⟨hh.2.2.2.2.2.2.2.2, by omega, by omega, by omega⟩)),
              Lib.hid (HYr.out.touch (S := fun y => y = hv) (Touch.setCell (S := fun y => y = hv) (Touch.refl _ _) (.inl rfl) _) (fun y hy => by subst hy; exact ⟨hh.2.2.2.2.2.2.2.2, by omega, by omega, by omega⟩)),
              Lib.hid (Rr.out.other (by show c0 ≠ hv; omega) _), Lib.hid (HEr.out.keep ((Below.refl B wr).setCell (p := ⟨hv, j, none⟩) hh.2.2.2.2.2.2.2.1 _)), Lib.hid (HBr.out.trans ((Below.refl B wr).setCell (p := ⟨hv, j, none⟩) hh.2.2.2.2.2.2.2.1 _)),
              Lib.hid ⟨xs.set j _, by simp [HXS.out], by rw [List.map_set]; exact HBF.out.set _ _⟩⟩
          case measure => simp [intOf]; omega
        · obtain rfl : j = 256 := by omega
          have q0 := Rr.out.cell 0
          have q1 := Rr.out.cell 1
          have ql := Rr.out.lt
          go_wp2_with fail
          have HX6 := HXr
          have HY6 := HYr
          have R6 := Rr
          have HE6 := HEr
          have HB6 := HBr
          clear HXr HYr Rr HEr HBr HTr
          refine (bget_some (c := (3, (K : Int))) HX6.out HI64.out.1 HI64.out.2 (l := pad l) (by simp [upd])).mono ?_
          rintro e w7 ⟨⟨hw, cw, rfl, _, hbuf⟩, hb7⟩
          have HW7 := Lib.hid hbuf
          clear hbuf
          clear q0 q1 ql
          have HX7 := Lib.hid (HX6.out.below hb7)
          have HY7 := Lib.hid (HY6.out.below hb7)
          have R7 := Lib.hid (R6.out.below hb7)
          have HE7 := Lib.hid (HE6.out.below hb7)
          have HB7 := Lib.hid (HB6.out.trans (hb7.mono HE6.out.size))
          clear hb7 HX6 HY6 R6 HE6 HB6
          go_wp2_with fail
          refine (full_any (HR.out.old HB7.out HSP.out) hl256).mono ?_
          rintro e w8 ⟨⟨h8, rfl, _, hr8⟩, hb8⟩
          have HF8 := Lib.hid hr8
          clear hr8
          have HX8 := Lib.hid (HX7.out.below hb8)
          have HY8 := Lib.hid (HY7.out.below hb8)
          have R8 := Lib.hid (R7.out.below hb8)
          have HE8 := Lib.hid (HE7.out.below hb8)
          have HB8 := Lib.hid (HB7.out.trans (hb8.mono HE7.out.size))
          have HW8 := Lib.hid (HW7.out.below hb8)
          clear hb8 HX7 HY7 R7 HE7 HB7 HW7
          go_wp2_with fail
          refine (samebytes_any (l := pad l) (m := pad l) (RdB.of_buf' HW8.out (pad_len hl256)) (RdB.of_row HF8.out (pad_len hl256)) (by rw [pad_len hl256]; omega)).mono ?_
          rintro e w9 ⟨rfl, hb9⟩
          rw [decide_eq_true (rfl : pad l = pad l)]
          clear HW8 HF8
          have HX9 := Lib.hid (HX8.out.below hb9)
          have HY9 := Lib.hid (HY8.out.below hb9)
          have R9 := Lib.hid (R8.out.below hb9)
          have HE9 := Lib.hid (HE8.out.below hb9)
          have HB9 := Lib.hid (HB8.out.trans (hb9.mono HE8.out.size))
          clear hb9 HX8 HY8 R8 HE8 HB8
          have q0 := R9.out.cell 0
          have q1 := R9.out.cell 1
          have ql := R9.out.lt
          go_wp2_with fail
          refine (blose_ok (c := (3, (K : Int))) HX9.out HI64.out.1 HI64.out.2 (o := some (pad l)) (by simp [upd])).mono ?_
          rintro e w10 ⟨rfl, ⟨n10, k10, hbo⟩, ht⟩
          clear q0 q1 ql
          have HX10 := Lib.hid hbo
          have HY10 := Lib.hid (HY9.out.touch ht (fun x hx => by have h1 := HX9.out.Mm; have h2 := HX9.out.Md; have h3 := HNE.out; rcases hx with rfl | rfl; exact ⟨h1, by omega, by omega, by omega⟩; exact ⟨h2, by omega, by omega, by omega⟩))
          have R10 := Lib.hid (R9.out.touch ht (by have := HLT.out; omega))
          have HE10 := Lib.hid (HE9.out.keep (ht.below HE9.out.size (fun x hx => by have := HBMD.out; omega)))
          have HB10 := Lib.hid (HB9.out.trans (ht.below HE9.out.size (fun x hx => by have := HBMD.out; omega)))
          clear hbo ht HX9 HY9 R9 HE9 HB9
          have q0 := R10.out.cell 0
          have q1 := R10.out.cell 1
          have ql := R10.out.lt
          go_wp2_with fail
          refine (bget_some (c := (3, (K : Int))) HY10.out HI64.out.1 HI64.out.2 (l := pad l) (by simp [upd])).mono ?_
          rintro e w11 ⟨⟨hu, cu, rfl, _, hbuf⟩, hb11⟩
          have HW11 := Lib.hid hbuf
          clear hbuf
          clear q0 q1 ql
          have HX11 := Lib.hid (HX10.out.below hb11)
          have HY11 := Lib.hid (HY10.out.below hb11)
          have R11 := Lib.hid (R10.out.below hb11)
          have HE11 := Lib.hid (HE10.out.below hb11)
          have HB11 := Lib.hid (HB10.out.trans (hb11.mono HE10.out.size))
          clear hb11 HX10 HY10 R10 HE10 HB10
          have q0 := R11.out.cell 0
          have q1 := R11.out.cell 1
          have ql := R11.out.lt
          go_wp2_with fail
          refine (bget_lost (c := (3, (K : Int))) HX11.out HI64.out.1 HI64.out.2 (by simp [upd]) HE11.out).mono ?_
          rintro e w12 ⟨rfl, hb12⟩
          clear q0 q1 ql
          have HX12 := Lib.hid (HX11.out.below hb12)
          have HY12 := Lib.hid (HY11.out.below hb12)
          have R12 := Lib.hid (R11.out.below hb12)
          have HE12 := Lib.hid (HE11.out.below hb12)
          have HB12 := Lib.hid (HB11.out.trans (hb12.mono HE11.out.size))
          have HW12 := Lib.hid (HW11.out.below hb12)
          clear hb12 HX11 HY11 R11 HE11 HB11 HW11
          go_wp2_with fail
          refine (full_any (HR.out.old HB12.out HSP.out) hl256).mono ?_
          rintro e w13 ⟨⟨h13, rfl, _, hr13⟩, hb13⟩
          have HF13 := Lib.hid hr13
          clear hr13
          have HX13 := Lib.hid (HX12.out.below hb13)
          have HY13 := Lib.hid (HY12.out.below hb13)
          have R13 := Lib.hid (R12.out.below hb13)
          have HE13 := Lib.hid (HE12.out.below hb13)
          have HB13 := Lib.hid (HB12.out.trans (hb13.mono HE12.out.size))
          have HW13 := Lib.hid (HW12.out.below hb13)
          clear hb13 HX12 HY12 R12 HE12 HB12 HW12
          go_wp2_with fail
          refine (samebytes_any (l := pad l) (m := pad l) (RdB.of_buf' HW13.out (pad_len hl256)) (RdB.of_row HF13.out (pad_len hl256)) (by rw [pad_len hl256]; omega)).mono ?_
          rintro e w14 ⟨rfl, hb14⟩
          rw [decide_eq_true (rfl : pad l = pad l)]
          clear HW13 HF13
          have HX14 := Lib.hid (HX13.out.below hb14)
          have HY14 := Lib.hid (HY13.out.below hb14)
          have R14 := Lib.hid (R13.out.below hb14)
          have HE14 := Lib.hid (HE13.out.below hb14)
          have HB14 := Lib.hid (HB13.out.trans (hb14.mono HE13.out.size))
          clear hb14 HX13 HY13 R13 HE13 HB13
          go_wp2_with fail
          refine (is_err (g := 5) (by decide) 107 _ HE14.out).mono ?_
          rintro e w15 ⟨rfl, hb15⟩
          rw [show (codeOf 5 == (107 : Int)) = true by decide]
          have HX15 := Lib.hid (HX14.out.below hb15)
          have HY15 := Lib.hid (HY14.out.below hb15)
          have R15 := Lib.hid (R14.out.below hb15)
          have HE15 := Lib.hid (HE14.out.below hb15)
          have HB15 := Lib.hid (HB14.out.trans (hb15.mono HE14.out.size))
          clear hb15 HX14 HY14 R14 HE14 HB14
          have q0 := R15.out.cell 0
          have q1 := R15.out.cell 1
          have ql := R15.out.lt
          go_wp2_with fail
          refine (bdel_ok (c := (3, (K : Int))) HX15.out HI64.out.1 HI64.out.2 (o := none) (by simp [upd])).mono ?_
          rintro e w16 ⟨rfl, ⟨n16, k16, hbo⟩, ht⟩
          clear q0 q1 ql
          have HX16 := Lib.hid hbo
          have HY16 := Lib.hid (HY15.out.touch ht (fun x hx => by have h1 := HX15.out.Mm; have h2 := HX15.out.Md; have h3 := HNE.out; rcases hx with rfl | rfl; exact ⟨h1, by omega, by omega, by omega⟩; exact ⟨h2, by omega, by omega, by omega⟩))
          have R16 := Lib.hid (R15.out.touch ht (by have := HLT.out; omega))
          have HE16 := Lib.hid (HE15.out.keep (ht.below HE15.out.size (fun x hx => by have := HBMD.out; omega)))
          have HB16 := Lib.hid (HB15.out.trans (ht.below HE15.out.size (fun x hx => by have := HBMD.out; omega)))
          clear hbo ht HX15 HY15 R15 HE15 HB15
          have q0 := R16.out.cell 0
          have q1 := R16.out.cell 1
          have ql := R16.out.lt
          go_wp2_with fail
          refine (bhas_any (c := (3, (K : Int))) HX16.out HI64.out.1 HI64.out.2).mono ?_
          rintro e w17 ⟨rfl, hb17⟩
          clear q0 q1 ql
          rw [show (del (upd (upd (fun _ => none) ((3, (K : Int)) : Cl) (some (pad l))) (3, (K : Int)) none) (3, (K : Int)) (3, (K : Int))).isSome = false by simp [del]]
          have HX17 := Lib.hid (HX16.out.below hb17)
          have HY17 := Lib.hid (HY16.out.below hb17)
          have R17 := Lib.hid (R16.out.below hb17)
          have HE17 := Lib.hid (HE16.out.below hb17)
          have HB17 := Lib.hid (HB16.out.trans (hb17.mono HE16.out.size))
          clear hb17 HX16 HY16 R16 HE16 HB16
          have q0 := R17.out.cell 0
          have q1 := R17.out.cell 1
          have ql := R17.out.lt
          go_wp2_with fail
          refine (bhas_any (c := (3, (K : Int))) HY17.out HI64.out.1 HI64.out.2).mono ?_
          rintro e w18 ⟨rfl, hb18⟩
          clear q0 q1 ql
          rw [show (upd (fun _ => none) ((3, (K : Int)) : Cl) (some (pad l)) (3, (K : Int))).isSome = true by simp [upd]]
          have HX18 := Lib.hid (HX17.out.below hb18)
          have HY18 := Lib.hid (HY17.out.below hb18)
          have R18 := Lib.hid (R17.out.below hb18)
          have HE18 := Lib.hid (HE17.out.below hb18)
          have HB18 := Lib.hid (HB17.out.trans (hb18.mono HE17.out.size))
          clear hb18 HX17 HY17 R17 HE17 HB17
          go_wp2
          go_ret
          exact ⟨rfl, HB18.out⟩
end Go.Proofs.YthominkfjfnkbaaDoor
