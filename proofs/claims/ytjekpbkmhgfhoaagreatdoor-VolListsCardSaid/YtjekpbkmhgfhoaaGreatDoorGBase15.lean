/- Merged texts: BodySet Bytes. -/
import Derived.Test.YtjekpbkmhgfhoaaGreatDoorGBase14
import Derived.Test.YtjekpbkmhgfhoaaGreatDoorGBase02
import Derived.Laws.CopyOwn
import Derived.Shelf.SlMaps.Clone
section
/- The walks of package body: Get of what is there, Set, Lose, Del, Clean, Clone. -/
namespace Go.Proofs.YtjekpbkmhgfhoaaGreatDoor
open Go Go.RowKit
set_option maxRecDepth 100000
set_option linter.unusedSimpArgs false
attribute [local go_sem] giv
variable {E : Nat → Addr} {B : Nat}

section
variable {w : World} {M : Nat → Prop} {b m d : Nat} {g : Cl → Option (Option (List Int))} {gd : Cl → Option Int} {n k : Nat}

theorem bget_lost (h : BodyAt w M b m d g gd n k) {c : Cl} (h1 : In64 c.1) (h2 : In64 c.2) (hg : g c = some none) (hE : Env E B w) :
    Calls Tryz.prog 29 #[.pointer (some ⟨b, 0, none⟩), .agg #[.int .i64 c.1, .int .i64 c.2]] w fun e w' =>
      e = .returned (.tuple #[.slice none 0 0, errV E 5]) ∧ Below w.heap.size w w' := by
  have hc := h.cm
  have hlt := h.lt
  have he := hE.cell 5 (by decide)
  have hle : 5 < w.heap.size := Nat.lt_of_lt_of_le (hE.glt _ (by decide)) hE.size
  obtain ⟨v, hv, hl0⟩ := h.look h1 h2
  rw [hg] at hv hl0
  obtain rfl : v = .slice none 0 0 := by
    rcases hv with ⟨h, _⟩ | ⟨o, h, hb⟩
    · cases h
    · injection h with h
      subst h
      rcases hb with ⟨h, _⟩ | ⟨_, _, _, h, _⟩
      · exact h
      · cases h
  have hl : ∀ q, (Instr.lookup 114 (.map (some m)) (.agg #[.int .i64 c.1, .int .i64 c.2]) true).run Tryz.prog ((w.alloc (.cells #[.int .i64 c.1, .int .i64 c.2] 77)).drewN q) = .ok (.tuple #[.slice none 0 0, .bool true]) ((w.alloc (.cells #[.int .i64 c.1, .int .i64 c.2] 77)).drewN q) :=
    fun q => hl0 _ ((bl_alloc (Below.refl _ _) _).trans (drewN_below _ q |>.mono (by simp)))
  clear h hv hl0 hg hE
  go_enter Tryz.func29, Tryz.ntmps29
  go_wp2_with fail
  go_quiet (fail)
  go_wp2_with fail
  go_quiet (fail)
  go_wp2
  go_ret2
  exact ⟨rfl, ((bl_alloc (Below.refl _ _) _).trans (drewN_below _ _ |>.mono (by simp))).trans (drewN_below _ _ |>.mono (by simp [World.drewN]))⟩

theorem bget_some (h : BodyAt w M b m d g gd n k) {c : Cl} (h1 : In64 c.1) (h2 : In64 c.2) {l : List Int} (hg : g c = some (some l)) :
    Calls Tryz.prog 29 #[.pointer (some ⟨b, 0, none⟩), .agg #[.int .i64 c.1, .int .i64 c.2]] w fun e w' =>
      (∃ h' cap, e = .returned (.tuple #[.slice (some ⟨h', 0, none⟩) 256 cap, .nilIface]) ∧ w.heap.size ≤ h' ∧ Buf w' h' 5 cap (l.map (Value.int .u8))) ∧ Below w.heap.size w w' := by
  have hc := h.cm
  have hlt := h.lt
  obtain ⟨v, hv, hl0⟩ := h.look h1 h2
  rw [hg] at hv hl0
  obtain ⟨x, rfl, hx1, hx2⟩ : ∃ x, v = .slice (some ⟨x, 0, none⟩) 256 256 ∧ Row w x 5 (l.map (Value.int .u8)) ∧ l.length = 256 := by
    rcases hv with ⟨h, _⟩ | ⟨o, h, hb⟩
    · cases h
    · injection h with h
      subst h
      rcases hb with ⟨_, h⟩ | ⟨x, l', e1, h, e2, e3, _⟩
      · cases h
      · cases h
        exact ⟨x, e1, e3, e2⟩
  have hl : ∀ q, (Instr.lookup 114 (.map (some m)) (.agg #[.int .i64 c.1, .int .i64 c.2]) true).run Tryz.prog ((w.alloc (.cells #[.int .i64 c.1, .int .i64 c.2] 77)).drewN q) = .ok (.tuple #[.slice (some ⟨x, 0, none⟩) 256 256, .bool true]) ((w.alloc (.cells #[.int .i64 c.1, .int .i64 c.2] 77)).drewN q) :=
    fun q => hl0 _ ((bl_alloc (Below.refl _ _) _).trans (drewN_below _ q |>.mono (by simp)))
  have HX1 := Lib.hid hx1
  have HX2 := Lib.hid hx2
  clear h hv hl0 hg hx1 hx2
  go_enter Tryz.func29, Tryz.ntmps29
  go_wp2_with fail
  go_quiet (fail)
  go_wp2_with fail
  refine (clone_bytes (h := x) (l := l) ((HX1.out.alloc _).below (drewN_below _ _)) HX2.out).mono ?_
  rintro e w2 ⟨⟨h', cap, rfl, ha, hbuf⟩, hb⟩
  have HA := Lib.hid ha
  have HBUF := Lib.hid hbuf
  have HB := Lib.hid hb
  clear ha hbuf hb
  go_wp2
  go_ret2
  refine ⟨⟨_, _, rfl, ?_, HBUF.out⟩, ?_⟩
  · have := HA.out
    simp [World.drewN] at this
    omega
  · exact ((bl_alloc (Below.refl _ _) _).trans (drewN_below _ _ |>.mono (by simp))).trans (HB.out.mono (by simp [World.drewN]))

/-- May a cell be? -/
def cellOk (c : Cl) : Prop := 1 ≤ c.1 ∧ c.1 ≤ 16777215 ∧ 0 ≤ c.2 ∧ c.2 < 64
theorem cellOk.in64 {c : Cl} (h : cellOk c) : In64 c.1 ∧ In64 c.2 := by unfold cellOk at h; unfold In64; omega

/-- A slice of bytes, as it is read. -/
def SlIn (w : World) (sp : Option Addr) (l : List Int) : Prop := 0 < l.length → ∃ ad, sp = some ad ∧ ∀ j v, (l.map (Value.int .u8))[j]? = some v → w.cell? (ad.add j) = some v ∧ (ad.add j).block < w.heap.size
theorem slIn_below {w w' : World} {sp : Option Addr} {l : List Int} (h : SlIn w sp l) (hb : Below w.heap.size w w') (h0 : 0 < l.length) : ∃ ad, sp = some ad ∧ ∀ j v, (l.map (Value.int .u8))[j]? = some v → w'.cell? (ad.add j) = some v := by
  obtain ⟨ad, e1, e2⟩ := h h0
  refine ⟨ad, e1, fun j v hj => ?_⟩
  obtain ⟨e3, e4⟩ := e2 j v hj
  exact (hb.cell e4).trans e3
/-- Bytes made up to a block. -/
def pad (l : List Int) : List Int := l ++ List.replicate (256 - l.length) 0
theorem pad_len {l : List Int} (h : l.length ≤ 256) : (pad l).length = 256 := by simp [pad]; omega
theorem splice_gen (n : Nat) (x : Value) (cs : List Value) : splice (List.replicate n x) 0 cs = cs ++ List.replicate (n - cs.length) x := by simp [splice]
theorem splice_pad (l : List Int) : splice (List.replicate 256 (Value.int .u8 0)) 0 (l.map (Value.int .u8)) = (pad l).map (Value.int .u8) := by
  rw [splice_gen, pad, List.map_append, List.map_replicate, List.length_map]

/-- What Set leaves. -/
def BodyOut (M : Nat → Prop) (b m d : Nat) (g : Cl → Option (Option (List Int))) (gd : Cl → Option Int) (w w' : World) : Prop :=
  (∃ n k, BodyAt w' M b m d g gd n k) ∧ Touch (fun x => x = m ∨ x = d) w w'

theorem BodyAt.putm {w1 : World} (h : BodyAt w M b m d g gd n k) {c : Cl} {v : Value} {o : Option (List Int)} {gv : Cl → Option Value} {n1 : Nat} (hc : ∀ c, (gv c = none ∧ g c = none) ∨ ∃ v o, gv c = some v ∧ g c = some o ∧ Blk w M v o)
    (hm : VMap w1 m (upd gv c v) n1) (ht : w.mapTurned w1 m) (hb : Blk w M v o) : BodyAt w1 M b m d (upd g c o) gd n1 k := by
  have t := Touch.of_turned ht
  refine { h with cm := (t.cell (p := ⟨b, 0, none⟩) h.lt (Ne.symm h.mb)).trans h.cm, cd := (t.cell (p := ⟨b, 1, none⟩) h.lt (Ne.symm h.mb)).trans h.cd, fm := (t.frozen (p := ⟨b, 0, none⟩) h.lt (Ne.symm h.mb)).trans h.fm, fd := (t.frozen (p := ⟨b, 1, none⟩) h.lt (Ne.symm h.mb)).trans h.fd, lt := Nat.lt_of_lt_of_le h.lt t.size, dirty := h.dirty.touch t (Ne.symm h.md), has := ⟨_, hm, fun c' => ?_⟩ }
  have tm : ∀ v o, Blk w M v o → Blk w1 M v o := fun v o hb => hb.touch t fun x hx => by rw [hx]; exact h.Mm
  by_cases hcc : c' = c
  · subst hcc
    exact .inr ⟨v, o, by simp [upd], by simp [upd], tm _ _ hb⟩
  · rcases hc c' with ⟨e1, e2⟩ | ⟨v', o', e1, e2, e3⟩
    · exact .inl ⟨by simp [upd, hcc, e1], by simp [upd, hcc, e2]⟩
    · exact .inr ⟨v', o', by simp [upd, hcc, e1], by simp [upd, hcc, e2], tm _ _ e3⟩
theorem BodyAt.putd {w1 : World} (h : BodyAt w M b m d g gd n k) {gd' : Cl → Option Int} {k1 : Nat} (hm : DMap w1 d gd' k1) (ht : w.mapTurned w1 d) : BodyAt w1 M b m d g gd' n k1 := by
  have t := Touch.of_turned ht
  obtain ⟨gv, e1, e2⟩ := h.has
  refine { h with cm := (t.cell (p := ⟨b, 0, none⟩) h.lt (Ne.symm h.db)).trans h.cm, cd := (t.cell (p := ⟨b, 1, none⟩) h.lt (Ne.symm h.db)).trans h.cd, fm := (t.frozen (p := ⟨b, 0, none⟩) h.lt (Ne.symm h.db)).trans h.fm, fd := (t.frozen (p := ⟨b, 1, none⟩) h.lt (Ne.symm h.db)).trans h.fd, lt := Nat.lt_of_lt_of_le h.lt t.size, dirty := hm, has := ⟨gv, e1.touch t h.md, fun c => ?_⟩ }
  rcases e2 c with e | ⟨v, o, e3, e4, e5⟩
  · exact .inl e
  · exact .inr ⟨v, o, e3, e4, e5.touch t fun x hx => by rw [hx]; exact h.Md⟩

set_option maxHeartbeats 1000000 in
theorem bset_ok (h : BodyAt w M b m d g gd n k) {c : Cl} (hok : cellOk c) {sp : Option Addr} {cap : Nat} {l : List Int} (hl : l.length ≤ 256) (hin : SlIn w sp l) (hM : ∀ x, M x → x < w.heap.size) :
    Calls Tryz.prog 63 #[.pointer (some ⟨b, 0, none⟩), .agg #[.int .i64 c.1, .int .i64 c.2], .slice sp l.length cap] w fun e w' =>
      e = .returned .nilIface ∧ BodyOut M b m d (upd g c (some (pad l))) (upd gd c 1) w w' := by
  obtain ⟨hi1, hi2⟩ := hok.in64
  obtain ⟨lk, hlk⟩ := keyC hi1 hi2
  unfold cellOk at hok
  obtain ⟨o1, o2, o3, o4⟩ := hok
  have hl' : ¬ (256 : Int) < l.length := by omega
  have o1' : ¬ c.1 < 1 := by omega
  have o2' : ¬ 16777215 < c.1 := by omega
  have o3' : ¬ c.2 < 0 := by omega
  have o4' : ¬ 64 ≤ c.2 := by omega
  have HL := Lib.hid hl
  have HIN : Hid (SlIn (w.alloc (.cells #[.int .i64 c.1, .int .i64 c.2] 77)) sp l) := Lib.hid fun h0 => by
    obtain ⟨ad, e1, e2⟩ := hin h0
    refine ⟨ad, e1, fun j v hj => ?_⟩
    obtain ⟨e3, e4⟩ := e2 j v hj
    exact ⟨(World.cell?_of_block (w := w) (Below.heap_alloc _ _ _ e4)).trans e3, by simp; omega⟩
  have H := Lib.hid h
  have HM := Lib.hid hM
  have HC2 : Hid (∀ u ∈ l.map (Value.int .u8), u.oneCell' = true) := Lib.hid fun u hu => by
    obtain ⟨x, _, rfl⟩ := List.mem_map.1 hu
    rfl
  have U8SZ : Hid ((Tryz.prog.info? 5).map (·.size) = some 1) := Lib.hid (by kernel_rfl)
  have HSZ : Hid ((w.alloc (.cells #[.int .i64 c.1, .int .i64 c.2] 77)).heap.size = w.heap.size + 1) := Lib.hid (by simp)
  have HIN2 := fun w2 (hb2 : Below (w.heap.size + 1) (w.alloc (.cells #[.int .i64 c.1, .int .i64 c.2] 77)) w2) (h0 : 0 < l.length) => slIn_below HIN.out (HSZ.out.symm ▸ hb2) h0
  clear hl hin h hM
  go_enter Tryz.func63, Tryz.ntmps63
  go_wp2_with (first
    | (at_make; refine wpList_mk _ rfl _ _ _ rfl 5 (.int .u8 0) 1 Tryz.underlying31 u8_info rfl 256 rfl rfl (by omega) (by unfold maxLen; omega) ?_; intro w2 hr hb2; rw [HSZ.out] at hr hb2; have HR := Lib.hid hr; have HB2 := Lib.hid hb2; clear hr hb2)
    | (refine wpList_copy_splice (o := ⟨some 35, _, _, _, _, _⟩) (hgd := rfl) (.tmp 33) (.tmp 34) 31 31 (ho := rfl) 5 (hu := Tryz.underlying31) (hsz := U8SZ.out) (dp := some ⟨w.heap.size + 1, 0, none⟩) (sp := sp) (dLen := 256) (dCap := 256) (sLen := l.length) (sCap := cap) (hd := rfl) (hs := rfl) (g := w.heap.size + 1) (off := 0) (cur := List.replicate 256 (.int .u8 0)) (t := 5) (hg := HR.out) (cs := l.map (Value.int .u8)) (hn := by rw [List.length_map]; exact (Nat.min_eq_left HL.out).symm) (hpos := fun h0 => ⟨rfl, HIN2 _ HB2.out (by simpa using h0)⟩) (hfit := by simp; exact HL.out) (h1 := HC2.out) (B := w.heap.size + 1) (w0 := w.alloc (.cells #[.int .i64 c.1, .int .i64 c.2] 77)) (hb := HB2.out) (hBg := Nat.le_refl _) ?_; intro w3 hg3 hb3; have HB3 := Lib.hid hb3; clear hb3))
  have hbw : Below w.heap.size w w3 := (bl_alloc (Below.refl _ _) _).trans (HB3.out.mono (by omega))
  have H3 := Lib.hid (H.out.below hbw)
  have r3 : Row w3 (w.heap.size + 1) 5 ((pad l).map (Value.int .u8)) := by
    have := hg3.out
    rw [splice_pad] at this
    exact this
  have R3 := Lib.hid r3
  have T3 := Lib.hid (Touch.of_below hbw (fun x => x = m ∨ x = d))
  have x0 : w3.cell? ⟨w.heap.size, 0, none⟩ = some (.int .i64 c.1) := by rw [HB3.out.cell (p := ⟨w.heap.size, 0, none⟩) (by simp)]; simp
  have x1 : w3.cell? ⟨w.heap.size, 1, none⟩ = some (.int .i64 c.2) := by rw [HB3.out.cell (p := ⟨w.heap.size, 1, none⟩) (by simp)]; simp
  have lx : w.heap.size < w3.heap.size := by have := r3.lt; omega
  have NM : Hid (¬ M (w.heap.size + 1)) := Lib.hid fun h => by have := HM.out _ h; omega
  have ND : Hid (w.heap.size ≠ m ∧ w.heap.size ≠ d) := Lib.hid (by have := H.out.ltm; have := H.out.ltd; omega)
  clear r3 hg3 hbw HB3 HB2 HR HIN2 HSZ HC2 HM o1 o2 o3 o4 o1' o2' o3' o4' hl'
  generalize w.heap.size = bx at *
  have S : ∀ w', Below w3.heap.size w3 w' → w'.cell? ⟨b, 0, none⟩ = some (.map (some m)) ∧ w'.cell? ⟨bx, 0, none⟩ = some (.int .i64 c.1) ∧ w'.cell? ⟨bx, 1, none⟩ = some (.int .i64 c.2) := by
    intro w' hb
    obtain ⟨hc, _⟩ := bcell hb
    exact ⟨(H3.out.below hb).cm, (hc _ _ lx).trans x0, (hc _ _ lx).trans x1⟩
  have X0 := Lib.hid x0
  have X1 := Lib.hid x1
  clear x0 x1
  apply wp_region_tail 6 _ (by kernel_rfl) (by kernel_rfl) (by kernel_rfl) (by decide) (fun w' => Below w3.heap.size w3 w') (fun w' w'' => Below w'.heap.size w' w'') (fun w' w'' h1 h2 => bl_trans h1 h2) (Below.refl _ _).drew
  simp only [List.take_succ_cons, List.take_zero, List.drop_succ_cons, List.drop_zero]
  repeat (first
    | (apply wpRel_skip (by rfl)
       simp only [Act.put, List.setIfInBounds_toArray, List.set_cons_zero, List.set_cons_succ])
    | (apply wpRel_fix (by rfl)
       · intro w' hC hf R hR
         go_simp
         exact hR _ (Below.refl _ _)
       simp only [Act.put, List.setIfInBounds_toArray, List.set_cons_zero, List.set_cons_succ]))
  refine wpRel_nil (fun w4 hC hf => ?_)
  clear S hf
  have H4 := H3.out.below hC
  obtain ⟨gv, hgv, hrel⟩ := H4.has
  apply wpList_upd rfl _ _ _ _ rfl
  · exact hgv.put kdCell Tryz.underlying114 encC_inj hlk (.slice (some ⟨bx + 1, 0, none⟩) 256 256)
  rintro w5 ⟨hm5, ht5⟩
  have H5 := Lib.hid (H4.putm hrel hm5 ht5 (o := some (pad l)) (.inr ⟨_, _, rfl, rfl, pad_len HL.out, R3.out.below hC, NM.out⟩))
  have T5 := Lib.hid ((T3.out.then hC).trans (Touch.of_turned ht5) (fun x hx _ => .inl hx))
  have y0 : w5.cell? ⟨bx, 0, none⟩ = some (.int .i64 c.1) := by rw [(turned_cell ht5).1 _ _ ND.out.1, hC.cell (p := ⟨bx, 0, none⟩) lx]; exact X0.out
  have y1 : w5.cell? ⟨bx, 1, none⟩ = some (.int .i64 c.2) := by rw [(turned_cell ht5).1 _ _ ND.out.1, hC.cell (p := ⟨bx, 1, none⟩) lx]; exact X1.out
  have lx5 : bx < w5.heap.size := by have := (turned_cell ht5).2.2; have := hC.size; omega
  clear hm5 ht5 hC H4 hgv hrel H3 R3 T3 X0 X1 lx
  go_wp2_with fail
  have S : ∀ w', Below w5.heap.size w5 w' → w'.cell? ⟨b, 1, none⟩ = some (.map (some d)) ∧ w'.cell? ⟨bx, 0, none⟩ = some (.int .i64 c.1) ∧ w'.cell? ⟨bx, 1, none⟩ = some (.int .i64 c.2) := by
    intro w' hb
    obtain ⟨hc, _⟩ := bcell hb
    exact ⟨(H5.out.below hb).cd, (hc _ _ lx5).trans y0, (hc _ _ lx5).trans y1⟩
  clear y0 y1
  apply wp_region_tail 5 _ (by kernel_rfl) (by kernel_rfl) (by kernel_rfl) (by decide) (fun w' => Below w5.heap.size w5 w') (fun w' w'' => Below w'.heap.size w' w'') (fun w' w'' h1 h2 => bl_trans h1 h2) (Below.refl _ _).drew
  simp only [List.take_succ_cons, List.take_zero, List.drop_succ_cons, List.drop_zero]
  repeat (first
    | (apply wpRel_skip (by rfl)
       simp only [Act.put, List.setIfInBounds_toArray, List.set_cons_zero, List.set_cons_succ])
    | (apply wpRel_fix (by rfl)
       · intro w' hC hf R hR
         go_simp
         exact hR _ (Below.refl _ _)
       simp only [Act.put, List.setIfInBounds_toArray, List.set_cons_zero, List.set_cons_succ]))
  refine wpRel_nil (fun w6 hC hf => ?_)
  clear S hf
  have H6 := H5.out.below hC
  apply wpList_upd rfl _ _ _ _ rfl
  · exact H6.dirty.put kdCell Tryz.underlying115 encC_inj hlk 1
  rintro w7 ⟨hm7, ht7⟩
  have H7 := Lib.hid (H6.putd hm7 ht7)
  have T7 := Lib.hid ((T5.out.then hC).trans (Touch.of_turned ht7) (fun x hx _ => .inr hx))
  clear hm7 ht7 hC H6 H5 T5
  go_wp2
  go_ret
  exact ⟨rfl, ⟨_, _, H7.out⟩, T7.out⟩
end
end Go.Proofs.YtjekpbkmhgfhoaaGreatDoor
end

section
/- Slices of bytes as lists; the reference's Full, SameBytes, Bytes. -/
namespace Go.Proofs.YtjekpbkmhgfhoaaGreatDoor
open Go Go.RowKit
set_option maxRecDepth 100000
set_option linter.unusedSimpArgs false
attribute [local go_sem] giv

/-- v reads as the bytes l. -/
def RdB (w : World) (v : Value) (l : List Int) : Prop :=
  ∃ sp cap, v = .slice sp l.length cap ∧ (l = [] ∨ ∃ h off, sp = some ⟨h, off, none⟩ ∧ h < w.heap.size ∧ ∀ i, i < l.length → w.cell? ⟨h, off + i, none⟩ = some (.int .u8 (l.getD i 0)))
/-- The first j bytes, made up to 256. -/
def part (l : List Int) (j : Nat) : List Value := (l.take j).map (Value.int .u8) ++ List.replicate (256 - j) (.int .u8 0)
end Go.Proofs.YtjekpbkmhgfhoaaGreatDoor
end
