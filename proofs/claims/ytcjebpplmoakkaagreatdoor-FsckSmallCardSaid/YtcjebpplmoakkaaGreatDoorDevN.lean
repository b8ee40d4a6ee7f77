/- A device that was made and never written (its maps have nothing): package dev's New, Blocks, Read, Arm, Flush without power, Calls, Clone; package geo's Of. -/
import Derived.Test.YtcjebpplmoakkaaGreatDoorName
import Derived.Test.YtcjebpplmoakkaaGreatDoorRow
import Derived.Shelf.SlMaps.Clone
import Derived.Deep.RegionHeld3
import Derived.BigQuiet
import Derived.Carry
import Derived.Lib.SliceRun
namespace Go.Proofs.YtcjebpplmoakkaaGreatDoor
open Go Go.RowKit
set_option maxRecDepth 100000
set_option linter.unusedSimpArgs false
set_option linter.unusedVariables false
attribute [local go_sem] giv
variable {E : Nat → Addr} {B : Nat}
theorem keyedI : Maps.Keyed Tryz.prog 3 := Maps.int_keyed Tryz.underlying3
theorem injI : ∀ a b : Int, Value.int .i64 a = Value.int .i64 b → a = b := fun _ _ h => by cases h; rfl
theorem keyI {a : Int} (h : -9223372036854775808 ≤ a ∧ a ≤ 9223372036854775807) : keyOf Tryz.prog 3 (.int .i64 a) = some (.int .i64 a) :=
  Maps.keyOf_int_mk Tryz.underlying3 (by simp [Lit.wf, IntKind.min, IntKind.max, IntKind.signed, IntKind.bits]; omega)
theorem zeroBs (w : World) : (zeroValue 44).run Tryz.prog w = .ok (.slice none 0 0) w := by kernel_rfl
theorem zeroBo (w : World) : (zeroValue 4).run Tryz.prog w = .ok (.bool false) w := by kernel_rfl
/-- A map of ints that has nothing. -/
abbrev MapE (w : World) (m : Nat) : Prop := MapAt Tryz.prog 3 (Value.int .i64) (fun v : Value => v) w m (fun _ => none) 0
theorem mapE_bs {w : World} {m : Nat} (h : MapE w m) {a : Int} (ha : -9223372036854775808 ≤ a ∧ a ≤ 9223372036854775807) (c : Bool) : (Instr.lookup 40 (.map (some m)) (.int .i64 a) c).run Tryz.prog w = .ok (if c then .tuple #[.slice none 0 0, .bool false] else .slice none 0 0) w :=
  h.look_none keyedI Tryz.underlying40 injI (zeroBs w) (keyI ha) rfl c
theorem mapE_bo {w : World} {m : Nat} (h : MapE w m) {a : Int} (ha : -9223372036854775808 ≤ a ∧ a ≤ 9223372036854775807) (c : Bool) : (Instr.lookup 41 (.map (some m)) (.int .i64 a) c).run Tryz.prog w = .ok (if c then .tuple #[.bool false, .bool false] else .bool false) w :=
  h.look_none keyedI Tryz.underlying41 injI (zeroBo w) (keyI ha) rfl c
/-- The cells of a device. -/
abbrev devC (bl : Nat) (calls fuse : Int) (dn : Bool) (m1 m2 m3 m4 m5 : Nat) : List Value := [.int .i64 bl, .map (some m1), .map (some m2), .map (some m3), .map (some m4), .map (some m5), .int .i64 calls, .int .i64 fuse, .bool dn]
/-- Block d is a device of so many blocks, its maps have nothing. -/
def DevN (w : World) (d bl : Nat) (calls fuse : Int) (dn : Bool) : Prop := ∃ m1 m2 m3 m4 m5, Row w d 43 (devC bl calls fuse dn m1 m2 m3 m4 m5) ∧ MapE w m1 ∧ MapE w m2 ∧ MapE w m3 ∧ MapE w m4 ∧ MapE w m5
variable {w w' : World} {d bl : Nat} {calls fuse : Int} {dn : Bool}
theorem DevN.below (h : DevN w d bl calls fuse dn) (hb : Below w.heap.size w w') : DevN w' d bl calls fuse dn := by
  obtain ⟨m1, m2, m3, m4, m5, h0, h1, h2, h3, h4, h5⟩ := h
  exact ⟨m1, m2, m3, m4, m5, h0.below hb, h1.below hb, h2.below hb, h3.below hb, h4.below hb, h5.below hb⟩
theorem DevN.lt (h : DevN w d bl calls fuse dn) : d < w.heap.size := by
  obtain ⟨m1, m2, m3, m4, m5, h0, _⟩ := h
  exact h0.lt
theorem MapE.other {m : Nat} {cs : List Value} {t : TypeId} (h : MapE w m) (r : Row w d t cs) (i : Nat) (v : Value) : MapE (w.setCell ⟨d, i, none⟩ v) m :=
  h.setCell (a := ⟨d, i, none⟩) (fun e => by
    obtain ⟨es, clk, hb, _⟩ := h
    have hr : w.heap[d]? = some (.cells cs.toArray t (0, 0)) := r
    rw [e] at hb
    rw [hr] at hb
    cases hb) v
theorem dev_new (h1 : 1 ≤ bl) (h2 : bl ≤ 6000) (w : World) : Calls Tryz.prog 6 #[.int .i64 bl] w fun e w' => (∃ d, e = .returned (.tuple #[.pointer (some ⟨d, 0, none⟩), .nilIface]) ∧ DevN w' d bl 0 0 false ∧ w.heap.size ≤ d) ∧ Below w.heap.size w w' := by
  have hmm := @run_makeMap Tryz.prog
  have q1 : ¬ ((bl : Int) < 1) := by omega
  have q2 : ¬ ((bl : Int) > 6000) := by omega
  go_enter Tryz.func6, Tryz.ntmps6
  go_wp2
  go_ret2
  obtain ⟨w5, hw5⟩ : ∃ w5, w5 = ((((w.alloc (.map #[] 0)).alloc (.map #[] 0)).alloc (.map #[] 0)).alloc (.map #[] 0)).alloc (.map #[] 0) := ⟨_, rfl⟩
  have hz : w5.heap.size = w.heap.size + 1 + 1 + 1 + 1 + 1 := by rw [hw5]; simp
  have hb : Below w.heap.size w w5 := by rw [hw5]; repeat (first | exact Below.refl _ _ | refine bl_alloc ?_ _)
  have r := Row.new w5 43 (devC bl 0 0 false w.heap.size (w.heap.size + 1) (w.heap.size + 1 + 1) (w.heap.size + 1 + 1 + 1) (w.heap.size + 1 + 1 + 1 + 1))
  rw [hz] at r
  have e1 : MapE w5 w.heap.size := by rw [hw5]; exact (((((mapAt_new' _ _ _ _ w rfl).alloc _).alloc _).alloc _).alloc _)
  have e2 : MapE w5 (w.heap.size + 1) := by rw [hw5]; exact ((((mapAt_new' _ _ _ _ (w.alloc (.map #[] 0)) (by simp)).alloc _).alloc _).alloc _)
  have e3 : MapE w5 (w.heap.size + 1 + 1) := by rw [hw5]; exact (((mapAt_new' _ _ _ _ ((w.alloc (.map #[] 0)).alloc (.map #[] 0)) (by simp)).alloc _).alloc _)
  have e4 : MapE w5 (w.heap.size + 1 + 1 + 1) := by rw [hw5]; exact ((mapAt_new' _ _ _ _ (((w.alloc (.map #[] 0)).alloc (.map #[] 0)).alloc (.map #[] 0)) (by simp)).alloc _)
  have e5 : MapE w5 (w.heap.size + 1 + 1 + 1 + 1) := by rw [hw5]; exact mapAt_new' _ _ _ _ ((((w.alloc (.map #[] 0)).alloc (.map #[] 0)).alloc (.map #[] 0)).alloc (.map #[] 0)) (by simp)
  rw [← hw5]
  exact ⟨⟨_, rfl, ⟨_, _, _, _, _, r, e1.alloc _, e2.alloc _, e3.alloc _, e4.alloc _, e5.alloc _⟩, by omega⟩, bl_alloc hb _⟩
theorem dev_blocks (h : DevN w d bl calls fuse dn) : Calls Tryz.prog 16 #[.pointer (some ⟨d, 0, none⟩)] w fun e w' => e = .returned (.int .i64 bl) ∧ w = w' := by
  obtain ⟨m1, m2, m3, m4, m5, h0, _⟩ := h
  have c0 := h0.cell' (i := 0) rfl
  have lt := h0.lt
  go_enter Tryz.func16, Tryz.ntmps16
  go_wp2
  go_ret
  exact ⟨rfl, rfl⟩
theorem dev_calls (h : DevN w d bl calls fuse dn) : Calls Tryz.prog 12 #[.pointer (some ⟨d, 0, none⟩)] w fun e w' => e = .returned (.int .i64 calls) ∧ w = w' := by
  obtain ⟨m1, m2, m3, m4, m5, h0, _⟩ := h
  have c6 := h0.cell' (i := 6) rfl
  have lt := h0.lt
  go_enter Tryz.func12, Tryz.ntmps12
  go_wp2
  go_ret
  exact ⟨rfl, rfl⟩
theorem dev_is (h : DevN w d bl calls fuse dn) {i : Nat} (hi : i < bl) : Calls Tryz.prog 196 #[.pointer (some ⟨d, 0, none⟩), .int .i64 i] w fun e w' => e = .returned (.bool true) ∧ w = w' := by
  obtain ⟨m1, m2, m3, m4, m5, h0, _⟩ := h
  have c0 := h0.cell' (i := 0) rfl
  have lt := h0.lt
  have q1 : (i : Int) ≥ 0 := by omega
  have q2 : (i : Int) < (bl : Int) := by omega
  go_enter Tryz.func196, Tryz.ntmps196
  go_wp2
  go_ret
  exact ⟨rfl, rfl⟩
/-- The power goes. -/
theorem dev_gone (h : DevN w d bl calls 1 false) : Calls Tryz.prog 13 #[.pointer (some ⟨d, 0, none⟩)] w fun e w' => e = .returned (.bool true) ∧ DevN w' d bl calls 0 true ∧ Touch (fun x => x = d) w w' := by
  obtain ⟨m1, m2, m3, m4, m5, h0, h1, h2, h3, h4, h5⟩ := h
  have H0 := Lib.hid h0
  have c7 := h0.cell' (i := 7) rfl
  have c8 := h0.cell' (i := 8) rfl
  have f7 := h0.froz 7
  have f8 := h0.froz 8
  have lt := h0.lt
  clear h0
  go_enter Tryz.func13, Tryz.ntmps13
  go_wp2
  go_ret
  have r7 := H0.out.set 7 (.int .i64 0)
  exact ⟨rfl, ⟨_, _, _, _, _, r7.set 8 (.bool true), (h1.other H0.out _ _).other r7 _ _, (h2.other H0.out _ _).other r7 _ _, (h3.other H0.out _ _).other r7 _ _, (h4.other H0.out _ _).other r7 _ _, (h5.other H0.out _ _).other r7 _ _⟩, Touch.setCell (S := fun x => x = d) (Touch.setCell (S := fun x => x = d) (Touch.refl _ _) (.inl rfl) _) (.inl rfl) _⟩
theorem dev_arm (h : DevN w d bl calls fuse false) : Calls Tryz.prog 7 #[.pointer (some ⟨d, 0, none⟩), .int .i64 1] w fun e w' => e = .returned (.tuple #[]) ∧ DevN w' d bl calls 1 false ∧ Touch (fun x => x = d) w w' := by
  obtain ⟨m1, m2, m3, m4, m5, h0, h1, h2, h3, h4, h5⟩ := h
  have H0 := Lib.hid h0
  have c7 := h0.cell' (i := 7) rfl
  have f7 := h0.froz 7
  have lt := h0.lt
  clear h0
  go_enter Tryz.func7, Tryz.ntmps7
  go_wp2
  go_end0
  exact ⟨rfl, ⟨_, _, _, _, _, H0.out.set 7 (.int .i64 1), h1.other H0.out _ _, h2.other H0.out _ _, h3.other H0.out _ _, h4.other H0.out _ _, h5.other H0.out _ _⟩, Touch.setCell (S := fun x => x = d) (Touch.refl _ _) (.inl rfl) _⟩
theorem dev_fall (h : DevN w d bl calls 1 false) (hE : Env E B w) (hd : B ≤ d) : Calls Tryz.prog 8 #[.pointer (some ⟨d, 0, none⟩)] w fun e w' => e = .returned (errV E 1) ∧ DevN w' d bl calls 0 true ∧ Touch (fun x => x = d) w w' := by
  have HE := Lib.hid hE
  go_enter Tryz.func8, Tryz.ntmps8
  go_wp2_with fail
  refine (dev_gone h).mono ?_
  rintro e w2 ⟨rfl, h2, t2⟩
  have e2 := HE.out.keep (t2.below HE.out.size fun x hx => by rw [hx]; exact hd)
  have he := e2.cell 1 (by decide)
  have hl2 : 1 < w2.heap.size := Nat.lt_of_lt_of_le (e2.glt 1 (by decide)) e2.size
  have hl2_z : 0 < w2.heap.size := Nat.lt_of_le_of_lt (Nat.zero_le _) hl2
  have H2 := Lib.hid h2
  have T2 := Lib.hid t2
  clear h2 t2 e2 h
  go_wp2
  go_ret
  exact ⟨rfl, H2.out, T2.out⟩
/-- slices.Clone of a block. -/
theorem clone_blk {h : Nat} {l : List Int} (hr : Row w h 5 (l.map (Value.int .u8))) (hl : l.length = 256) :
    Calls Tryz.prog 93 #[.slice (some ⟨h, 0, none⟩) 256 256] w fun e w' => (∃ h' cap, e = .returned (.slice (some ⟨h', 0, none⟩) 256 cap) ∧ w.heap.size ≤ h' ∧ Buf w' h' 5 cap (l.map (Value.int .u8))) ∧ Below w.heap.size w w' := by
  obtain ⟨i0, hi, hz0, hz1, hz2⟩ := info_parts u8_info
  have HR := Lib.hid hr
  have HL := Lib.hid hl
  have hq := fun w => Go.Lib.run_eql_slice_nil (P := Tryz.prog) w 44 5 (some ⟨h, 0, none⟩) 256 256 0 0 Tryz.underlying44
  have HOWN : Hid ((w.alloc (.cells #[] 5)).ownsRow w.heap.size 5 1 (.slice (some ⟨w.heap.size, 0, none⟩) 0 0) 0 []) :=
    Lib.hid ⟨rfl, .inr ⟨_, 0, #[], rfl, Nat.le_refl _, (MapKept.heap_alloc w _).1, Nat.le_refl _, Nat.zero_le _, rfl, rfl⟩⟩
  have HC1 : Hid (∀ j u, (l.map (Value.int .u8))[j]? = some u → (w.alloc (.cells #[] 5)).cell? ((⟨h, 0, none⟩ : Addr).add j) = some u) := Lib.hid fun j u hj => by
    rw [show (⟨h, 0, none⟩ : Addr).add j = ⟨h, 0 + j, none⟩ by unfold Addr.add; split <;> simp_all, Nat.zero_add]
    exact ((HR.out.alloc _).cell j).trans hj
  have HC2 : Hid (∀ u ∈ l.map (Value.int .u8), u.oneCell' = true) := Lib.hid fun u hu => by
    obtain ⟨x, _, rfl⟩ := List.mem_map.1 hu
    rfl
  clear hr hl
  go_enter Tryz.func93, Tryz.ntmps93
  go_wp2_with (at_builtin; refine wpList_append_own (w := w.alloc (.cells #[] 5)) (hgd := rfl) _ _ 44 (ho := rfl) (base := w.heap.size) (e := 5) (i := i0) (z := .int .u8 0) (size := 1) (bytes := 1) (ht := Tryz.underlying44) (hi := hi) (hz := hz0) (hsize := hz1) (hby := hz2) (hzs := rfl) (hsz := by decide) (v := .slice (some ⟨w.heap.size, 0, none⟩) 0 0) (n := 0) (xs := []) (hs := rfl) (hown := HOWN.out) (ad := ⟨h, 0, none⟩) (m := 256) (c := 256) (news := l.map (Value.int .u8)) (hx := rfl) (hl := by simp [HL.out]) (hnews := HC1.out) (h1 := HC2.out) (h63 := by unfold maxLen; omega) (hbytes := by omega) (hbase := by simp) ?_; intro v' w1 hown' hgrow _; have HO := Lib.hid hown'; have HG := Lib.hid hgrow; clear hown' hgrow)
  go_ret
  have hb := ((bl_alloc (Below.refl w.heap.size w) (.cells #[] 5)).grown HG.out (by simp) (fun k hk => by cases hk; exact Nat.le_refl _))
  rcases SlBuf.of_owns HO.out with ⟨_, h2⟩ | ⟨g, cap, h1, h2, h3, _⟩
  · exact absurd (congrArg List.length h2) (by simp [HL.out])
  · refine ⟨⟨g, cap, ?_, h2, by simpa using h3⟩, hb⟩
    show Ending.returned v' = _
    rw [h1]
    simp [HL.out]
abbrev zs : List Int := List.replicate 256 0
theorem dev_kept (h : DevN w d bl calls fuse dn) {i : Nat} (hi : i < 6000) : Calls Tryz.prog 197 #[.pointer (some ⟨d, 0, none⟩), .int .i64 i] w fun e w' => e = .returned (.slice (some ⟨w.heap.size, 0, none⟩) 256 256) ∧ Row w' w.heap.size 5 (zs.map (Value.int .u8)) ∧ Below w.heap.size w w' := by
  obtain ⟨m1, m2, m3, m4, m5, h0, h1, h2, h3, h4, h5⟩ := h
  have c1 := h0.cell' (i := 1) rfl
  have lt := h0.lt
  have HL := Lib.hid (mapE_bs h1 (a := i) (by omega) false)
  clear h0 h2 h3 h4 h5
  go_enter Tryz.func197, Tryz.ntmps197
  go_wp2_with (first
    | (at_lookup; refine wpList_look rfl _ _ _ _ rfl HL.out ?_)
    | (at_make; refine wpList_mk _ rfl _ _ _ rfl 5 (.int .u8 0) 1 Tryz.underlying44 u8_info rfl 256 rfl rfl (by omega) (by unfold maxLen; omega) ?_; intro w5 hr5 hb5; have HR5 := Lib.hid hr5; have HB5 := Lib.hid hb5; clear hr5 hb5))
  go_ret
  exact ⟨rfl, by rw [List.map_replicate]; exact HR5.out, HB5.out⟩
theorem dev_read (h : DevN w d bl calls fuse false) {i : Nat} (hi : i < bl) (hb : bl ≤ 6000) : Calls Tryz.prog 150 #[.pointer (some ⟨d, 0, none⟩), .int .i64 i] w fun e w' => (∃ h cap, e = .returned (.tuple #[.slice (some ⟨h, 0, none⟩) 256 cap, .nilIface]) ∧ Buf w' h 5 cap (zs.map (Value.int .u8))) ∧ Below w.heap.size w w' := by
  have H := Lib.hid h
  obtain ⟨m1, m2, m3, m4, m5, h0, h1, h2, h3, h4, h5⟩ := h
  have c2 := h0.cell' (i := 2) rfl
  have c4 := h0.cell' (i := 4) rfl
  have c8 := h0.cell' (i := 8) rfl
  have lt := h0.lt
  have HL2 := Lib.hid (mapE_bs h2 (a := i) (by omega) false)
  have HL4 := Lib.hid (mapE_bo h4 (a := i) (by omega) false)
  clear h0 h1 h2 h3 h4 h5
  go_enter Tryz.func150, Tryz.ntmps150
  go_wp2_with fail
  refine (dev_is H.out hi).mono ?_
  rintro e wx ⟨rfl, hw⟩
  subst hw
  go_wp2_with (first
    | (at_lookup; refine wpList_look rfl _ _ _ _ rfl HL2.out ?_)
    | (at_lookup; refine wpList_look rfl _ _ _ _ rfl HL4.out ?_))
  refine (dev_kept H.out (i := i) (by omega)).mono ?_
  rintro e w2 ⟨rfl, hr2, hb2⟩
  have HB2 := Lib.hid hb2
  have HR2 := Lib.hid hr2
  clear hb2 hr2 c2 c4 c8
  go_wp2_with fail
  refine (clone_blk HR2.out (by simp)).mono ?_
  rintro e w3 ⟨⟨h', cap, rfl, hle, hbuf⟩, hb3⟩
  have HB3 := Lib.hid (HB2.out.trans (hb3.mono HB2.out.size))
  have HBF := Lib.hid hbuf
  clear hb3 hbuf
  go_wp2
  go_ret2
  exact ⟨⟨_, _, rfl, HBF.out⟩, HB3.out⟩
theorem dev_read_down (h : DevN w d bl calls fuse true) (hE : Env E B w) (i : Int) : Calls Tryz.prog 150 #[.pointer (some ⟨d, 0, none⟩), .int .i64 i] w fun e w' => e = .returned (.tuple #[.slice none 0 0, errV E 1]) ∧ Below w.heap.size w w' := by
  obtain ⟨m1, m2, m3, m4, m5, h0, h1, h2, h3, h4, h5⟩ := h
  have c8 := h0.cell' (i := 8) rfl
  have lt := h0.lt
  have he := hE.cell 1 (by decide)
  have hl2 : 1 < w.heap.size := Nat.lt_of_lt_of_le (hE.glt 1 (by decide)) hE.size
  have hl2_z : 0 < w.heap.size := Nat.lt_of_le_of_lt (Nat.zero_le _) hl2
  clear h0 h1 h2 h3 h4 h5
  go_enter Tryz.func150, Tryz.ntmps150
  go_wp2_with fail
  go_region
  go_wp2
  go_ret2
  exact ⟨rfl, (Below.refl _ _).drew⟩
end Go.Proofs.YtcjebpplmoakkaaGreatDoor
