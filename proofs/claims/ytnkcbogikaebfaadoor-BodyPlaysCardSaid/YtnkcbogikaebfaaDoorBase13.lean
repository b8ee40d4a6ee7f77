/- Merged texts: BodyClone BodyLaw. -/
import Derived.Test.YtnkcbogikaebfaaDoorBase10
import Derived.Deep.RegionHeld3
import Derived.Test.YtnkcbogikaebfaaDoorBase12
section
/- The walks of package body: maps.Clone, Clone, Clean. -/
namespace Go.Proofs.YtnkcbogikaebfaaDoor
open Go Go.RowKit
set_option maxRecDepth 100000
set_option linter.unusedSimpArgs false
attribute [local go_sem] giv
variable {E : Nat → Addr} {B : Nat}

theorem mclone_v {w : World} {r n : Nat} {g : Cl → Option Value} (h : VMap w r g n) : Calls Tryd.prog 21 #[.map (some r)] w fun e w' =>
    e = .returned (.map (some w.heap.size)) ∧ VMap w' w.heap.size g n ∧ Below w.heap.size w w' ∧ w'.heap.size = w.heap.size + 1 := by
  obtain ⟨es, clk, _, hb, hc⟩ := h.copy
  have hq := fun w => run_eql_map_nil_sl (P := Tryd.prog) w 51 _ _ (some r) Tryd.underlying51
  clear h
  go_enter Tryd.func21, Tryd.ntmps21
  go_wp2
  rw [run_callFunc_extern Tryd.func32 (by kernel_rfl) (by kernel_rfl) (by kernel_rfl) (e := Extern.MapsClone.clone) (by kernel_rfl), run_maps_clone_sl w 51 hb]
  simp only [Result.andThen]
  rw [Oper.upon_value]
  go_wp2
  rw [run_typeAssert_map_sl _ 51 _ _ _ _ Tryd.underlying51]
  simp only [Result.andThen]
  rw [Oper.upon_value]
  go_wp2
  go_ret
  exact ⟨rfl, hc w, bl_alloc (Below.refl _ _) _, by simp⟩
theorem mclone_d {w : World} {r n : Nat} {g : Cl → Option Int} (h : DMap w r g n) : Calls Tryd.prog 22 #[.map (some r)] w fun e w' =>
    e = .returned (.map (some w.heap.size)) ∧ DMap w' w.heap.size g n ∧ Below w.heap.size w w' ∧ w'.heap.size = w.heap.size + 1 := by
  obtain ⟨es, clk, _, hb, hc⟩ := h.copy
  have hq := fun w => run_eql_map_nil_sl (P := Tryd.prog) w 52 _ _ (some r) Tryd.underlying52
  clear h
  go_enter Tryd.func22, Tryd.ntmps22
  go_wp2
  rw [run_callFunc_extern Tryd.func32 (by kernel_rfl) (by kernel_rfl) (by kernel_rfl) (e := Extern.MapsClone.clone) (by kernel_rfl), run_maps_clone_sl w 52 hb]
  simp only [Result.andThen]
  rw [Oper.upon_value]
  go_wp2
  rw [run_typeAssert_map_sl _ 52 _ _ _ _ Tryd.underlying52]
  simp only [Result.andThen]
  rw [Oper.upon_value]
  go_wp2
  go_ret
  exact ⟨rfl, hc w, bl_alloc (Below.refl _ _) _, by simp⟩

/-- A body of its own, which has the same. -/
theorem bclone_any {w : World} {M : Nat → Prop} {b m d : Nat} {g : Cl → Option (Option (List Int))} {gd : Cl → Option Int} {n k : Nat} (h : BodyAt w M b m d g gd n k) :
    Calls Tryd.prog 6 #[.pointer (some ⟨b, 0, none⟩)] w fun e w' =>
      (∃ b' m' d', e = .returned (.pointer (some ⟨b', 0, none⟩)) ∧ w.heap.size ≤ b' ∧ w.heap.size ≤ m' ∧ w.heap.size ≤ d' ∧ BodyAt w' (fun x => M x ∨ w.heap.size ≤ x) b' m' d' g gd n k) ∧ Below w.heap.size w w' := by
  generalize hP : (fun (e : Ending) (w' : World) => (∃ b' m' d', e = .returned (.pointer (some ⟨b', 0, none⟩)) ∧ w.heap.size ≤ b' ∧ w.heap.size ≤ m' ∧ w.heap.size ≤ d' ∧ BodyAt w' (fun x => M x ∨ w.heap.size ≤ x) b' m' d' g gd n k) ∧ Below w.heap.size w w') = Post
  have HP := Lib.hid hP
  clear hP
  obtain ⟨gv, hgv, hrel⟩ := h.has
  have HGV := Lib.hid hgv
  have HREL := Lib.hid hrel
  have HD := Lib.hid h.dirty
  have H := Lib.hid h
  clear hgv hrel h
  go_enter Tryd.func6, Tryd.ntmps6
  go_wp2_with fail
  have s0 := H.out.cm
  have s1 := H.out.cd
  have hlt := H.out.lt
  go_region_held3 (fun w' => w'.cell? ⟨b, 0, none⟩ = some (.map (some m)) ∧ w'.cell? ⟨b, 1, none⟩ = some (.map (some d)) ∧ Below w.heap.size w w') (first | exact ⟨s0, s1, (Below.refl _ _).drew⟩ | (exact ⟨(H.out.below HW2.out).cm, (H.out.below HW2.out).cd, HW2.out⟩) | (exact ⟨(H.out.below HW1.out).cm, (H.out.below HW1.out).cd, HW1.out⟩) | (exact ⟨(H.out.below (bl_alloc HW2.out _)).cm, (H.out.below (bl_alloc HW2.out _)).cd, bl_alloc HW2.out _⟩))
    (first
      | (go_at_call 21; refine (mclone_v (n := n) (g := gv) ?_).mono ?_; exact HGV.out.below (by first | exact (Below.refl _ _).drew | assumption); rintro e w1 ⟨rfl, hv1, hb1, hs1⟩; have HW1 : Hid (Below w.heap.size w w1) := Lib.hid ((Below.refl w.heap.size w).drew.trans hb1); have HV1 := Lib.hid hv1; have HS1 := Lib.hid hs1; clear hv1 hb1 hs1)
      | (go_at_call 22; refine (mclone_d (n := k) (g := gd) ?_).mono ?_; exact HD.out.below HW1.out; rintro e w2 ⟨rfl, hv2, hb2, hs2⟩; have HW2 := Lib.hid (HW1.out.trans (hb2.mono HW1.out.size)); have HV2 := Lib.hid hv2; have HB2 := Lib.hid hb2; have HS2 := Lib.hid hs2; clear hv2 hb2 hs2))
  go_wp2
  rw [← HP.out]
  have hs1 : w1.heap.size = w.heap.size + 1 := HS1.out
  have hs2 : w2.heap.size = w1.heap.size + 1 := HS2.out
  have r := Row.new w2 54 [.map (some w.heap.size), .map (some w1.heap.size)]
  have hm1 : VMap w1 w.heap.size gv n := HV1.out
  have hm := (hm1.below HB2.out).alloc (.cells #[.map (some w.heap.size), .map (some w1.heap.size)] 54)
  have hd := HV2.out.alloc (.cells #[.map (some w.heap.size), .map (some w1.heap.size)] 54)
  refine ⟨⟨_, w.heap.size, w1.heap.size, rfl, by omega, by omega, by omega, r.cell 0, r.cell 1, r.froz 0, r.froz 1, r.lt, by omega, by omega, by omega, .inr (by omega), .inr (Nat.le_refl _), .inr (by omega), hd, gv, hm, fun c => ?_⟩, bl_alloc HW2.out _⟩
  rcases HREL.out c with e1 | ⟨v, o, e1, e2, e3⟩
  · exact .inl e1
  · exact .inr ⟨v, o, e1, e2, (e3.more (M' := fun x => M x ∨ w.heap.size ≤ x) fun x hx => hx).touch (Touch.of_below (bl_alloc HW2.out _) NoB) (fun _ h => h.elim)⟩

/-- Clean: nothing is dirty. -/
theorem bclean_any {w : World} {M : Nat → Prop} {b m d : Nat} {g : Cl → Option (Option (List Int))} {gd : Cl → Option Int} {n k : Nat} (h : BodyAt w M b m d g gd n k) (hM : ∀ x, M x → x < w.heap.size) :
    Calls Tryd.prog 13 #[.pointer (some ⟨b, 0, none⟩)] w fun e w' => e = .returned (.tuple #[]) ∧ BodyAt w' (fun x => M x ∨ x = w.heap.size) b m w.heap.size g (fun _ => none) n 0 ∧ Touch (fun x => x = b) w w' := by
  have hc := h.cd
  have hf := h.fd
  have hlt := h.lt
  have hmm := @run_makeMap Tryd.prog
  have H := Lib.hid h
  have HM := Lib.hid hM
  clear h hM
  go_enter Tryd.func13, Tryd.ntmps13
  go_wp2
  go_end0
  have h := H.out
  have hc0 := h.cm
  have hf0 := h.fm
  have hT : Touch (fun x => x = b) w ((w.setCell ⟨b, 1, none⟩ (.map (some w.heap.size))).alloc (.map #[] 0)) := Touch.alloc (Touch.setCell (S := fun x => x = b) (Touch.refl _ _) (.inl rfl) _) _
  have hMb := h.Mb
  have hMm := h.Mm
  have hmb := h.mb
  have hmlt := h.ltm
  have hhas := h.has
  have HM' := HM.out
  clear h H HM
  refine ⟨rfl, ⟨by go_simp, by go_simp, by go_simp, by go_simp, by simp; omega, hmb, by omega, by omega, .inl hMb, .inl hMm, .inr rfl, mapAt_new' _ _ _ _ _ (by simp), ?_⟩, hT⟩
  obtain ⟨gv, e1, e2⟩ := hhas
  refine ⟨gv, e1.touch hT hmb, fun c => ?_⟩
  rcases e2 c with e | ⟨v, o, e3, e4, e5⟩
  · exact .inl e
  · exact .inr ⟨v, o, e3, e4, (e5.more (M' := fun x => M x ∨ x = w.heap.size) (fun x hx => hx.elim .inl (fun h => .inr (by omega)))).touch hT (fun x hx => .inl (by rw [hx]; exact hMb))⟩
end Go.Proofs.YtnkcbogikaebfaaDoor
end

section
/- Helpers of the laws of chapter 16. -/
namespace Go.Proofs.YtnkcbogikaebfaaDoor
open Go Go.RowKit
set_option maxRecDepth 100000
set_option linter.unusedSimpArgs false
attribute [local go_sem] giv
variable {E : Nat → Addr} {B : Nat}

theorem BodyAt.less {w : World} {M M' : Nat → Prop} {b m d : Nat} {g : Cl → Option (Option (List Int))} {gd : Cl → Option Int} {n k : Nat} (h : BodyAt w M b m d g gd n k) (hM : ∀ x, M' x → M x) (h1 : M' b) (h2 : M' m) (h3 : M' d) : BodyAt w M' b m d g gd n k := by
  refine { h with Mb := h1, Mm := h2, Md := h3, has := ?_ }
  obtain ⟨gv, e1, e2⟩ := h.has
  refine ⟨gv, e1, fun c => ?_⟩
  rcases e2 c with e | ⟨v, o, e3, e4, e5⟩
  · exact .inl e
  · refine .inr ⟨v, o, e3, e4, ?_⟩
    rcases e5 with e | ⟨h, l, e6, e7, e8, e9, e10⟩
    · exact .inl e
    · exact .inr ⟨h, l, e6, e7, e8, e9, fun hm => e10 (hM _ hm)⟩

theorem SlBuf.shape {w : World} {base : Nat} {t : TypeId} {v : Value} {xs : List Value} (h : SlBuf w base t v xs) :
    ∃ sp cap, v = .slice sp xs.length cap ∧ (xs = [] ∨ ∃ h, sp = some ⟨h, 0, none⟩ ∧ base ≤ h ∧ Buf w h t cap xs) := by
  rcases h with ⟨rfl, rfl⟩ | ⟨g, cap, rfl, h1, h2, _⟩
  · exact ⟨_, _, rfl, .inl rfl⟩
  · exact ⟨_, _, rfl, .inr ⟨g, rfl, h1, h2⟩⟩

theorem RdB.of_buf' {w : World} {h cap n : Nat} {l : List Int} (b : Buf w h 5 cap (l.map (Value.int .u8))) (hn : l.length = n) : RdB w (.slice (some ⟨h, 0, none⟩) n cap) l := by
  subst hn
  exact RdB.of_buf b
theorem RdB.nil (w : World) : RdB w (.slice none 0 0) [] := ⟨_, _, rfl, .inl rfl⟩
theorem RdB.of_row {w : World} {h n : Nat} {l : List Int} (r : Row w h 5 (l.map (Value.int .u8))) (hn : l.length = n) : RdB w (.slice (some ⟨h, 0, none⟩) n n) l := by
  have := RdB.of_buf' (n := n) r.buf hn
  simpa [hn] using this
theorem pad_nil : pad [] = List.replicate 256 0 := by simp only [pad, List.nil_append, List.length_nil, Nat.sub_zero]

set_option maxHeartbeats 1000000 in
theorem first16 (w : World) : Calls Tryd.prog 4 #[] w fun e w' => e = .returned (.bool true) ∧ Below w.heap.size w w' := by
  go_enter Tryd.func4, Tryd.ntmps4
  go_wp2_with fail
  refine (bnew_any w (fun x => w.heap.size ≤ x) (fun _ h => h)).mono ?_
  rintro e w1 ⟨rfl, hb, hbel⟩
  have HBO := Lib.hid hb
  have HB1 := Lib.hid hbel
  clear hb hbel
  go_wp2_with fail
  refine (bget_none (c := (2, 0)) HBO.out (by unfold In64; omega) (by unfold In64; omega) rfl).mono ?_
  rintro e w2 ⟨⟨h, cap, rfl, _, hbuf⟩, hb2⟩
  have HBUF := Lib.hid hbuf
  have HB2 := Lib.hid (HB1.out.trans (hb2.mono HB1.out.size))
  clear hbuf hb2
  go_wp2_with fail
  refine (full_any (RdB.nil w2) (by simp)).mono ?_
  rintro e w3 ⟨⟨h3, rfl, _, hr3⟩, hb3⟩
  have HR3 := Lib.hid hr3
  have HB3 := Lib.hid (HB2.out.trans (hb3.mono HB2.out.size))
  have HBUF3 := Lib.hid (HBUF.out.below hb3)
  clear hr3 hb3
  go_wp2_with fail
  refine (samebytes_any (l := List.replicate 256 0) (m := pad []) (RdB.of_buf' HBUF3.out (by rw [List.length_replicate])) (RdB.of_row HR3.out (pad_len (by simp))) (by rw [List.length_replicate]; omega)).mono ?_
  rintro e w4 ⟨rfl, hb4⟩
  rw [pad_nil, decide_eq_true (rfl : List.replicate 256 (0 : Int) = List.replicate 256 0)]
  have HB4 := Lib.hid (HB3.out.trans (hb4.mono HB3.out.size))
  clear hb4
  go_wp2
  go_ret
  exact ⟨rfl, HB4.out⟩
end Go.Proofs.YtnkcbogikaebfaaDoor
end
