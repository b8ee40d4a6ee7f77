/- Helpers of the laws of chapter 16. -/
import Derived.Test.YtjmbilbkmcebeaaDoorBodyClone
import Derived.Test.YtjmbilbkmcebeaaDoorBytes
import Derived.Test.YtjmbilbkmcebeaaDoorNodeLaw
namespace Go.Proofs.YtjmbilbkmcebeaaDoor
open Go Go.RowKit
set_option maxRecDepth 100000
set_option linter.unusedSimpArgs false
attribute [local go_sem] giv
variable {E : Nat → Addr} {B : Nat}

theorem BodyAt.less {w : World} {M M' : Nat → Prop} {b m d : Nat} {g : Cl → Option (Option (List Int))} {gd : Cl → Option Int} {n k : Nat} (h : BodyAt w M b m d g gd n k) (hM : ∀ x, M' x → M x) (h1 : M' b) (h2 : M' m) (h3 : M' d) : BodyAt w M' b m d g gd n k := by
  refine { h with Mb := h1, Mm := h2, Md := h3, has := ?_ }
  obtain ⟨gv, e1, e2⟩ := h.has
  refine ⟨gv, e1, fun c => ?_⟩
  rcases e2 c with e | ⟨v, o, e3, e4, e5⟩
  · exact .inl e
  · refine .inr ⟨v, o, e3, e4, ?_⟩
    rcases e5 with e | ⟨h, l, e6, e7, e8, e9, e10⟩
    · exact .inl e
    · exact .inr ⟨h, l, e6, e7, e8, e9, fun hm => e10 (hM _ hm)⟩

theorem SlBuf.shape {w : World} {base : Nat} {t : TypeId} {v : Value} {xs : List Value} (h : SlBuf w base t v xs) :
    ∃ sp cap, v = .slice sp xs.length cap ∧ (xs = [] ∨ ∃ h, sp = some ⟨h, 0, none⟩ ∧ base ≤ h ∧ Buf w h t cap xs) := by
  rcases h with ⟨rfl, rfl⟩ | ⟨g, cap, rfl, h1, h2, _⟩
  · exact ⟨_, _, rfl, .inl rfl⟩
  · exact ⟨_, _, rfl, .inr ⟨g, rfl, h1, h2⟩⟩

theorem RdB.of_buf' {w : World} {h cap n : Nat} {l : List Int} (b : Buf w h 5 cap (l.map (Value.int .u8))) (hn : l.length = n) : RdB w (.slice (some ⟨h, 0, none⟩) n cap) l := by
  subst hn
  exact RdB.of_buf b
theorem RdB.nil (w : World) : RdB w (.slice none 0 0) [] := ⟨_, _, rfl, .inl rfl⟩
theorem RdB.of_row {w : World} {h n : Nat} {l : List Int} (r : Row w h 5 (l.map (Value.int .u8))) (hn : l.length = n) : RdB w (.slice (some ⟨h, 0, none⟩) n n) l := by
  have := RdB.of_buf' (n := n) r.buf hn
  simpa [hn] using this
theorem pad_nil : pad [] = List.replicate 256 0 := by simp only [pad, List.nil_append, List.length_nil, Nat.sub_zero]

set_option maxHeartbeats 1000000 in
theorem first16 (w : World) : Calls Tryd.prog 14 #[] w fun e w' => e = .returned (.bool true) ∧ Below w.heap.size w w' := by
  go_enter Tryd.func14, Tryd.ntmps14
  go_wp2_with fail
  refine (bnew_any w (fun x => w.heap.size ≤ x) (fun _ h => h)).mono ?_
  rintro e w1 ⟨rfl, hb, hbel⟩
  have HBO := Lib.hid hb
  have HB1 := Lib.hid hbel
  clear hb hbel
  go_wp2_with fail
  refine (bget_none (c := (2, 0)) HBO.out (by unfold In64; omega) (by unfold In64; omega) rfl).mono ?_
  rintro e w2 ⟨⟨h, cap, rfl, _, hbuf⟩, hb2⟩
  have HBUF := Lib.hid hbuf
  have HB2 := Lib.hid (HB1.out.trans (hb2.mono HB1.out.size))
  clear hbuf hb2
  go_wp2_with fail
  refine (full_any (RdB.nil w2) (by simp)).mono ?_
  rintro e w3 ⟨⟨h3, rfl, _, hr3⟩, hb3⟩
  have HR3 := Lib.hid hr3
  have HB3 := Lib.hid (HB2.out.trans (hb3.mono HB2.out.size))
  have HBUF3 := Lib.hid (HBUF.out.below hb3)
  clear hr3 hb3
  go_wp2_with fail
  refine (samebytes_any (l := List.replicate 256 0) (m := pad []) (RdB.of_buf' HBUF3.out (by rw [List.length_replicate])) (RdB.of_row HR3.out (pad_len (by simp))) (by rw [List.length_replicate]; omega)).mono ?_
  rintro e w4 ⟨rfl, hb4⟩
  rw [pad_nil, decide_eq_true (rfl : List.replicate 256 (0 : Int) = List.replicate 256 0)]
  have HB4 := Lib.hid (HB3.out.trans (hb4.mono HB3.out.size))
  clear hb4
  go_wp2
  go_ret
  exact ⟨rfl, HB4.out⟩
end Go.Proofs.YtjmbilbkmcebeaaDoor
