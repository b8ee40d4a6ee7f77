/- Merged texts: Body. -/
import Derived.Test.YtjekpbkmhgfhoaaGreatDoorPBase13
import Derived.Test.YtjekpbkmhgfhoaaGreatDoorPBase08
import Derived.Test.YtjekpbkmhgfhoaaGreatDoorPBase03
import Derived.StillTailTactics
import Derived.Outline
import Derived.Deep.QuietTactic
import Derived.BigQuiet
import Derived.WalkSpells
section
/- The walks of package body over a body that is a function of its cells: New, Has, Get. -/
namespace Go.Proofs.YtjekpbkmhgfhoaaGreatDoor
open Go Go.RowKit
set_option maxRecDepth 100000
set_option linter.unusedSimpArgs false
attribute [local go_sem] giv
variable {E : Nat → Addr} {B : Nat}

/-- What a block's value holds: bytes, or nothing: it is lost. Its block is no one of M. -/
def Blk (w : World) (M : Nat → Prop) (v : Value) (o : Option (List Int)) : Prop :=
  (v = .slice none 0 0 ∧ o = none) ∨ ∃ h l, v = .slice (some ⟨h, 0, none⟩) 256 256 ∧ o = some l ∧ l.length = 256 ∧ Row w h 5 (l.map (Value.int .u8)) ∧ ¬ M h

theorem Blk.touch {w w' : World} {M S : Nat → Prop} {v : Value} {o : Option (List Int)} (h : Blk w M v o) (ht : Touch S w w') (hS : ∀ x, S x → M x) : Blk w' M v o := by
  rcases h with h | ⟨h, l, h1, h2, h3, h4, h5⟩
  · exact .inl h
  · exact .inr ⟨h, l, h1, h2, h3, h4.touch ht fun hs => h5 (hS _ hs), h5⟩
theorem Blk.more {w : World} {M M' : Nat → Prop} {v : Value} {o : Option (List Int)} (h : Blk w M v o) (hM : ∀ x, M' x → M x ∨ w.heap.size ≤ x) : Blk w M' v o := by
  rcases h with h | ⟨h, l, h1, h2, h3, h4, h5⟩
  · exact .inl h
  · exact .inr ⟨h, l, h1, h2, h3, h4, fun hm => by
      rcases hM _ hm with hm | hm
      · exact h5 hm
      · have := h4.lt; omega⟩

abbrev VMap (w : World) (r : Nat) (g : Cl → Option Value) (n : Nat) : Prop := MapAt Tryz.prog 77 encC id w r g n
abbrev DMap (w : World) (r : Nat) (g : Cl → Option Int) (n : Nat) : Prop := MapAt Tryz.prog 77 encC (Value.int .i64) w r g n

/-- Block b is a body: its blocks' map m (n entries), its dirty map d (k entries), what it has, what is dirty; no block of bytes is one of M; b, m, d are. -/
structure BodyAt (w : World) (M : Nat → Prop) (b m d : Nat) (g : Cl → Option (Option (List Int))) (gd : Cl → Option Int) (n k : Nat) : Prop where
  cm : w.cell? ⟨b, 0, none⟩ = some (.map (some m))
  cd : w.cell? ⟨b, 1, none⟩ = some (.map (some d))
  fm : w.frozen? ⟨b, 0, none⟩ = false
  fd : w.frozen? ⟨b, 1, none⟩ = false
  lt : b < w.heap.size
  mb : m ≠ b
  db : d ≠ b
  md : m ≠ d
  Mb : M b
  Mm : M m
  Md : M d
  dirty : DMap w d gd k
  has : ∃ gv, VMap w m gv n ∧ ∀ c, (gv c = none ∧ g c = none) ∨ ∃ v o, gv c = some v ∧ g c = some o ∧ Blk w M v o

section
variable {w w' : World} {M S : Nat → Prop} {b m d : Nat} {g : Cl → Option (Option (List Int))} {gd : Cl → Option Int} {n k : Nat}
theorem BodyAt.ltm (h : BodyAt w M b m d g gd n k) : m < w.heap.size := by obtain ⟨_, h, _⟩ := h.has; exact h.lt
theorem BodyAt.ltd (h : BodyAt w M b m d g gd n k) : d < w.heap.size := h.dirty.lt
/-- Where others of M are written it stays. -/
theorem BodyAt.touch (h : BodyAt w M b m d g gd n k) (ht : Touch S w w') (hS : ∀ x, S x → M x ∧ x ≠ b ∧ x ≠ m ∧ x ≠ d) : BodyAt w' M b m d g gd n k := by
  have nb : ¬ S b := fun hs => (hS _ hs).2.1 rfl
  have nm : ¬ S m := fun hs => (hS _ hs).2.2.1 rfl
  have nd : ¬ S d := fun hs => (hS _ hs).2.2.2 rfl
  refine { h with cm := (ht.cell (p := ⟨b, 0, none⟩) h.lt nb).trans h.cm, cd := (ht.cell (p := ⟨b, 1, none⟩) h.lt nb).trans h.cd, fm := (ht.frozen (p := ⟨b, 0, none⟩) h.lt nb).trans h.fm, fd := (ht.frozen (p := ⟨b, 1, none⟩) h.lt nb).trans h.fd, lt := Nat.lt_of_lt_of_le h.lt ht.size, dirty := h.dirty.touch ht nd, has := ?_ }
  obtain ⟨gv, h1, h2⟩ := h.has
  refine ⟨gv, h1.touch ht nm, fun c => ?_⟩
  rcases h2 c with h3 | ⟨v, o, h3, h4, h5⟩
  · exact .inl h3
  · exact .inr ⟨v, o, h3, h4, h5.touch ht fun x hx => (hS x hx).1⟩
theorem BodyAt.below (h : BodyAt w M b m d g gd n k) (hb : Below w.heap.size w w') : BodyAt w' M b m d g gd n k := h.touch (Touch.of_below hb NoB) (fun _ h => h.elim)
/-- New blocks may be counted among M. -/
theorem BodyAt.more {M' : Nat → Prop} (h : BodyAt w M b m d g gd n k) (hM : ∀ x, M' x → M x ∨ w.heap.size ≤ x) (h1 : ∀ x, M x → M' x) : BodyAt w M' b m d g gd n k := by
  refine { h with Mb := h1 _ h.Mb, Mm := h1 _ h.Mm, Md := h1 _ h.Md, has := ?_ }
  obtain ⟨gv, h1, h2⟩ := h.has
  refine ⟨gv, h1, fun c => ?_⟩
  rcases h2 c with h3 | ⟨v, o, h3, h4, h5⟩
  · exact .inl h3
  · exact .inr ⟨v, o, h3, h4, h5.more hM⟩

theorem zeroB (w : World) : (zeroValue 31).run Tryz.prog w = .ok (.slice none 0 0) w := by kernel_rfl
theorem vmap_look {gv : Cl → Option Value} (h : VMap w m gv n) {c : Cl} (h1 : In64 c.1) (h2 : In64 c.2) :
    (Instr.lookup 114 (.map (some m)) (.agg #[.int .i64 c.1, .int .i64 c.2]) true).run Tryz.prog w = .ok (.tuple #[(gv c).getD (.slice none 0 0), .bool (gv c).isSome]) w := by
  obtain ⟨l, hl⟩ := keyC h1 h2
  cases hg : gv c with
  | none => exact h.look_none kdCell Tryz.underlying114 encC_inj (zeroB w) hl hg true
  | some v => exact h.look_some kdCell Tryz.underlying114 encC_inj hl hg true
end

theorem bnew_any (w : World) (M : Nat → Prop) (hM : ∀ x, w.heap.size ≤ x → M x) : Calls Tryz.prog 23 #[] w fun e w' =>
    e = .returned (.pointer (some ⟨w.heap.size + 2, 0, none⟩)) ∧ BodyAt w' M (w.heap.size + 2) w.heap.size (w.heap.size + 1) (fun _ => none) (fun _ => none) 0 0 ∧ Below w.heap.size w w' := by
  have hmm := @run_makeMap Tryz.prog
  go_enter Tryz.func23, Tryz.ntmps23
  go_wp2
  go_ret
  refine ⟨rfl, ?_, by repeat (first | exact Below.refl _ _ | refine bl_alloc ?_ _)⟩
  have r := Row.new ((w.alloc (.map #[] 0)).alloc (.map #[] 0)) 117 [.map (some w.heap.size), .map (some (w.heap.size + 1))]
  rw [show ((w.alloc (.map #[] 0)).alloc (.map #[] 0)).heap.size = w.heap.size + 2 by simp] at r
  refine ⟨r.cell 0, r.cell 1, r.froz 0, r.froz 1, r.lt, by omega, by omega, by omega, hM _ (by omega), hM _ (by omega), hM _ (by omega), ?_, (fun _ => none), ?_, fun _ => .inl ⟨rfl, rfl⟩⟩
  · exact (mapAt_new' _ _ _ _ (w.alloc (.map #[] 0)) (by simp)).alloc _
  · exact ((mapAt_new' _ _ _ _ w rfl).alloc _).alloc _

theorem bhas_any {w : World} {M : Nat → Prop} {b m d : Nat} {g : Cl → Option (Option (List Int))} {gd : Cl → Option Int} {n k : Nat} (h : BodyAt w M b m d g gd n k) {c : Cl} (h1 : In64 c.1) (h2 : In64 c.2) :
    Calls Tryz.prog 113 #[.pointer (some ⟨b, 0, none⟩), .agg #[.int .i64 c.1, .int .i64 c.2]] w fun e w' => e = .returned (.bool (g c).isSome) ∧ Below w.heap.size w w' := by
  have hc := h.cm
  have hlt := h.lt
  have hx : ∃ v, ∀ w', Below w.heap.size w w' → (Instr.lookup 114 (.map (some m)) (.agg #[.int .i64 c.1, .int .i64 c.2]) true).run Tryz.prog w' = .ok (.tuple #[v, .bool (g c).isSome]) w' := by
    obtain ⟨gv, hv, hg⟩ := h.has
    refine ⟨(gv c).getD (.slice none 0 0), fun w' hb => ?_⟩
    have : (gv c).isSome = (g c).isSome := by
      rcases hg c with ⟨e1, e2⟩ | ⟨v, o, e1, e2, _⟩
      · rw [e1, e2]; rfl
      · rw [e1, e2]; rfl
    rw [← this]
    exact vmap_look (hv.below hb) h1 h2
  obtain ⟨v, hv⟩ := hx
  have hl : ∀ q, (Instr.lookup 114 (.map (some m)) (.agg #[.int .i64 c.1, .int .i64 c.2]) true).run Tryz.prog ((w.alloc (.cells #[.int .i64 c.1, .int .i64 c.2] 77)).drewN q) = .ok (.tuple #[v, .bool (g c).isSome]) ((w.alloc (.cells #[.int .i64 c.1, .int .i64 c.2] 77)).drewN q) :=
    fun q => hv _ ((bl_alloc (Below.refl _ _) _).trans ⟨rfl, rfl, rfl, Nat.le_refl _, fun _ _ => rfl⟩)
  clear h hv
  go_enter Tryz.func113, Tryz.ntmps113
  go_wp2_with fail
  go_quiet (fail)
  go_wp2
  go_ret
  exact ⟨rfl, (bl_alloc (Below.refl _ _) _).trans ⟨rfl, rfl, rfl, Nat.le_refl _, fun _ _ => rfl⟩⟩

/-- slices.Clone of a block. -/
theorem clone_bytes {w : World} {h : Nat} {l : List Int} (hr : Row w h 5 (l.map (Value.int .u8))) (hl : l.length = 256) :
    Calls Tryz.prog 59 #[.slice (some ⟨h, 0, none⟩) 256 256] w fun e w' => (∃ h' cap, e = .returned (.slice (some ⟨h', 0, none⟩) 256 cap) ∧ w.heap.size ≤ h' ∧ Buf w' h' 5 cap (l.map (Value.int .u8))) ∧ Below w.heap.size w w' := by
  obtain ⟨i0, hi, hz0, hz1, hz2⟩ := info_parts u8_info
  have HR := Lib.hid hr
  have HL := Lib.hid hl
  have hq := fun w => Go.Lib.run_eql_slice_nil (P := Tryz.prog) w 31 5 (some ⟨h, 0, none⟩) 256 256 0 0 Tryz.underlying31
  have HOWN : Hid ((w.alloc (.cells #[] 5)).ownsRow w.heap.size 5 1 (.slice (some ⟨w.heap.size, 0, none⟩) 0 0) 0 []) :=
    Lib.hid ⟨rfl, .inr ⟨_, 0, #[], rfl, Nat.le_refl _, (MapKept.heap_alloc w _).1, Nat.le_refl _, Nat.zero_le _, rfl, rfl⟩⟩
  have HC1 : Hid (∀ j u, (l.map (Value.int .u8))[j]? = some u → (w.alloc (.cells #[] 5)).cell? ((⟨h, 0, none⟩ : Addr).add j) = some u) := Lib.hid fun j u hj => by
    rw [show (⟨h, 0, none⟩ : Addr).add j = ⟨h, 0 + j, none⟩ by unfold Addr.add; split <;> simp_all, Nat.zero_add]
    exact ((HR.out.alloc _).cell j).trans hj
  have HC2 : Hid (∀ u ∈ l.map (Value.int .u8), u.oneCell' = true) := Lib.hid fun u hu => by
    obtain ⟨x, _, rfl⟩ := List.mem_map.1 hu
    rfl
  clear hr hl
  go_enter Tryz.func59, Tryz.ntmps59
  go_wp2_with (at_builtin; refine wpList_append_own (w := w.alloc (.cells #[] 5)) (hgd := rfl) _ _ 31 (ho := rfl) (base := w.heap.size) (e := 5) (i := i0) (z := .int .u8 0) (size := 1) (bytes := 1) (ht := Tryz.underlying31) (hi := hi) (hz := hz0) (hsize := hz1) (hby := hz2) (hzs := rfl) (hsz := by decide) (v := .slice (some ⟨w.heap.size, 0, none⟩) 0 0) (n := 0) (xs := []) (hs := rfl) (hown := HOWN.out) (ad := ⟨h, 0, none⟩) (m := 256) (c := 256) (news := l.map (Value.int .u8)) (hx := rfl) (hl := by simp [HL.out]) (hnews := HC1.out) (h1 := HC2.out) (h63 := by unfold maxLen; omega) (hbytes := by omega) (hbase := by simp) ?_; intro v' w1 hown' hgrow _; have HO := Lib.hid hown'; have HG := Lib.hid hgrow; clear hown' hgrow)
  go_ret
  have hb := ((bl_alloc (Below.refl w.heap.size w) (.cells #[] 5)).grown HG.out (by simp) (fun k hk => by cases hk; exact Nat.le_refl _))
  rcases SlBuf.of_owns HO.out with ⟨_, h2⟩ | ⟨g, cap, h1, h2, h3, _⟩
  · exact absurd (congrArg List.length h2) (by simp [HL.out])
  · refine ⟨⟨g, cap, ?_, h2, by simpa using h3⟩, hb⟩
    show Ending.returned v' = _
    rw [h1]
    simp [HL.out]

theorem drewN_below (w : World) (q : Nat) : Below w.heap.size w (w.drewN q) := ⟨rfl, rfl, rfl, Nat.le_refl _, fun _ _ => rfl⟩

/-- What Get looks up. -/
theorem BodyAt.look {w : World} {M : Nat → Prop} {b m d : Nat} {g : Cl → Option (Option (List Int))} {gd : Cl → Option Int} {n k : Nat} (h : BodyAt w M b m d g gd n k) {c : Cl} (h1 : In64 c.1) (h2 : In64 c.2) :
    ∃ v, (g c = none ∧ v = .slice none 0 0 ∨ ∃ o, g c = some o ∧ Blk w M v o) ∧ ∀ w', Below w.heap.size w w' → (Instr.lookup 114 (.map (some m)) (.agg #[.int .i64 c.1, .int .i64 c.2]) true).run Tryz.prog w' = .ok (.tuple #[v, .bool (g c).isSome]) w' := by
  obtain ⟨gv, hv, hg⟩ := h.has
  refine ⟨(gv c).getD (.slice none 0 0), ?_, fun w' hb => ?_⟩
  · rcases hg c with ⟨e1, e2⟩ | ⟨v, o, e1, e2, e3⟩
    · exact .inl ⟨e2, by rw [e1]; rfl⟩
    · exact .inr ⟨o, e2, by rw [e1]; exact e3⟩
  · have : (gv c).isSome = (g c).isSome := by
      rcases hg c with ⟨e1, e2⟩ | ⟨v, o, e1, e2, _⟩
      · rw [e1, e2]; rfl
      · rw [e1, e2]; rfl
    rw [← this]
    exact vmap_look (hv.below hb) h1 h2

theorem bget_none {w : World} {M : Nat → Prop} {b m d : Nat} {g : Cl → Option (Option (List Int))} {gd : Cl → Option Int} {n k : Nat} (h : BodyAt w M b m d g gd n k) {c : Cl} (h1 : In64 c.1) (h2 : In64 c.2) (hg : g c = none) :
    Calls Tryz.prog 29 #[.pointer (some ⟨b, 0, none⟩), .agg #[.int .i64 c.1, .int .i64 c.2]] w fun e w' =>
      (∃ h' cap, e = .returned (.tuple #[.slice (some ⟨h', 0, none⟩) 256 cap, .nilIface]) ∧ w.heap.size ≤ h' ∧ Buf w' h' 5 cap ((List.replicate 256 (0 : Int)).map (Value.int .u8))) ∧ Below w.heap.size w w' := by
  have hc := h.cm
  have hlt := h.lt
  obtain ⟨v, hv, hl0⟩ := h.look h1 h2
  rw [hg] at hv hl0
  obtain rfl : v = .slice none 0 0 := by
    rcases hv with ⟨_, h⟩ | ⟨o, h, _⟩
    · exact h
    · cases h
  have hl : ∀ q, (Instr.lookup 114 (.map (some m)) (.agg #[.int .i64 c.1, .int .i64 c.2]) true).run Tryz.prog ((w.alloc (.cells #[.int .i64 c.1, .int .i64 c.2] 77)).drewN q) = .ok (.tuple #[.slice none 0 0, .bool false]) ((w.alloc (.cells #[.int .i64 c.1, .int .i64 c.2] 77)).drewN q) :=
    fun q => hl0 _ ((bl_alloc (Below.refl _ _) _).trans (drewN_below _ q |>.mono (by simp)))
  clear h hv hl0 hg
  go_enter Tryz.func29, Tryz.ntmps29
  go_wp2_with fail
  go_quiet (fail)
  go_wp2_with (at_make; refine wpList_mk _ rfl _ _ _ rfl 5 (.int .u8 0) 1 Tryz.underlying31 u8_info rfl 256 rfl rfl (by omega) (by unfold maxLen; omega) ?_; intro w2 hr hb2; have HR := Lib.hid hr; have HB := Lib.hid hb2; clear hr hb2)
  go_ret2
  refine ⟨⟨_, _, rfl, ?_, ?_⟩, ?_⟩
  · simp [World.drewN]
  · have := HR.out.buf
    simpa using this
  · exact ((bl_alloc (Below.refl _ _) _).trans (drewN_below _ _ |>.mono (by simp))).trans (HB.out.mono (by simp [World.drewN]))
end Go.Proofs.YtjekpbkmhgfhoaaGreatDoor
end
