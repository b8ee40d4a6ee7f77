/- The walks of package open: Open, Get, Move, Close over a file table that is a function of its numbers. -/
import Derived.Test.YthominkfjfnkbaaDoorErrs
import Derived.Test.YthominkfjfnkbaaDoorMap
import Derived.StillTailTactics
import Derived.Deep.DeepMust
import Derived.Outline
import Derived.Deep.QuietTactic
import Derived.BigQuiet
namespace Go.Proofs.YthominkfjfnkbaaDoor
open Go Go.RowKit
set_option maxRecDepth 100000

/-- A handle: node, place. -/
def encH (h : Int × Int) : Value := .agg #[.int .i64 h.1, .int .i64 h.2]

abbrev FMap (w : World) (r : Nat) (g : Int → Option (Int × Int)) (n : Nat) : Prop := MapAt Tryd.prog 3 (Value.int .i64) encH w r g n

/-- The block b holds a file table: its map's block m (none: not made), what it has, how many. -/
def FilesAt (w : World) (b : Nat) (m : Option Nat) (g : Int → Option (Int × Int)) (n : Nat) : Prop :=
  w.cell? ⟨b, 0, none⟩ = some (.map m) ∧ w.frozen? ⟨b, 0, none⟩ = false ∧ b < w.heap.size ∧
    match m with
    | none => n = 0 ∧ ∀ k, g k = none
    | some r => r ≠ b ∧ FMap w r g n

/-- The blocks of a table. -/
def Own (b : Nat) (m : Option Nat) : Nat → Prop := fun x => x = b ∨ m = some x

theorem FilesAt.touch {S : Nat → Prop} {w w' : World} {b : Nat} {m : Option Nat} {g : Int → Option (Int × Int)} {n : Nat} (h : FilesAt w b m g n) (ht : Touch S w w') (hn : ∀ x, Own b m x → ¬ S x) : FilesAt w' b m g n := by
  obtain ⟨h1, h2, h3, h4⟩ := h
  have hb := hn b (.inl rfl)
  refine ⟨(ht.cell (p := ⟨b, 0, none⟩) h3 hb).trans h1, (ht.frozen (p := ⟨b, 0, none⟩) h3 hb).trans h2, Nat.lt_of_lt_of_le h3 ht.size, ?_⟩
  cases m with
  | none => exact h4
  | some r => exact ⟨h4.1, h4.2.touch ht (hn r (.inr rfl))⟩
theorem FilesAt.below {w w' : World} {b : Nat} {m : Option Nat} {g : Int → Option (Int × Int)} {n : Nat} (h : FilesAt w b m g n) (hb : Below w.heap.size w w') : FilesAt w' b m g n :=
  h.touch (Touch.of_below hb NoB) (fun _ _ h => h)

theorem keyedInt : Maps.Keyed Tryd.prog 3 := Maps.int_keyed Tryd.underlying3
theorem int_inj : ∀ a b : Int, Value.int .i64 a = Value.int .i64 b → a = b := fun _ _ h => by cases h; rfl
theorem wf64 {a : Int} (h : -9223372036854775808 ≤ a ∧ a ≤ 9223372036854775807) : (Lit.int .i64 a).wf = true := by
  simp [Lit.wf, IntKind.min, IntKind.max, IntKind.signed, IntKind.bits]; omega
theorem keyInt {a : Int} (h : -9223372036854775808 ≤ a ∧ a ≤ 9223372036854775807) : keyOf Tryd.prog 3 (.int .i64 a) = some (.int .i64 a) := Maps.keyOf_int_mk Tryd.underlying3 (wf64 h)
theorem zeroH (w : World) : (zeroValue 33).run Tryd.prog w = .ok (.agg #[.int .i64 0, .int .i64 0]) w := by kernel_rfl

/-- Behind a write into the table's map. -/
theorem files_turned {w w' : World} {b r n n' : Nat} {g g' : Int → Option (Int × Int)} (h : FilesAt w b (some r) g n) (hm : FMap w' r g' n') (ht : w.mapTurned w' r) : FilesAt w' b (some r) g' n' ∧ Touch (fun x => x = r) w w' := by
  obtain ⟨h1, h2, h3, h4, _⟩ := h
  obtain ⟨c1, c2, c3⟩ := turned_cell ht
  exact ⟨⟨(c1 _ _ (Ne.symm h4)).trans h1, (c2 _ _ (Ne.symm h4)).trans h2, by omega, h4, hm⟩, Touch.of_turned ht⟩

attribute [local go_sem] giv

variable {E : Nat → Addr} {B : Nat}

/-- A look-up in the table's map, nil or not. -/
theorem files_look {w : World} {b : Nat} {m : Option Nat} {g : Int → Option (Int × Int)} {n : Nat} (h : FilesAt w b m g n) {k : Int} (hk : -9223372036854775808 ≤ k ∧ k ≤ 9223372036854775807) :
    (Instr.lookup 23 (.map m) (.int .i64 k) true).run Tryd.prog w = .ok (match g k with | some h => .tuple #[.agg #[.int .i64 h.1, .int .i64 h.2], .bool true] | none => .tuple #[.agg #[.int .i64 0, .int .i64 0], .bool false]) w := by
  obtain ⟨_, _, _, h4⟩ := h
  cases m with
  | none =>
    obtain ⟨_, hg⟩ := h4
    rw [hg k]
    exact Maps.look_nil true keyedInt Tryd.underlying23 (zeroH w) (keyInt hk)
  | some r =>
    obtain ⟨_, hm⟩ := h4
    cases hg : g k with
    | none => exact hm.look_none keyedInt Tryd.underlying23 int_inj (zeroH w) (keyInt hk) hg true
    | some h => exact hm.look_some keyedInt Tryd.underlying23 int_inj (keyInt hk) hg true

theorem files_len {w : World} {b : Nat} {m : Option Nat} {g : Int → Option (Int × Int)} {n : Nat} (h : FilesAt w b m g n) (ty : TypeId) :
    (Builtin.len_ #[23] ty #[.map m]).run Tryd.prog w = .ok (.int .i64 n) w := by
  obtain ⟨_, _, _, h4⟩ := h
  cases m with
  | none =>
    obtain ⟨rfl, _⟩ := h4
    exact Maps.len_nil Tryd.underlying23 ty
  | some r => exact h4.2.len Tryd.underlying23 ty

theorem get_some {w : World} {b : Nat} {m : Option Nat} {g : Int → Option (Int × Int)} {n : Nat} (h : FilesAt w b m g n) {k : Int} (hk : -9223372036854775808 ≤ k ∧ k ≤ 9223372036854775807) {nd ps : Int} (hg : g k = some (nd, ps)) :
    Calls Tryd.prog 21 #[.pointer (some ⟨b, 0, none⟩), .int .i64 k] w fun e w' => e = .returned (.tuple #[.agg #[.int .i64 nd, .int .i64 ps], .nilIface]) ∧ Below w.heap.size w w' := by
  have hc := h.1
  have hlt := h.2.2.1
  have HF := Lib.hid h
  have HG := Lib.hid hg
  clear h hg
  go_enter Tryd.func21, Tryd.ntmps21
  go_wp2_with (at_lookup; refine wpList_look rfl _ _ _ _ rfl (files_look (HF.out.below (bl_alloc (Below.refl _ _) _)) hk) ?_; rw [HG.out])
  refine bodyPost_ret (v := .tuple #[.agg #[.int .i64 nd, .int .i64 ps], .nilIface]) (by simp [results, Tryd.results21, go_sem]) rfl ⟨rfl, ?_⟩
  exact bl_alloc (bl_alloc (Below.refl _ _) _) _

theorem get_none {w : World} {b : Nat} {m : Option Nat} {g : Int → Option (Int × Int)} {n : Nat} (h : FilesAt w b m g n) {k : Int} (hk : -9223372036854775808 ≤ k ∧ k ≤ 9223372036854775807) (hg : g k = none) (hE : Env E B w) :
    Calls Tryd.prog 21 #[.pointer (some ⟨b, 0, none⟩), .int .i64 k] w fun e w' => e = .returned (.tuple #[.agg #[.int .i64 0, .int .i64 0], errV E 2]) ∧ Below w.heap.size w w' := by
  have hc := h.1
  have hlt := h.2.2.1
  have HF := Lib.hid h
  have HG := Lib.hid hg
  have he := hE.cell 2 (by decide)
  have hl2 : 2 < w.heap.size := Nat.lt_of_lt_of_le (hE.glt 2 (by decide)) hE.size
  clear h hg
  go_enter Tryd.func21, Tryd.ntmps21
  go_wp2_with (at_lookup; refine wpList_look rfl _ _ _ _ rfl (files_look (HF.out.below (bl_alloc (Below.refl _ _) _)) hk) ?_; rw [HG.out])
  go_region
  go_wp2
  refine bodyPost_ret (v := .tuple #[.agg #[.int .i64 0, .int .i64 0], errV E 2]) (by simp [results, Tryd.results21, go_sem]) rfl ⟨rfl, ?_⟩
  repeat (first | exact Below.refl _ _ | refine bl_alloc ?_ _ | refine Below.drew ?_)

/-- What an operation that writes leaves: the table, its blocks. -/
def FilesOut (b : Nat) (m : Option Nat) (g' : Int → Option (Int × Int)) (n' : Nat) (w w' : World) : Prop :=
  ∃ m', FilesAt w' b m' g' n' ∧ Touch (Own b m) w w' ∧ ∀ x, Own b m' x → Own b m x ∨ w.heap.size ≤ x

theorem move_bad {w : World} {b : Nat} {m : Option Nat} {g : Int → Option (Int × Int)} {n : Nat} (h : FilesAt w b m g n) {k p : Int} (hk : -9223372036854775808 ≤ k ∧ k ≤ 9223372036854775807) (hg : g k = none) (hE : Env E B w) :
    Calls Tryd.prog 19 #[.pointer (some ⟨b, 0, none⟩), .int .i64 k, .int .i64 p] w fun e w' => e = .returned (errV E 2) ∧ Below w.heap.size w w' := by
  go_enter Tryd.func19, Tryd.ntmps19
  go_wp2_with fail
  refine (get_none h hk hg hE).mono ?_
  rintro e w1 ⟨rfl, hb⟩
  go_wp2
  go_ret
  exact ⟨rfl, bl_alloc hb _⟩

theorem move_out {w : World} {b : Nat} {m : Option Nat} {g : Int → Option (Int × Int)} {n : Nat} (h : FilesAt w b m g n) {k p : Int} (hk : -9223372036854775808 ≤ k ∧ k ≤ 9223372036854775807) {nd ps : Int} (hg : g k = some (nd, ps)) (hE : Env E B w)
    (hp : p < 0 ∨ 1099511627776 < p) :
    Calls Tryd.prog 19 #[.pointer (some ⟨b, 0, none⟩), .int .i64 k, .int .i64 p] w fun e w' => e = .returned (errV E 1) ∧ Below w.heap.size w w' := by
  have he := hE.cell 1 (by decide)
  have hl2 : 1 < w.heap.size := Nat.lt_of_lt_of_le (hE.glt 1 (by decide)) hE.size
  by_cases h0 : p < 0
  all_goals
    go_enter Tryd.func19, Tryd.ntmps19
    go_wp2_with fail
    refine (get_some h hk hg).mono ?_
    rintro e w1 ⟨rfl, hb⟩
    obtain ⟨hc, hs⟩ := bcell hb
    have hl3 : 1 < w1.heap.size := by omega
    have hp' : 0 ≤ p → 1099511627776 < p := by omega
    go_wp2
    go_ret
    exact ⟨rfl, bl_alloc hb _⟩

set_option maxRecDepth 100000 in
theorem move_in {w : World} {b : Nat} {m : Option Nat} {g : Int → Option (Int × Int)} {n : Nat} (h : FilesAt w b m g n) {k p : Int} (hk : -9223372036854775808 ≤ k ∧ k ≤ 9223372036854775807) {nd ps : Int} (hg : g k = some (nd, ps))
    (hp : 0 ≤ p ∧ p ≤ 1099511627776) :
    Calls Tryd.prog 19 #[.pointer (some ⟨b, 0, none⟩), .int .i64 k, .int .i64 p] w fun e w' => e = .returned .nilIface ∧ FilesOut b m (upd g k (nd, p)) n w w' := by
  obtain ⟨r, rfl⟩ : ∃ r, m = some r := by
    cases m with
    | none => obtain ⟨_, _, _, _, h4⟩ := h; rw [h4 k] at hg; cases hg
    | some r => exact ⟨r, rfl⟩
  have hlt := h.2.2.1
  have hrlt : r < w.heap.size := h.2.2.2.2.lt
  have hrb : r ≠ b := h.2.2.2.1
  have hgs : (g k).isSome = true := by rw [hg]; rfl
  have HG := Lib.hid hgs
  have HF := Lib.hid h
  have hp0 : ¬ p < 0 := by omega
  have hp1 : ¬ 1099511627776 < p := by omega
  clear hgs
  go_enter Tryd.func19, Tryd.ntmps19
  go_wp2_with fail
  refine (get_some h hk hg).mono ?_
  rintro e w1 ⟨rfl, hb⟩
  have h1 := h.below hb
  have hc1 := h1.1
  have hlt1 := h1.2.2.1
  have hrlt1 := h1.2.2.2.2.lt
  have HF1 := Lib.hid h1
  clear h h1 hg
  go_wp2
  obtain ⟨w2, hw2⟩ : ∃ w2, w2 = w1.alloc (.cells #[.int .i64 nd, .int .i64 p] 33) := ⟨_, rfl⟩
  have hb2 : Below w1.heap.size w1 w2 := by rw [hw2]; exact bl_alloc (Below.refl _ _) _
  have k0 : w2.cell? ⟨w1.heap.size, 0, none⟩ = some (.int .i64 nd) := by rw [hw2]; simp
  have k1 : w2.cell? ⟨w1.heap.size, 1, none⟩ = some (.int .i64 p) := by rw [hw2]; simp
  have hl2 : w1.heap.size < w2.heap.size := by rw [hw2]; simp
  have h2 := HF1.out.below hb2
  rw [← hw2]
  clear hw2
  have S : ∀ w', Below w2.heap.size w2 w' → w'.cell? ⟨b, 0, none⟩ = some (.map (some r)) ∧ w'.cell? ⟨w1.heap.size, 0, none⟩ = some (.int .i64 nd) ∧ w'.cell? ⟨w1.heap.size, 1, none⟩ = some (.int .i64 p) := by
    intro w' hb
    obtain ⟨hc, _⟩ := bcell hb
    exact ⟨(h2.below hb).1, (hc _ _ hl2).trans k0, (hc _ _ hl2).trans k1⟩
  have H2 := Lib.hid h2
  clear k0 k1 h2
  apply wp_region_tail 6 _ (by kernel_rfl) (by kernel_rfl) (by kernel_rfl) (by decide) (fun w' => Below w2.heap.size w2 w') (fun w' w'' => Below w'.heap.size w' w'') (fun w' w'' h1 h2 => bl_trans h1 h2) (Below.refl _ _).drew
  simp only [List.take_succ_cons, List.take_zero, List.drop_succ_cons, List.drop_zero]
  repeat (first
    | (apply wpRel_skip (by rfl)
       simp only [Act.put, List.setIfInBounds_toArray, List.set_cons_zero, List.set_cons_succ])
    | (apply wpRel_fix (by rfl)
       · intro w' hC hf R hR
         go_simp
         exact hR _ (Below.refl _ _)
       simp only [Act.put, List.setIfInBounds_toArray, List.set_cons_zero, List.set_cons_succ]))
  refine wpRel_nil (fun w3 hC hf => ?_)
  have h3 := H2.out.below hC
  apply wpList_upd rfl _ _ _ _ rfl
  · exact h3.2.2.2.2.put keyedInt Tryd.underlying23 int_inj (keyInt hk) (nd, p)
  rintro w4 ⟨hm4, ht4⟩
  have ht : Touch (Own b (some r)) w w4 := by
    refine (((Touch.of_below hb _).then hb2).then hC).trans (Touch.of_turned ht4) ?_
    rintro x rfl _
    exact .inr rfl
  have hF4 : FilesAt w4 b (some r) (upd g k (nd, p)) n := by
    have t4 := Touch.of_turned ht4
    refine ⟨(t4.cell (p := ⟨b, 0, none⟩) h3.2.2.1 (Ne.symm hrb)).trans h3.1, (t4.frozen (p := ⟨b, 0, none⟩) h3.2.2.1 (Ne.symm hrb)).trans h3.2.1, Nat.lt_of_lt_of_le h3.2.2.1 t4.size, hrb, ?_⟩
    rw [HG.out, if_pos rfl] at hm4
    exact hm4
  have HT := Lib.hid ht
  have HF4 := Lib.hid hF4
  clear ht hF4 hm4 ht4
  go_wp2
  go_ret
  exact ⟨rfl, some r, HF4.out, HT.out, fun x hx => .inl hx⟩

theorem close_none {w : World} {b : Nat} {m : Option Nat} {g : Int → Option (Int × Int)} {n : Nat} (h : FilesAt w b m g n) {k : Int} (hk : -9223372036854775808 ≤ k ∧ k ≤ 9223372036854775807) (hg : g k = none) (hE : Env E B w) :
    Calls Tryd.prog 22 #[.pointer (some ⟨b, 0, none⟩), .int .i64 k] w fun e w' => e = .returned (.tuple #[.agg #[.int .i64 0, .int .i64 0], errV E 2]) ∧ Below w.heap.size w w' := by
  have hw0 : Below w.heap.size w (w.alloc (.cells #[.int .i64 0, .int .i64 0] 33)) := bl_alloc (Below.refl _ _) _
  go_enter Tryd.func22, Tryd.ntmps22
  go_wp2_with fail
  refine (get_none (h.below hw0) hk hg (hE.below hw0)).mono ?_
  rintro e w1 ⟨rfl, hb⟩
  obtain ⟨hc, hs⟩ := bcell hb
  have hf := bfroz hb
  have hs' : w.heap.size < w1.heap.size := by simp at hs; omega
  go_wp2
  refine bodyPost_ret (v := .tuple #[.agg #[.int .i64 0, .int .i64 0], errV E 2]) (by simp [results, Tryd.results22, go_sem, hc, hs']) rfl ⟨rfl, ?_⟩
  have hb1 : Below w.heap.size w w1 := hw0.trans (hb.mono (by simp))
  repeat (first | exact hb1 | exact Below.refl _ _ | refine Below.alloc ?_ (by simp <;> omega) _ | refine Below.setCell ?_ (by simp <;> omega) _ | refine Below.drew ?_)

theorem close_some {w : World} {b : Nat} {m : Option Nat} {g : Int → Option (Int × Int)} {n : Nat} (h : FilesAt w b m g n) {k : Int} (hk : -9223372036854775808 ≤ k ∧ k ≤ 9223372036854775807) {nd ps : Int} (hg : g k = some (nd, ps)) :
    Calls Tryd.prog 22 #[.pointer (some ⟨b, 0, none⟩), .int .i64 k] w fun e w' => e = .returned (.tuple #[.agg #[.int .i64 nd, .int .i64 ps], .nilIface]) ∧ FilesOut b m (del g k) (n - 1) w w' := by
  obtain ⟨r, rfl⟩ : ∃ r, m = some r := by
    cases m with
    | none => obtain ⟨_, _, _, _, h4⟩ := h; rw [h4 k] at hg; cases hg
    | some r => exact ⟨r, rfl⟩
  have hrb : r ≠ b := h.2.2.2.1
  have hgs : (g k).isSome = true := by rw [hg]; rfl
  have HG := Lib.hid hgs
  have hw0 : Below w.heap.size w (w.alloc (.cells #[.int .i64 0, .int .i64 0] 33)) := bl_alloc (Below.refl _ _) _
  clear hgs
  go_enter Tryd.func22, Tryd.ntmps22
  go_wp2_with fail
  refine (get_some (h.below hw0) hk hg).mono ?_
  rintro e w1 ⟨rfl, hb⟩
  obtain ⟨hc, hs⟩ := bcell hb
  have hf := bfroz hb
  have hs' : w.heap.size < w1.heap.size := by simp at hs; omega
  have hb1 : Below w.heap.size w w1 := hw0.trans (hb.mono (by simp))
  have hbw : b < w.heap.size := h.2.2.1
  have hbw1 : b < w1.heap.size := by omega
  have h1 := h.below hb1
  have hc0 := h.1
  have H1 := Lib.hid h1
  have hrlt := h.2.2.2.2.lt
  clear h h1 hg
  have nr0 : w.heap.size ≠ r := by omega
  have nr1 : w1.heap.size ≠ r := by omega
  go_wp2_with (at_delete
               apply wpList_drop rfl _ _ _ _ rfl
               · exact (H1.out.2.2.2.2.alloc _).drop keyedInt Tryd.underlying23 int_inj (keyInt hk) _
               rw [if_pos HG.out]
               rintro w2 ⟨hm2, ht2⟩
               obtain ⟨c1, c2, c3⟩ := turned_cell ht2
               have FT := Lib.hid (files_turned (H1.out.below (bl_alloc (Below.refl _ _) _)) hm2 ht2)
               clear hm2 ht2)
  refine bodyPost_ret (v := .tuple #[.agg #[.int .i64 nd, .int .i64 ps], .nilIface]) (by simp [results, Tryd.results22, go_sem, c1, nr0, hc, hs']) rfl ⟨rfl, some r, ?_, ?_, fun x hx => .inl hx⟩
  · refine FT.out.1.touch (S := fun x => x = w.heap.size) ?_ ?_
    · refine Touch.setCell ?_ ?_ _
      · refine Touch.setCell ?_ ?_ _
        · exact Touch.refl _ _
        · exact .inl rfl
      · exact .inl rfl
    · rintro x hx rfl
      rcases hx with hx | hx
      · omega
      · injection hx with hx
        omega
  · refine Touch.setCell (Touch.setCell ?_ (.inr (Nat.le_refl _)) _) (.inr (Nat.le_refl _)) _
    exact ((Touch.of_below hb1 _).alloc _).trans FT.out.2 (fun x hx _ => .inr (by rw [hx]))

set_option maxHeartbeats 400000 in
theorem open_ok {w : World} {b : Nat} {m : Option Nat} {g : Int → Option (Int × Int)} {n : Nat} (h : FilesAt w b m g n) (node : Int) {k : Nat} (hk : k < 16) (hbusy : ∀ j : Nat, j < k → g j ≠ none) (hg : g k = none) :
    Calls Tryd.prog 18 #[.pointer (some ⟨b, 0, none⟩), .int .i64 node] w fun e w' => e = .returned (.tuple #[.int .i64 k, .nilIface]) ∧ FilesOut b m (upd g k (node, 0)) (n + 1) w w' := by
  have H := Lib.hid h
  have HB := Lib.hid hbusy
  have HG := Lib.hid hg
  clear h hbusy hg
  go_enter Tryd.func18, Tryd.ntmps18
  go_wp2_with fail
  go_loopw [9] (fun v wr => ∃ j : Nat, j ≤ k ∧ v = .int .i64 j ∧ Below w.heap.size w wr) (fun v _ => 16 - (intOf v).toNat)
  case atStart => exact ⟨0, Nat.zero_le _, rfl, Below.refl _ _⟩
  case round =>
    obtain ⟨j, hj, rfl, hb⟩ := hrel
    have hr := H.out.below hb
    have hc := hr.1
    have hfz := hr.2.1
    have hlt := hr.2.2.1
    have HR := Lib.hid hr
    clear hr
    have hj16 : j < 16 := by omega
    by_cases hjk : j < k
    · obtain ⟨nd, ps, hgj⟩ : ∃ nd ps, g j = some (nd, ps) := by
        cases hg : g j with
        | none => exact absurd hg (HB.out j hjk)
        | some v => exact ⟨v.1, v.2, rfl⟩
      have HGJ := Lib.hid hgj
      clear hgj
      go_wp2_with (at_lookup; refine wpList_look rfl _ _ _ _ rfl (files_look HR.out (by omega)) ?_; rw [HGJ.out])
      go_roundw
      case rel => exact ⟨j + 1, by omega, by go_num, bl_alloc hb _⟩
      case measure => simp [intOf]; omega
    · obtain rfl : j = k := by omega
      clear hjk hj hj16
      have hmm := @run_makeMap Tryd.prog
      by_cases hn0 : n = 0
      · subst hn0
        have hz : (((0 : Nat) : Int) == 0) = true := rfl
        have hgn : ∀ x, g x = none := by
          obtain ⟨_, _, _, h4⟩ := HR.out
          cases m with
          | none => exact h4.2
          | some r => exact h4.2.empty
        have HGN := Lib.hid hgn
        clear hgn
        go_wp2_with (first
          | (at_lookup; refine wpList_look rfl _ _ _ _ rfl (files_look HR.out (by omega)) ?_; rw [HG.out])
          | (at_len; refine wpList_mlen rfl _ _ rfl (files_len (HR.out.below (bl_alloc (Below.refl _ _) _)) _) ?_)
          | (at_mapUpdate
             apply wpList_upd rfl _ _ _ _ rfl
             · exact (mapAt_new' Tryd.prog 3 (Value.int .i64) encH _ (by simp)).put keyedInt Tryd.underlying23 int_inj (keyInt (by omega)) (node, 0)
             rintro w2 ⟨hm2, ht2⟩
             have FM := Lib.hid hm2
             have FT := Lib.hid ht2
             clear hm2 ht2))
        go_ret2
        refine ⟨rfl, some (wr.heap.size + 1), ?_, ?_, ?_⟩
        · obtain ⟨c1, c2, c3⟩ := turned_cell FT.out
          have hg' : upd g (j : Int) (node, 0) = upd (fun _ => none) (j : Int) (node, 0) := by
            funext x
            simp only [upd, HGN.out x]
          refine ⟨?_, ?_, ?_, by omega, ?_⟩
          · rw [c1 _ _ (by omega)]
            go_simp
          · rw [c2 _ _ (by omega)]
            go_simp
          · rw [c3]
            simp
            omega
          · rw [hg']
            simpa using FM.out
        · refine Touch.trans (S := Own b m) ?_ (Touch.of_turned FT.out) ?_
          · refine Touch.alloc (Touch.alloc (Touch.setCell (Touch.of_below hb _) (.inl (.inl rfl)) _) _) _
          · rintro x rfl hx
            have := hb.size
            omega
        · rintro x (rfl | hx)
          · exact .inl (.inl rfl)
          · injection hx with hx
            have := hb.size
            exact .inr (by omega)
      · have hz : ((n : Int) == 0) = false := by rw [beq_eq_false_iff_ne]; omega
        obtain ⟨r, rfl⟩ : ∃ r, m = some r := by
          cases m with
          | none => exact absurd HR.out.2.2.2.1 hn0
          | some r => exact ⟨r, rfl⟩
        go_wp2_with (first
          | (at_lookup; refine wpList_look rfl _ _ _ _ rfl (files_look HR.out (by omega)) ?_; rw [HG.out])
          | (at_len; refine wpList_mlen rfl _ _ rfl (files_len (HR.out.below (bl_alloc (Below.refl _ _) _)) _) ?_)
          | (at_mapUpdate
             apply wpList_upd rfl _ _ _ _ rfl
             · exact (HR.out.2.2.2.2.alloc _).put keyedInt Tryd.underlying23 int_inj (keyInt (by omega)) (node, 0)
             rintro w2 ⟨hm2, ht2⟩
             have FM := Lib.hid hm2
             have FT := Lib.hid ht2
             clear hm2 ht2))
        go_ret2
        have hm2 := FM.out
        rw [HG.out] at hm2
        obtain ⟨f1, f2⟩ := files_turned (HR.out.below (bl_alloc (Below.refl _ _) _)) hm2 FT.out
        refine ⟨rfl, some r, by simpa using f1, ?_, fun x hx => .inl hx⟩
        exact ((Touch.of_below hb _).alloc _).trans f2 (fun x hx _ => .inr (by rw [hx]))

theorem open_full {w : World} {b : Nat} {m : Option Nat} {g : Int → Option (Int × Int)} {n : Nat} (h : FilesAt w b m g n) (node : Int) (hbusy : ∀ j : Nat, j < 16 → g j ≠ none) (hE : Env E B w) :
    Calls Tryd.prog 18 #[.pointer (some ⟨b, 0, none⟩), .int .i64 node] w fun e w' => e = .returned (.tuple #[.int .i64 0, errV E 0]) ∧ Below w.heap.size w w' := by
  have H := Lib.hid h
  have HB := Lib.hid hbusy
  have HE := Lib.hid hE
  clear h hbusy hE
  go_enter Tryd.func18, Tryd.ntmps18
  go_wp2_with fail
  go_loopw [9] (fun v wr => ∃ j : Nat, j ≤ 16 ∧ v = .int .i64 j ∧ Below w.heap.size w wr) (fun v _ => 16 - (intOf v).toNat)
  case atStart => exact ⟨0, Nat.zero_le _, rfl, Below.refl _ _⟩
  case round =>
    obtain ⟨j, hj, rfl, hb⟩ := hrel
    have hr := H.out.below hb
    have hc := hr.1
    have hlt := hr.2.2.1
    have HR := Lib.hid hr
    clear hr
    by_cases hjk : j < 16
    · obtain ⟨nd, ps, hgj⟩ : ∃ nd ps, g j = some (nd, ps) := by
        cases hg : g j with
        | none => exact absurd hg (HB.out j hjk)
        | some v => exact ⟨v.1, v.2, rfl⟩
      have HGJ := Lib.hid hgj
      clear hgj
      go_wp2_with (at_lookup; refine wpList_look rfl _ _ _ _ rfl (files_look HR.out (by omega)) ?_; rw [HGJ.out])
      go_roundw
      case rel => exact ⟨j + 1, by omega, by go_num, bl_alloc hb _⟩
      case measure => simp [intOf]; omega
    · obtain rfl : j = 16 := by omega
      have he := (HE.out.below hb).cell 0 (by decide)
      go_wp2
      go_quiet (fail)
      go_wp2
      go_ret2
      exact ⟨rfl, hb.os, hb.tape, hb.output, hb.size, hb.block⟩
end Go.Proofs.YthominkfjfnkbaaDoor
