/- The walks of package node's table: Len, Get, Put, New, over a table that is a function of its numbers. -/
import Derived.Test.YtjmbilbkmcebeaaDoorNode
import Derived.Test.YtjmbilbkmcebeaaDoorShape
namespace Go.Proofs.YtjmbilbkmcebeaaDoor
open Go Go.RowKit
set_option maxRecDepth 100000
set_option linter.unusedSimpArgs false
attribute [local go_sem] giv
variable {E : Nat → Addr} {B : Nat}

theorem kdInt : Maps.Keyed Tryd.prog 3 := Maps.int_keyed Tryd.underlying3
theorem inj64 : ∀ a b : Int, Value.int .i64 a = Value.int .i64 b → a = b := fun _ _ h => by cases h; rfl
theorem fit64 {a : Int} (h : -9223372036854775808 ≤ a ∧ a ≤ 9223372036854775807) : (Lit.int .i64 a).wf = true := by
  simp [Lit.wf, IntKind.min, IntKind.max, IntKind.signed, IntKind.bits]; omega
theorem keyI {a : Int} (h : -9223372036854775808 ≤ a ∧ a ≤ 9223372036854775807) : keyOf Tryd.prog 3 (.int .i64 a) = some (.int .i64 a) := Maps.keyOf_int_mk Tryd.underlying3 (fit64 h)

/-- The nothing of nodes. -/
def noNd : Nd := ⟨0, 0, 0, 0, noText, 0⟩
theorem zeroN (w : World) : (zeroValue 82).run Tryd.prog w = .ok (encN noNd) w := by kernel_rfl

abbrev NMap (w : World) (r : Nat) (g : Int → Option Nd) (n : Nat) : Prop := MapAt Tryd.prog 3 (Value.int .i64) encN w r g n

/-- The block b holds a node table: its map's block m (none: not made), what it has, how many, the last number. -/
structure NodesAt (w : World) (b : Nat) (m : Option Nat) (g : Int → Option Nd) (n : Nat) (last : Int) : Prop where
  map : w.cell? ⟨b, 0, none⟩ = some (.map m)
  last : w.cell? ⟨b, 1, none⟩ = some (.int .i64 last)
  fmap : w.frozen? ⟨b, 0, none⟩ = false
  flast : w.frozen? ⟨b, 1, none⟩ = false
  lt : b < w.heap.size
  made : match m with
    | none => n = 0 ∧ ∀ k, g k = none
    | some r => r ≠ b ∧ NMap w r g n

/-- The blocks of a table. -/
def OwnN (b : Nat) (m : Option Nat) : Nat → Prop := fun x => x = b ∨ m = some x

section
variable {w w' : World} {b : Nat} {m : Option Nat} {g : Int → Option Nd} {n : Nat} {last : Int}
theorem NodesAt.touch {S : Nat → Prop} (h : NodesAt w b m g n last) (ht : Touch S w w') (hn : ∀ x, OwnN b m x → ¬ S x) : NodesAt w' b m g n last := by
  obtain ⟨h1, h2, h3, h4, h5, h6⟩ := h
  have hb := hn b (.inl rfl)
  refine ⟨(ht.cell (p := ⟨b, 0, none⟩) h5 hb).trans h1, (ht.cell (p := ⟨b, 1, none⟩) h5 hb).trans h2, (ht.frozen (p := ⟨b, 0, none⟩) h5 hb).trans h3, (ht.frozen (p := ⟨b, 1, none⟩) h5 hb).trans h4, Nat.lt_of_lt_of_le h5 ht.size, ?_⟩
  cases m with
  | none => exact h6
  | some r => exact ⟨h6.1, h6.2.touch ht (hn r (.inr rfl))⟩
theorem NodesAt.below (h : NodesAt w b m g n last) (hb : Below w.heap.size w w') : NodesAt w' b m g n last := h.touch (Touch.of_below hb NoB) (fun _ _ h => h)
theorem NodesAt.own_lt (h : NodesAt w b m g n last) : ∀ x, OwnN b m x → x < w.heap.size := by
  rintro x (rfl | hx)
  · exact h.lt
  · subst hx; exact h.made.2.lt
/-- Behind a write into the table's map. -/
theorem NodesAt.turned {r n' : Nat} {g' : Int → Option Nd} (h : NodesAt w b (some r) g n last) (hm : NMap w' r g' n') (ht : w.mapTurned w' r) : NodesAt w' b (some r) g' n' last := by
  obtain ⟨h1, h2, h3, h4, h5, h6, _⟩ := h
  obtain ⟨c1, c2, c3⟩ := turned_cell ht
  exact ⟨(c1 _ _ (Ne.symm h6)).trans h1, (c1 _ _ (Ne.symm h6)).trans h2, (c2 _ _ (Ne.symm h6)).trans h3, (c2 _ _ (Ne.symm h6)).trans h4, by omega, h6, hm⟩

theorem nodes_look (h : NodesAt w b m g n last) {k : Int} (hk : -9223372036854775808 ≤ k ∧ k ≤ 9223372036854775807) :
    (Instr.lookup 121 (.map m) (.int .i64 k) true).run Tryd.prog w = .ok (.tuple #[encN ((g k).getD noNd), .bool (g k).isSome]) w := by
  have h4 := h.made
  cases m with
  | none =>
    obtain ⟨_, hg⟩ := h4
    rw [hg k]
    exact Maps.look_nil true kdInt Tryd.underlying121 (zeroN w) (keyI hk)
  | some r =>
    obtain ⟨_, hm⟩ := h4
    cases hg : g k with
    | none => exact hm.look_none kdInt Tryd.underlying121 inj64 (zeroN w) (keyI hk) hg true
    | some h => exact hm.look_some kdInt Tryd.underlying121 inj64 (keyI hk) hg true

theorem nodes_len (h : NodesAt w b m g n last) (ty : TypeId) : (Builtin.len_ #[121] ty #[.map m]).run Tryd.prog w = .ok (.int .i64 n) w := by
  have h4 := h.made
  cases m with
  | none =>
    obtain ⟨rfl, _⟩ := h4
    exact Maps.len_nil Tryd.underlying121 ty
  | some r => exact h4.2.len Tryd.underlying121 ty
end

theorem nlen_any {w : World} {b : Nat} {m : Option Nat} {g : Int → Option Nd} {n : Nat} {last : Int} (h : NodesAt w b m g n last) :
    Calls Tryd.prog 71 #[.pointer (some ⟨b, 0, none⟩)] w fun e w' => e = .returned (.int .i64 n) ∧ w = w' := by
  have hc := h.map
  have hlt := h.lt
  have H := Lib.hid h
  clear h
  go_enter Tryd.func71, Tryd.ntmps71
  go_wp2_with (at_len; refine wpList_mlen rfl _ _ rfl (nodes_len H.out _) ?_)
  go_ret
  exact ⟨rfl, rfl⟩

theorem nget_any {w : World} {b : Nat} {m : Option Nat} {g : Int → Option Nd} {n : Nat} {last : Int} (h : NodesAt w b m g n last) {k : Int} (hk : -9223372036854775808 ≤ k ∧ k ≤ 9223372036854775807) :
    Calls Tryd.prog 40 #[.pointer (some ⟨b, 0, none⟩), .int .i64 k] w fun e w' => e = .returned (.tuple #[encN ((g k).getD noNd), .bool (g k).isSome]) ∧ Below w.heap.size w w' := by
  have hc := h.map
  have hlt := h.lt
  have H := Lib.hid h
  clear h
  go_enter Tryd.func40, Tryd.ntmps40
  generalize hx : (g k).getD noNd = x at *
  obtain ⟨i, kd, l, s, t, p⟩ := x
  go_wp2_with (at_lookup; refine wpList_look rfl _ _ _ _ rfl (nodes_look (H.out.below (bl_alloc (Below.refl _ _) _)) hk) ?_; rw [hx]; unfold encN)
  refine bodyPost_ret (v := .tuple #[encN ⟨i, kd, l, s, t, p⟩, .bool (g k).isSome]) (by simp [results, Tryd.results40, go_sem, encN]) rfl ⟨rfl, ?_⟩
  exact bl_alloc (bl_alloc (Below.refl _ _) _) _

/-- A length at a guarded operation. -/
theorem wpList_glen {P : Program} {w : World} {ops : Array Oper} {rest : List Oper} {o : Oper} {a : Act} {Q : Exit → Act → World → Prop} (hg : Region.wanted o (yielded ops a.tmps) = true) (m : Operand) (t : TypeId) (hop : o.op = Op.call { callee := Callee.builtin Builtin.len, args := #[m], argTypes := #[t] }) {v : Value}
    (hrun : (Builtin.len_ #[t] o.type #[a.eval m]).run P w = .ok v w) (hK : wpList P ops Q rest (a.put o.dst v) w) : wpList P ops Q (o :: rest) a w := by
  refine wpList_step fun K' hK' => ?_
  rw [if_pos hg]
  unfold Oper.wp
  simp [execOp, hop, resolve, invoke, builtin, hrun, Result.andThen]
  exact hK' _ _ hK

theorem vRes_is {n : Nd} (h : validB n = true) : vRes E n = .nilIface := by unfold vRes; rw [h]; rfl
theorem vRes_no {n : Nd} (h : validB n = false) : vRes E n = errV E 4 := by unfold vRes; rw [h]; rfl

theorem NodesAt.setLast {w : World} {b : Nat} {m : Option Nat} {g : Int → Option Nd} {n : Nat} {last : Int} (h : NodesAt w b m g n last) (v : Int) : NodesAt (w.setCell ⟨b, 1, none⟩ (.int .i64 v)) b m g n v := by
  obtain ⟨h1, h2, h3, h4, h5, h6⟩ := h
  refine ⟨by go_simp, by go_simp, by go_simp, by go_simp, by simpa using h5, ?_⟩
  cases m with
  | none => exact h6
  | some r => exact ⟨h6.1, h6.2.setCell h6.1 _⟩

/-- What an operation that writes leaves: the table, its blocks. -/
def NodesOut (b : Nat) (m : Option Nat) (g' : Int → Option Nd) (n' : Nat) (last' : Int) (w w' : World) : Prop :=
  ∃ m', NodesAt w' b m' g' n' last' ∧ Touch (OwnN b m) w w' ∧ ∀ x, OwnN b m' x → OwnN b m x ∨ w.heap.size ≤ x

theorem nput_bad {w : World} {b : Nat} (x : Nd) (hx : validB x = false) (hE : Env E B w) :
    Calls Tryd.prog 63 #[.pointer (some ⟨b, 0, none⟩), encN x] w fun e w' => e = .returned (errV E 4) ∧ Below w.heap.size w w' := by
  obtain ⟨i, k, l, s, t, p⟩ := x
  have hE1 := hE.alloc (.cells #[.int .i64 i, .int .i64 k, .int .i64 l, .int .i64 s, .string t, .int .i64 p] 82)
  have HE1 := Lib.hid hE1
  clear hE hE1
  unfold encN
  go_enter Tryd.func63, Tryd.ntmps63
  go_wp2_with fail
  refine (valid_any ⟨i, k, l, s, t, p⟩ _ HE1.out).mono ?_
  rintro e w1 ⟨rfl, hb⟩
  rw [vRes_no hx]
  go_wp2
  go_ret
  exact ⟨rfl, (bl_alloc (Below.refl _ _) _).trans (hb.mono (by simp))⟩

set_option maxHeartbeats 1000000 in
theorem nput_ok {w : World} {b : Nat} {m : Option Nat} {g : Int → Option Nd} {n : Nat} {last : Int} (h : NodesAt w b m g n last) (x : Nd) (hx : validB x = true) (hn : (g x.id).isSome = false → n < 512) (hE : Env E B w)  :
    Calls Tryd.prog 63 #[.pointer (some ⟨b, 0, none⟩), encN x] w fun e w' => e = .returned .nilIface ∧
      NodesOut b m (upd g x.id x) (if (g x.id).isSome then n else n + 1) (max last x.id) w w' := by
  have hid : 1 ≤ x.id ∧ x.id ≤ 16777215 := by
    simp only [validB, Bool.and_eq_true, idB, decide_eq_true_eq] at hx
    exact hx.1
  obtain ⟨i, k, l, s, t, p⟩ := x
  simp only at hn hid ⊢
  have hb0 : Below w.heap.size w (w.alloc (.cells #[.int .i64 i, .int .i64 k, .int .i64 l, .int .i64 s, .string t, .int .i64 p] 82)) := bl_alloc (Below.refl _ _) _
  have HE1 := Lib.hid (hE.alloc (.cells #[.int .i64 i, .int .i64 k, .int .i64 l, .int .i64 s, .string t, .int .i64 p] 82))
  have H := Lib.hid h
  have HN := Lib.hid hn
  have HX := Lib.hid hx
  have HI := Lib.hid hid
  have HB0 := Lib.hid hb0
  clear hE hb0 h hn hx hid
  unfold encN
  generalize hnn : (if (g i).isSome = true then n else n + 1) = n'
  generalize hmx : max last i = mx
  have HNN := Lib.hid hnn
  have HMX := Lib.hid hmx
  clear hnn hmx
  cases his : (g i).isSome
  all_goals
    go_enter Tryd.func63, Tryd.ntmps63
    go_wp2_with fail
    refine (valid_any ⟨i, k, l, s, t, p⟩ _ HE1.out).mono ?_
    rintro e w1 ⟨rfl, hb⟩
    rw [vRes_is HX.out]
    go_wp2_with fail
  all_goals
    have h1 := H.out.below (HB0.out.trans (hb.mono (by simp)))
    have HB1 := Lib.hid (HB0.out.trans (hb.mono (by simp)))
    have lx : w.heap.size < w1.heap.size := by have := hb.size; simp at this; omega
    have nbx : b ≠ w.heap.size := by have := H.out.lt; omega
    have cx : ∀ j, w1.cell? ⟨w.heap.size, j, none⟩ = (#[.int .i64 i, .int .i64 k, .int .i64 l, .int .i64 s, .string t, .int .i64 p] : Array Value)[j]? := by
      intro j
      rw [hb.cell (p := ⟨w.heap.size, j, none⟩) (by simp)]
      simp
    have H1 := Lib.hid h1
    have hown : ∀ x, OwnN b m x → x < w.heap.size := H.out.own_lt
    have HO := Lib.hid hown
    clear hb HE1 HB0 hown
    generalize hbx : w.heap.size = bx at *
    have HBX := Lib.hid hbx
    clear hbx
    have HL : ∀ w', Shp w1.heap.size w1 w' → (Instr.lookup 121 (.map m) (.int .i64 i) true).run Tryd.prog w' = .ok (.tuple #[encN ((g i).getD noNd), .bool (g i).isSome]) w' :=
      fun w' hs => nodes_look (H1.out.below hs.bel) (by have := HI.out; omega)
    generalize hq : (g i).getD noNd = q at HL
    obtain ⟨q1, q2, q3, q4, q5, q6⟩ := q
    rw [his] at HL
    unfold encN at HL
    dsimp only at HL
    have c0 := cx 0
    clear hq
    have S : ∀ w', Shp w1.heap.size w1 w' → w'.cell? ⟨b, 0, none⟩ = some (.map m) ∧ w'.cell? ⟨bx, 0, none⟩ = some (.int .i64 i) := by
      intro w' hs
      exact ⟨(H1.out.below hs.bel).map, (hs.bel.cell (p := ⟨bx, 0, none⟩) lx).trans (by simpa using cx 0)⟩
    clear c0 h1
    have CX := Lib.hid cx
    clear cx
    apply wp_region_rel _ (by kernel_rfl) (by kernel_rfl) (fun w' => Shp w1.heap.size w1 w') (fun w' w'' => Shp w1.heap.size w' w'') (fun w' w'' h1 h2 => h1.trans h2) (Shp.refl _ _).drew
    repeat (first
      | (apply wpRel_fix (by rfl)
         · intro w' hC hf R hR
           go_simp
           exact hR _ (Shp.refl _ _)
         simp only [Act.put, List.setIfInBounds_toArray, List.set_cons_zero, List.set_cons_succ])
      | (apply wpRel_fix (by rfl)
         · intro w' hC hf R hR
           exact giv_look _ _ _ _ rfl (HL w' hC) (hR _ (Shp.refl _ _))
         simp only [Act.put, List.setIfInBounds_toArray, List.set_cons_zero, List.set_cons_succ]))
    apply wpRel_rel (PtBlk w1.heap.size 6) (by rfl) ptBlk_keep
    · intro w' hC hf R hR
      go_simp
      exact hR _ _ ⟨_, rfl, hC.bel.size, IsBlk.new' _ _ _ rfl⟩ (Shp.alloc (Shp.refl _ _) hC.bel.size _)
    intro v6
    simp only [Act.put, List.setIfInBounds_toArray, List.set_cons_zero, List.set_cons_succ]
    apply wpRel_fix (by rfl)
    · intro w' hC hf R hR
      obtain ⟨c, rfl, hc, hk⟩ := hf _ (List.mem_cons_self ..) (by kernel_rfl)
      obtain ⟨u0, e0⟩ := hk.cell (i := 0) (by omega)
      obtain ⟨u1, e1⟩ := hk.cell (i := 1) (by omega)
      obtain ⟨u2, e2⟩ := hk.cell (i := 2) (by omega)
      obtain ⟨u3, e3⟩ := hk.cell (i := 3) (by omega)
      obtain ⟨u4, e4⟩ := hk.cell (i := 4) (by omega)
      obtain ⟨u5, e5⟩ := hk.cell (i := 5) (by omega)
      have f0 := hk.froz 0
      have f1 := hk.froz 1
      have f2 := hk.froz 2
      have f3 := hk.froz 3
      have f4 := hk.froz 4
      have f5 := hk.froz 5
      go_simp
      refine hR _ ?_
      iterate 6 (refine Shp.setCell ?_ hc _)
      exact Shp.refl _ _
    simp only [Act.put, List.setIfInBounds_toArray, List.set_cons_zero, List.set_cons_succ]
    apply wpRel_fix (by rfl)
    · intro w' hC hf R hR
      go_simp
      exact hR _ (Shp.refl _ _)
    simp only [Act.put, List.setIfInBounds_toArray, List.set_cons_zero, List.set_cons_succ]
    refine wpRel_nil (fun w2 hC hf => ?_)
  all_goals
    have H2 := Lib.hid (H1.out.below hC.bel)
    have hc2 := H2.out.map
    have hlt2 := H2.out.lt
    have hf2 := H2.out.fmap
    have hmm := @run_makeMap Tryd.prog
    have CX2 : Hid (∀ j, w2.cell? ⟨bx, j, none⟩ = (#[.int .i64 i, .int .i64 k, .int .i64 l, .int .i64 s, .string t, .int .i64 p] : Array Value)[j]?) :=
      Lib.hid fun j => (hC.bel.cell (p := ⟨bx, j, none⟩) lx).trans (CX.out j)
    have lx2 : bx < w2.heap.size := Nat.lt_of_lt_of_le lx hC.bel.size
    have HT2 : Hid (Below w.heap.size w w2) := Lib.hid (HBX.out ▸ (HB1.out.trans (hC.bel.mono (Nat.le_of_lt lx))))
    clear HL S hf CX HB1 hC H1
  · by_cases hn0 : n = 0
    · subst hn0
      have hz : (((0 : Nat) : Int) == 0) = true := rfl
      have hgn : ∀ x, g x = none := by
        have h4 := H2.out.made
        cases m with
        | none => exact h4.2
        | some r => exact h4.2.empty
      have HGN := Lib.hid hgn
      clear hgn
      go_wp2_with (first
        | (at_len; refine wpList_glen (by rfl) _ _ rfl (nodes_len H2.out _) ?_))
      obtain ⟨w3, hw3⟩ : ∃ w3, w3 = (w2.setCell { block := b, off := 0 } (Value.map (some w2.heap.size))).alloc (Obj.map #[] 0) := ⟨_, rfl⟩
      obtain ⟨r3, hr3⟩ : ∃ r3, r3 = w2.heap.size := ⟨_, rfl⟩
      rw [← hw3, ← hr3]
      have lx3 : bx < w3.heap.size := by rw [hw3]; simp; omega
      have nr : r3 ≠ bx := by omega
      have A3 : Hid (∀ j, w3.cell? ⟨bx, j, none⟩ = (#[.int .i64 i, .int .i64 k, .int .i64 l, .int .i64 s, .string t, .int .i64 p] : Array Value)[j]?) := Lib.hid fun j => by
        rw [hw3, World.cell?_alloc_lt _ _ _ (by show bx < _; simp; omega), World.cell?_of_block (w := w2) (Below.heap_setCell _ _ _ _ (Ne.symm nbx))]
        exact CX2.out j
      have H3 : Hid (NodesAt w3 b (some r3) g 0 last) := Lib.hid (by
        have hl2 := H2.out.last
        have hf2' := H2.out.flast
        refine ⟨?_, ?_, ?_, ?_, by rw [hw3]; simp; omega, by omega, ?_⟩
        · rw [hw3, hr3]; go_simp
        · rw [hw3]; go_simp
        · rw [hw3]; go_simp
        · rw [hw3]; go_simp
        · rw [hw3, funext HGN.out]
          exact mapAt_new' _ _ _ _ _ (by rw [hr3]; simp))
      have T3 : Hid (Touch (OwnN b m) w w3) := Lib.hid (by
        rw [hw3]
        exact Touch.alloc (Touch.setCell (Touch.of_below HT2.out _) (.inl (.inl rfl)) _) _)
      have O3 : Hid (∀ x, OwnN b (some r3) x → OwnN b m x ∨ w.heap.size ≤ x) := Lib.hid (by
        rintro x (rfl | hx)
        · exact .inl (.inl rfl)
        · injection hx with hx
          have := HT2.out.size
          exact .inr (by omega))
      clear hw3 hr3 H2 CX2 HT2 hc2 hf2 hlt2
      have CX3 : ∀ j, w3.cell? ⟨bx, j, none⟩ = (#[.int .i64 i, .int .i64 k, .int .i64 l, .int .i64 s, .string t, .int .i64 p] : Array Value)[j]? := fun j => A3.out j
      have x0 : w3.cell? ⟨bx, 0, none⟩ = some (.int .i64 i) := by rw [CX3 0]; rfl
      have x1 : w3.cell? ⟨bx, 1, none⟩ = some (.int .i64 k) := by rw [CX3 1]; rfl
      have x2 : w3.cell? ⟨bx, 2, none⟩ = some (.int .i64 l) := by rw [CX3 2]; rfl
      have x3 : w3.cell? ⟨bx, 3, none⟩ = some (.int .i64 s) := by rw [CX3 3]; rfl
      have x4 : w3.cell? ⟨bx, 4, none⟩ = some (.string t) := by rw [CX3 4]; rfl
      have x5 : w3.cell? ⟨bx, 5, none⟩ = some (.int .i64 p) := by rw [CX3 5]; rfl
      have S : ∀ w', Below w3.heap.size w3 w' → w'.cell? ⟨b, 0, none⟩ = some (.map (some r3)) ∧ w'.cell? ⟨bx, 0, none⟩ = some (.int .i64 i) ∧ w'.cell? ⟨bx, 1, none⟩ = some (.int .i64 k) ∧
          w'.cell? ⟨bx, 2, none⟩ = some (.int .i64 l) ∧ w'.cell? ⟨bx, 3, none⟩ = some (.int .i64 s) ∧ w'.cell? ⟨bx, 4, none⟩ = some (.string t) ∧ w'.cell? ⟨bx, 5, none⟩ = some (.int .i64 p) := by
        intro w' hb
        obtain ⟨hc, _⟩ := bcell hb
        exact ⟨(H3.out.below hb).map, (hc _ _ lx3).trans x0, (hc _ _ lx3).trans x1, (hc _ _ lx3).trans x2, (hc _ _ lx3).trans x3, (hc _ _ lx3).trans x4, (hc _ _ lx3).trans x5⟩
      clear CX3 x1 x2 x3 x4 x5
      have X0 := Lib.hid x0
      clear x0
      apply wp_region_tail 7 _ (by kernel_rfl) (by kernel_rfl) (by kernel_rfl) (by decide) (fun w' => Below w3.heap.size w3 w') (fun w' w'' => Below w'.heap.size w' w'') (fun w' w'' h1 h2 => bl_trans h1 h2) (Below.refl _ _).drew
      simp only [List.take_succ_cons, List.take_zero, List.drop_succ_cons, List.drop_zero]
      repeat (first
        | (apply wpRel_skip (by rfl)
           simp only [Act.put, List.setIfInBounds_toArray, List.set_cons_zero, List.set_cons_succ])
        | (apply wpRel_fix (by rfl)
           · intro w' hC hf R hR
             go_simp
             exact hR _ (Below.refl _ _)
           simp only [Act.put, List.setIfInBounds_toArray, List.set_cons_zero, List.set_cons_succ]))
      refine wpRel_nil (fun w4 hC hf => ?_)
      clear S hf
      have H4 := H3.out.below hC
      apply wpList_upd rfl _ _ _ _ rfl
      · exact H4.made.2.put kdInt Tryd.underlying121 inj64 (keyI (by have := HI.out; omega)) ⟨i, k, l, s, t, p⟩
      rintro w5 ⟨hm5, ht5⟩
      have H5 := H4.turned hm5 ht5
      have T5 : Touch (OwnN b m) w w5 := (T3.out.then hC).trans (Touch.of_turned ht5) (fun x hx hlt => by subst hx; exact (O3.out _ (.inr rfl)).resolve_right (by omega))
      have y0 : w5.cell? ⟨bx, 0, none⟩ = some (.int .i64 i) := by
        rw [(turned_cell ht5).1 _ _ (Ne.symm nr), hC.cell (p := ⟨bx, 0, none⟩) lx3]
        exact X0.out
      have lx5 : bx < w5.heap.size := by have := (turned_cell ht5).2.2; have := hC.size; omega
      rw [HNN.out] at H5
      have H5' := Lib.hid H5
      have T5' := Lib.hid T5
      clear H4 H5 T5 hm5 ht5 hC H3 A3 X0 T3
      go_wp2_with fail
      have S : ∀ w', Below w5.heap.size w5 w' → w'.cell? ⟨b, 1, none⟩ = some (.int .i64 last) ∧ w'.cell? ⟨bx, 0, none⟩ = some (.int .i64 i) := by
        intro w' hb
        obtain ⟨hc, _⟩ := bcell hb
        exact ⟨(H5'.out.below hb).last, (hc _ _ lx5).trans y0⟩
      apply wp_region_tail 8 _ (by kernel_rfl) (by kernel_rfl) (by kernel_rfl) (by decide) (fun w' => Below w5.heap.size w5 w') (fun w' w'' => Below w'.heap.size w' w'') (fun w' w'' h1 h2 => bl_trans h1 h2) (Below.refl _ _).drew
      simp only [List.take_succ_cons, List.take_zero, List.drop_succ_cons, List.drop_zero]
      repeat (first
        | (apply wpRel_skip (by rfl)
           simp only [Act.put, List.setIfInBounds_toArray, List.set_cons_zero, List.set_cons_succ])
        | (apply wpRel_fix (by rfl)
           · intro w' hC hf R hR
             go_simp
             exact hR _ (Below.refl _ _)
           simp only [Act.put, List.setIfInBounds_toArray, List.set_cons_zero, List.set_cons_succ]))
      refine wpRel_nil (fun w6 hC hf => ?_)
      clear S hf
      have H6 := Lib.hid (H5'.out.below hC)
      have T6 := Lib.hid (T5'.out.then hC)
      have hl6 := H6.out.last
      have hf6 := H6.out.flast
      have hlt6 := H6.out.lt
      clear H5' T5' hC y0
      go_wp2
      all_goals
        go_ret
        try subst hm
        refine ⟨rfl, some r3, ?_, Touch.setCell T6.out (.inl (.inl rfl)) _, O3.out⟩
        first
          | (obtain rfl : mx = last := by have := HMX.out; omega
             exact H6.out.setLast _)
          | (obtain rfl : mx = i := by have := HMX.out; omega
             exact H6.out.setLast _)
    · have hz : ((n : Int) == 0) = false := by rw [beq_eq_false_iff_ne]; omega
      have h512 : ¬ (512 ≤ (n : Int)) := by have := HN.out his; omega
      obtain ⟨r, rfl⟩ : ∃ r, m = some r := by
        have h4 := H2.out.made
        cases m with
        | none => exact absurd h4.1 hn0
        | some r => exact ⟨r, rfl⟩
      go_wp2_with (first
        | (at_len; refine wpList_glen (by rfl) _ _ rfl (nodes_len H2.out _) ?_))
      obtain ⟨r3, rfl⟩ : ∃ r3, r3 = r := ⟨_, rfl⟩
      obtain ⟨w3, rfl⟩ : ∃ w3, w3 = w2 := ⟨_, rfl⟩
      have lx3 : bx < w3.heap.size := lx2
      have nr : r3 ≠ bx := by have := HO.out r3 (.inr rfl); omega
      have A3 := CX2
      have H3 := H2
      obtain ⟨m, hm⟩ : ∃ m, m = some r3 := ⟨_, rfl⟩
      have T3 : Hid (Touch (OwnN b m) w w3) := Lib.hid (Touch.of_below HT2.out _)
      have O3 : Hid (∀ x, OwnN b (some r3) x → OwnN b m x ∨ w.heap.size ≤ x) := Lib.hid (fun x hx => .inl (hm ▸ hx))
      clear H2 CX2 HT2 hc2 hf2 hlt2
      have CX3 : ∀ j, w3.cell? ⟨bx, j, none⟩ = (#[.int .i64 i, .int .i64 k, .int .i64 l, .int .i64 s, .string t, .int .i64 p] : Array Value)[j]? := fun j => A3.out j
      have x0 : w3.cell? ⟨bx, 0, none⟩ = some (.int .i64 i) := by rw [CX3 0]; rfl
      have x1 : w3.cell? ⟨bx, 1, none⟩ = some (.int .i64 k) := by rw [CX3 1]; rfl
      have x2 : w3.cell? ⟨bx, 2, none⟩ = some (.int .i64 l) := by rw [CX3 2]; rfl
      have x3 : w3.cell? ⟨bx, 3, none⟩ = some (.int .i64 s) := by rw [CX3 3]; rfl
      have x4 : w3.cell? ⟨bx, 4, none⟩ = some (.string t) := by rw [CX3 4]; rfl
      have x5 : w3.cell? ⟨bx, 5, none⟩ = some (.int .i64 p) := by rw [CX3 5]; rfl
      have S : ∀ w', Below w3.heap.size w3 w' → w'.cell? ⟨b, 0, none⟩ = some (.map (some r3)) ∧ w'.cell? ⟨bx, 0, none⟩ = some (.int .i64 i) ∧ w'.cell? ⟨bx, 1, none⟩ = some (.int .i64 k) ∧
          w'.cell? ⟨bx, 2, none⟩ = some (.int .i64 l) ∧ w'.cell? ⟨bx, 3, none⟩ = some (.int .i64 s) ∧ w'.cell? ⟨bx, 4, none⟩ = some (.string t) ∧ w'.cell? ⟨bx, 5, none⟩ = some (.int .i64 p) := by
        intro w' hb
        obtain ⟨hc, _⟩ := bcell hb
        exact ⟨(H3.out.below hb).map, (hc _ _ lx3).trans x0, (hc _ _ lx3).trans x1, (hc _ _ lx3).trans x2, (hc _ _ lx3).trans x3, (hc _ _ lx3).trans x4, (hc _ _ lx3).trans x5⟩
      clear CX3 x1 x2 x3 x4 x5
      have X0 := Lib.hid x0
      clear x0
      apply wp_region_tail 7 _ (by kernel_rfl) (by kernel_rfl) (by kernel_rfl) (by decide) (fun w' => Below w3.heap.size w3 w') (fun w' w'' => Below w'.heap.size w' w'') (fun w' w'' h1 h2 => bl_trans h1 h2) (Below.refl _ _).drew
      simp only [List.take_succ_cons, List.take_zero, List.drop_succ_cons, List.drop_zero]
      repeat (first
        | (apply wpRel_skip (by rfl)
           simp only [Act.put, List.setIfInBounds_toArray, List.set_cons_zero, List.set_cons_succ])
        | (apply wpRel_fix (by rfl)
           · intro w' hC hf R hR
             go_simp
             exact hR _ (Below.refl _ _)
           simp only [Act.put, List.setIfInBounds_toArray, List.set_cons_zero, List.set_cons_succ]))
      refine wpRel_nil (fun w4 hC hf => ?_)
      clear S hf
      have H4 := H3.out.below hC
      apply wpList_upd rfl _ _ _ _ rfl
      · exact H4.made.2.put kdInt Tryd.underlying121 inj64 (keyI (by have := HI.out; omega)) ⟨i, k, l, s, t, p⟩
      rintro w5 ⟨hm5, ht5⟩
      have H5 := H4.turned hm5 ht5
      have T5 : Touch (OwnN b m) w w5 := (T3.out.then hC).trans (Touch.of_turned ht5) (fun x hx hlt => by subst hx; exact (O3.out _ (.inr rfl)).resolve_right (by omega))
      have y0 : w5.cell? ⟨bx, 0, none⟩ = some (.int .i64 i) := by
        rw [(turned_cell ht5).1 _ _ (Ne.symm nr), hC.cell (p := ⟨bx, 0, none⟩) lx3]
        exact X0.out
      have lx5 : bx < w5.heap.size := by have := (turned_cell ht5).2.2; have := hC.size; omega
      rw [HNN.out] at H5
      have H5' := Lib.hid H5
      have T5' := Lib.hid T5
      clear H4 H5 T5 hm5 ht5 hC H3 A3 X0 T3
      go_wp2_with fail
      have S : ∀ w', Below w5.heap.size w5 w' → w'.cell? ⟨b, 1, none⟩ = some (.int .i64 last) ∧ w'.cell? ⟨bx, 0, none⟩ = some (.int .i64 i) := by
        intro w' hb
        obtain ⟨hc, _⟩ := bcell hb
        exact ⟨(H5'.out.below hb).last, (hc _ _ lx5).trans y0⟩
      apply wp_region_tail 8 _ (by kernel_rfl) (by kernel_rfl) (by kernel_rfl) (by decide) (fun w' => Below w5.heap.size w5 w') (fun w' w'' => Below w'.heap.size w' w'') (fun w' w'' h1 h2 => bl_trans h1 h2) (Below.refl _ _).drew
      simp only [List.take_succ_cons, List.take_zero, List.drop_succ_cons, List.drop_zero]
      repeat (first
        | (apply wpRel_skip (by rfl)
           simp only [Act.put, List.setIfInBounds_toArray, List.set_cons_zero, List.set_cons_succ])
        | (apply wpRel_fix (by rfl)
           · intro w' hC hf R hR
             go_simp
             exact hR _ (Below.refl _ _)
           simp only [Act.put, List.setIfInBounds_toArray, List.set_cons_zero, List.set_cons_succ]))
      refine wpRel_nil (fun w6 hC hf => ?_)
      clear S hf
      have H6 := Lib.hid (H5'.out.below hC)
      have T6 := Lib.hid (T5'.out.then hC)
      have hl6 := H6.out.last
      have hf6 := H6.out.flast
      have hlt6 := H6.out.lt
      clear H5' T5' hC y0
      go_wp2
      all_goals
        go_ret
        try subst hm
        refine ⟨rfl, some r3, ?_, Touch.setCell T6.out (.inl (.inl rfl)) _, O3.out⟩
        first
          | (obtain rfl : mx = last := by have := HMX.out; omega
             exact H6.out.setLast _)
          | (obtain rfl : mx = i := by have := HMX.out; omega
             exact H6.out.setLast _)
  · have hn0 : n ≠ 0 := by
      rintro rfl
      have h4 := H2.out.made
      have : g i = none := by
        cases m with
        | none => exact h4.2 i
        | some r => exact h4.2.empty i
      rw [this] at his
      cases his
    have hz : ((n : Int) == 0) = false := by rw [beq_eq_false_iff_ne]; omega
    obtain ⟨r, rfl⟩ : ∃ r, m = some r := by
      have h4 := H2.out.made
      cases m with
      | none => exact absurd h4.1 hn0
      | some r => exact ⟨r, rfl⟩
    go_wp2_with (first
      | (at_len; refine wpList_glen (by rfl) _ _ rfl (nodes_len H2.out _) ?_))
    obtain ⟨r3, rfl⟩ : ∃ r3, r3 = r := ⟨_, rfl⟩
    obtain ⟨w3, rfl⟩ : ∃ w3, w3 = w2 := ⟨_, rfl⟩
    have lx3 : bx < w3.heap.size := lx2
    have nr : r3 ≠ bx := by have := HO.out r3 (.inr rfl); omega
    have A3 := CX2
    have H3 := H2
    obtain ⟨m, hm⟩ : ∃ m, m = some r3 := ⟨_, rfl⟩
    have T3 : Hid (Touch (OwnN b m) w w3) := Lib.hid (Touch.of_below HT2.out _)
    have O3 : Hid (∀ x, OwnN b (some r3) x → OwnN b m x ∨ w.heap.size ≤ x) := Lib.hid (fun x hx => .inl (hm ▸ hx))
    clear H2 CX2 HT2 hc2 hf2 hlt2
    have CX3 : ∀ j, w3.cell? ⟨bx, j, none⟩ = (#[.int .i64 i, .int .i64 k, .int .i64 l, .int .i64 s, .string t, .int .i64 p] : Array Value)[j]? := fun j => A3.out j
    have x0 : w3.cell? ⟨bx, 0, none⟩ = some (.int .i64 i) := by rw [CX3 0]; rfl
    have x1 : w3.cell? ⟨bx, 1, none⟩ = some (.int .i64 k) := by rw [CX3 1]; rfl
    have x2 : w3.cell? ⟨bx, 2, none⟩ = some (.int .i64 l) := by rw [CX3 2]; rfl
    have x3 : w3.cell? ⟨bx, 3, none⟩ = some (.int .i64 s) := by rw [CX3 3]; rfl
    have x4 : w3.cell? ⟨bx, 4, none⟩ = some (.string t) := by rw [CX3 4]; rfl
    have x5 : w3.cell? ⟨bx, 5, none⟩ = some (.int .i64 p) := by rw [CX3 5]; rfl
    have S : ∀ w', Below w3.heap.size w3 w' → w'.cell? ⟨b, 0, none⟩ = some (.map (some r3)) ∧ w'.cell? ⟨bx, 0, none⟩ = some (.int .i64 i) ∧ w'.cell? ⟨bx, 1, none⟩ = some (.int .i64 k) ∧
        w'.cell? ⟨bx, 2, none⟩ = some (.int .i64 l) ∧ w'.cell? ⟨bx, 3, none⟩ = some (.int .i64 s) ∧ w'.cell? ⟨bx, 4, none⟩ = some (.string t) ∧ w'.cell? ⟨bx, 5, none⟩ = some (.int .i64 p) := by
      intro w' hb
      obtain ⟨hc, _⟩ := bcell hb
      exact ⟨(H3.out.below hb).map, (hc _ _ lx3).trans x0, (hc _ _ lx3).trans x1, (hc _ _ lx3).trans x2, (hc _ _ lx3).trans x3, (hc _ _ lx3).trans x4, (hc _ _ lx3).trans x5⟩
    clear CX3 x1 x2 x3 x4 x5
    have X0 := Lib.hid x0
    clear x0
    apply wp_region_tail 7 _ (by kernel_rfl) (by kernel_rfl) (by kernel_rfl) (by decide) (fun w' => Below w3.heap.size w3 w') (fun w' w'' => Below w'.heap.size w' w'') (fun w' w'' h1 h2 => bl_trans h1 h2) (Below.refl _ _).drew
    simp only [List.take_succ_cons, List.take_zero, List.drop_succ_cons, List.drop_zero]
    repeat (first
      | (apply wpRel_skip (by rfl)
         simp only [Act.put, List.setIfInBounds_toArray, List.set_cons_zero, List.set_cons_succ])
      | (apply wpRel_fix (by rfl)
         · intro w' hC hf R hR
           go_simp
           exact hR _ (Below.refl _ _)
         simp only [Act.put, List.setIfInBounds_toArray, List.set_cons_zero, List.set_cons_succ]))
    refine wpRel_nil (fun w4 hC hf => ?_)
    clear S hf
    have H4 := H3.out.below hC
    apply wpList_upd rfl _ _ _ _ rfl
    · exact H4.made.2.put kdInt Tryd.underlying121 inj64 (keyI (by have := HI.out; omega)) ⟨i, k, l, s, t, p⟩
    rintro w5 ⟨hm5, ht5⟩
    have H5 := H4.turned hm5 ht5
    have T5 : Touch (OwnN b m) w w5 := (T3.out.then hC).trans (Touch.of_turned ht5) (fun x hx hlt => by subst hx; exact (O3.out _ (.inr rfl)).resolve_right (by omega))
    have y0 : w5.cell? ⟨bx, 0, none⟩ = some (.int .i64 i) := by
      rw [(turned_cell ht5).1 _ _ (Ne.symm nr), hC.cell (p := ⟨bx, 0, none⟩) lx3]
      exact X0.out
    have lx5 : bx < w5.heap.size := by have := (turned_cell ht5).2.2; have := hC.size; omega
    rw [HNN.out] at H5
    have H5' := Lib.hid H5
    have T5' := Lib.hid T5
    clear H4 H5 T5 hm5 ht5 hC H3 A3 X0 T3
    go_wp2_with fail
    have S : ∀ w', Below w5.heap.size w5 w' → w'.cell? ⟨b, 1, none⟩ = some (.int .i64 last) ∧ w'.cell? ⟨bx, 0, none⟩ = some (.int .i64 i) := by
      intro w' hb
      obtain ⟨hc, _⟩ := bcell hb
      exact ⟨(H5'.out.below hb).last, (hc _ _ lx5).trans y0⟩
    apply wp_region_tail 8 _ (by kernel_rfl) (by kernel_rfl) (by kernel_rfl) (by decide) (fun w' => Below w5.heap.size w5 w') (fun w' w'' => Below w'.heap.size w' w'') (fun w' w'' h1 h2 => bl_trans h1 h2) (Below.refl _ _).drew
    simp only [List.take_succ_cons, List.take_zero, List.drop_succ_cons, List.drop_zero]
    repeat (first
      | (apply wpRel_skip (by rfl)
         simp only [Act.put, List.setIfInBounds_toArray, List.set_cons_zero, List.set_cons_succ])
      | (apply wpRel_fix (by rfl)
         · intro w' hC hf R hR
           go_simp
           exact hR _ (Below.refl _ _)
         simp only [Act.put, List.setIfInBounds_toArray, List.set_cons_zero, List.set_cons_succ]))
    refine wpRel_nil (fun w6 hC hf => ?_)
    clear S hf
    have H6 := Lib.hid (H5'.out.below hC)
    have T6 := Lib.hid (T5'.out.then hC)
    have hl6 := H6.out.last
    have hf6 := H6.out.flast
    have hlt6 := H6.out.lt
    clear H5' T5' hC y0
    go_wp2
    all_goals
      go_ret
      try subst hm
      refine ⟨rfl, some r3, ?_, Touch.setCell T6.out (.inl (.inl rfl)) _, O3.out⟩
      first
        | (obtain rfl : mx = last := by have := HMX.out; omega
           exact H6.out.setLast _)
        | (obtain rfl : mx = i := by have := HMX.out; omega
           exact H6.out.setLast _)
end Go.Proofs.YtjmbilbkmcebeaaDoor
