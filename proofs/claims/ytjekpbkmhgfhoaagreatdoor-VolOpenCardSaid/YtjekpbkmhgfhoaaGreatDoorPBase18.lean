/- Merged texts: Node NodeTab NodeNew NodeLaw NodeDel Open. -/
import Derived.Test.YtjekpbkmhgfhoaaGreatDoorPBase03
import Derived.Test.YtjekpbkmhgfhoaaGreatDoorPBase06
import Derived.StillTailTactics
import Derived.Deep.DeepMust
import Derived.Outline
import Derived.Deep.QuietTactic
import Derived.BigQuiet
import Derived.Test.YtjekpbkmhgfhoaaGreatDoorPBase08
section
/- The walks of package node: Valid, New, Get, Put, Len, over a node table that is a function of its numbers. -/
namespace Go.Proofs.YtjekpbkmhgfhoaaGreatDoor
open Go Go.RowKit
set_option maxRecDepth 100000
set_option linter.unusedSimpArgs false
attribute [local go_sem] giv
variable {E : Nat → Addr} {B : Nat}

/-- A node. -/
structure Nd where
  id : Int
  kind : Int
  links : Int
  size : Int
  target : ByteArray
  parent : Int

def encN (n : Nd) : Value := .agg #[.int .i64 n.id, .int .i64 n.kind, .int .i64 n.links, .int .i64 n.size, .string n.target, .int .i64 n.parent]

def idB (n : Int) : Bool := decide (1 ≤ n) && decide (n ≤ 16777215)
def kindB (n : Int) : Bool := decide (1 ≤ n) && decide (n ≤ 3)
/-- No text. -/
abbrev noText : ByteArray := { data := #[] }
/-- May a node be? -/
def validB (n : Nd) : Bool :=
  idB n.id && (kindB n.kind && (decide (0 ≤ n.links) && (decide (n.links ≤ 16) && (decide (0 ≤ n.size) && (decide (n.size ≤ 16384) && ((n.kind == 1 || n.size == 0) &&
  (((n.kind == 3) == !n.target.toList.isEmpty) && (decide (n.target.size ≤ 88) && (if n.kind = 2 then idB n.parent else n.parent == 0)))))))))

theorem id_any (p : Int) (w : World) : Calls Tryz.prog 144 #[.int .i64 p] w fun e w' => e = .returned (.bool (idB p)) ∧ w = w' := by
  by_cases h0 : 1 ≤ p
  · go_enter Tryz.func144, Tryz.ntmps144
    go_wp2
    go_ret
    exact ⟨ret_bool (by simp [idB, h0]), rfl⟩
  · have h1 : decide (1 ≤ p) = false := decide_eq_false h0
    go_enter Tryz.func144, Tryz.ntmps144
    go_wp2
    go_ret
    exact ⟨ret_bool (by unfold idB; rw [h1]; rfl), rfl⟩

theorem kind_any (p : Int) (w : World) : Calls Tryz.prog 139 #[.int .i64 p] w fun e w' => e = .returned (.bool (kindB p)) ∧ w = w' := by
  by_cases h0 : 1 ≤ p
  · go_enter Tryz.func139, Tryz.ntmps139
    go_wp2
    go_ret
    exact ⟨ret_bool (by simp [kindB, h0]), rfl⟩
  · have h1 : decide (1 ≤ p) = false := decide_eq_false h0
    go_enter Tryz.func139, Tryz.ntmps139
    go_wp2
    go_ret
    exact ⟨ret_bool (by unfold kindB; rw [h1]; rfl), rfl⟩

/-- What Valid says. -/
def vRes (E : Nat → Addr) (n : Nd) : Value := if validB n then .nilIface else errV E 10
theorem vRes_bad {n : Nd} (h : validB n = false) : Ending.returned (errV E 10) = .returned (vRes E n) := by unfold vRes; rw [h]; rfl
theorem vRes_good {n : Nd} (h : validB n = true) : Ending.returned .nilIface = .returned (vRes E n) := by unfold vRes; rw [h]; rfl

set_option maxHeartbeats 4000000 in
theorem valid_any (n : Nd) (w : World) (hE : Env E B w) :
    Calls Tryz.prog 110 #[encN n] w fun e w' => e = .returned (vRes E n) ∧ Below w.heap.size w w' := by
  obtain ⟨i, k, l, s, t, p⟩ := n
  have he := hE.cell 10 (by decide)
  have hlt : 10 < w.heap.size := Nat.lt_of_lt_of_le (hE.glt 10 (by decide)) hE.size
  clear hE
  unfold encN
  cases hi : idB i
  · go_enter Tryz.func110, Tryz.ntmps110
    go_wp2_with fail
    refine (id_any _ _).mono ?_
    rintro e w1 ⟨rfl, rfl⟩
    rw [hi]
    go_wp2
    go_ret
    exact ⟨vRes_bad (by simp [validB, hi]), by repeat (first | exact Below.refl _ _ | refine bl_alloc ?_ _)⟩
  cases hk : kindB k
  · go_enter Tryz.func110, Tryz.ntmps110
    go_wp2_with fail
    refine (id_any _ _).mono ?_
    rintro e w1 ⟨rfl, rfl⟩
    rw [hi]
    go_wp2_with fail
    refine (kind_any _ _).mono ?_
    rintro e w1 ⟨rfl, rfl⟩
    rw [hk]
    go_wp2
    go_ret
    exact ⟨vRes_bad (by simp [validB, hk]), by repeat (first | exact Below.refl _ _ | refine bl_alloc ?_ _)⟩
  · go_enter Tryz.func110, Tryz.ntmps110
    go_wp2_with fail
    refine (id_any _ _).mono ?_
    rintro e w1 ⟨rfl, rfl⟩
    rw [hi]
    go_wp2_with fail
    refine (kind_any _ _).mono ?_
    rintro e w1 ⟨rfl, rfl⟩
    rw [hk]
    go_wp2
    all_goals
      go_ret
      refine ⟨?_, by repeat (first | exact Below.refl _ _ | refine bl_alloc ?_ _)⟩
      clear he
      first
        | exact vRes_good (by simp_all [validB, idB]; try omega)
        | exact vRes_bad (by simp_all [validB, idB]; try omega)
end Go.Proofs.YtjekpbkmhgfhoaaGreatDoor
end

section
/- The walks of package node's table: Len, Get, Put, New, over a table that is a function of its numbers. -/
namespace Go.Proofs.YtjekpbkmhgfhoaaGreatDoor
open Go Go.RowKit
set_option maxRecDepth 100000
set_option linter.unusedSimpArgs false
attribute [local go_sem] giv
variable {E : Nat → Addr} {B : Nat}

theorem kdInt : Maps.Keyed Tryz.prog 3 := Maps.int_keyed Tryz.underlying3
theorem inj64 : ∀ a b : Int, Value.int .i64 a = Value.int .i64 b → a = b := fun _ _ h => by cases h; rfl
theorem fit64 {a : Int} (h : -9223372036854775808 ≤ a ∧ a ≤ 9223372036854775807) : (Lit.int .i64 a).wf = true := by
  simp [Lit.wf, IntKind.min, IntKind.max, IntKind.signed, IntKind.bits]; omega
theorem keyI {a : Int} (h : -9223372036854775808 ≤ a ∧ a ≤ 9223372036854775807) : keyOf Tryz.prog 3 (.int .i64 a) = some (.int .i64 a) := Maps.keyOf_int_mk Tryz.underlying3 (fit64 h)

/-- The nothing of nodes. -/
def noNd : Nd := ⟨0, 0, 0, 0, noText, 0⟩
theorem zeroN (w : World) : (zeroValue 59).run Tryz.prog w = .ok (encN noNd) w := by kernel_rfl

abbrev NMap (w : World) (r : Nat) (g : Int → Option Nd) (n : Nat) : Prop := MapAt Tryz.prog 3 (Value.int .i64) encN w r g n

/-- The block b holds a node table: its map's block m (none: not made), what it has, how many, the last number. -/
structure NodesAt (w : World) (b : Nat) (m : Option Nat) (g : Int → Option Nd) (n : Nat) (last : Int) : Prop where
  map : w.cell? ⟨b, 0, none⟩ = some (.map m)
  last : w.cell? ⟨b, 1, none⟩ = some (.int .i64 last)
  fmap : w.frozen? ⟨b, 0, none⟩ = false
  flast : w.frozen? ⟨b, 1, none⟩ = false
  lt : b < w.heap.size
  made : match m with
    | none => n = 0 ∧ ∀ k, g k = none
    | some r => r ≠ b ∧ NMap w r g n

/-- The blocks of a table. -/
def OwnN (b : Nat) (m : Option Nat) : Nat → Prop := fun x => x = b ∨ m = some x

section
variable {w w' : World} {b : Nat} {m : Option Nat} {g : Int → Option Nd} {n : Nat} {last : Int}
theorem NodesAt.touch {S : Nat → Prop} (h : NodesAt w b m g n last) (ht : Touch S w w') (hn : ∀ x, OwnN b m x → ¬ S x) : NodesAt w' b m g n last := by
  obtain ⟨h1, h2, h3, h4, h5, h6⟩ := h
  have hb := hn b (.inl rfl)
  refine ⟨(ht.cell (p := ⟨b, 0, none⟩) h5 hb).trans h1, (ht.cell (p := ⟨b, 1, none⟩) h5 hb).trans h2, (ht.frozen (p := ⟨b, 0, none⟩) h5 hb).trans h3, (ht.frozen (p := ⟨b, 1, none⟩) h5 hb).trans h4, Nat.lt_of_lt_of_le h5 ht.size, ?_⟩
  cases m with
  | none => exact h6
  | some r => exact ⟨h6.1, h6.2.touch ht (hn r (.inr rfl))⟩
theorem NodesAt.below (h : NodesAt w b m g n last) (hb : Below w.heap.size w w') : NodesAt w' b m g n last := h.touch (Touch.of_below hb NoB) (fun _ _ h => h)
theorem NodesAt.own_lt (h : NodesAt w b m g n last) : ∀ x, OwnN b m x → x < w.heap.size := by
  rintro x (rfl | hx)
  · exact h.lt
  · subst hx; exact h.made.2.lt
/-- Behind a write into the table's map. -/
theorem NodesAt.turned {r n' : Nat} {g' : Int → Option Nd} (h : NodesAt w b (some r) g n last) (hm : NMap w' r g' n') (ht : w.mapTurned w' r) : NodesAt w' b (some r) g' n' last := by
  obtain ⟨h1, h2, h3, h4, h5, h6, _⟩ := h
  obtain ⟨c1, c2, c3⟩ := turned_cell ht
  exact ⟨(c1 _ _ (Ne.symm h6)).trans h1, (c1 _ _ (Ne.symm h6)).trans h2, (c2 _ _ (Ne.symm h6)).trans h3, (c2 _ _ (Ne.symm h6)).trans h4, by omega, h6, hm⟩

theorem nodes_look (h : NodesAt w b m g n last) {k : Int} (hk : -9223372036854775808 ≤ k ∧ k ≤ 9223372036854775807) :
    (Instr.lookup 152 (.map m) (.int .i64 k) true).run Tryz.prog w = .ok (.tuple #[encN ((g k).getD noNd), .bool (g k).isSome]) w := by
  have h4 := h.made
  cases m with
  | none =>
    obtain ⟨_, hg⟩ := h4
    rw [hg k]
    exact Maps.look_nil true kdInt Tryz.underlying152 (zeroN w) (keyI hk)
  | some r =>
    obtain ⟨_, hm⟩ := h4
    cases hg : g k with
    | none => exact hm.look_none kdInt Tryz.underlying152 inj64 (zeroN w) (keyI hk) hg true
    | some h => exact hm.look_some kdInt Tryz.underlying152 inj64 (keyI hk) hg true

theorem nodes_len (h : NodesAt w b m g n last) (ty : TypeId) : (Builtin.len_ #[152] ty #[.map m]).run Tryz.prog w = .ok (.int .i64 n) w := by
  have h4 := h.made
  cases m with
  | none =>
    obtain ⟨rfl, _⟩ := h4
    exact Maps.len_nil Tryz.underlying152 ty
  | some r => exact h4.2.len Tryz.underlying152 ty
end

theorem nlen_any {w : World} {b : Nat} {m : Option Nat} {g : Int → Option Nd} {n : Nat} {last : Int} (h : NodesAt w b m g n last) :
    Calls Tryz.prog 38 #[.pointer (some ⟨b, 0, none⟩)] w fun e w' => e = .returned (.int .i64 n) ∧ w = w' := by
  have hc := h.map
  have hlt := h.lt
  have H := Lib.hid h
  clear h
  go_enter Tryz.func38, Tryz.ntmps38
  go_wp2_with (at_len; refine wpList_mlen rfl _ _ rfl (nodes_len H.out _) ?_)
  go_ret
  exact ⟨rfl, rfl⟩

theorem nget_any {w : World} {b : Nat} {m : Option Nat} {g : Int → Option Nd} {n : Nat} {last : Int} (h : NodesAt w b m g n last) {k : Int} (hk : -9223372036854775808 ≤ k ∧ k ≤ 9223372036854775807) :
    Calls Tryz.prog 54 #[.pointer (some ⟨b, 0, none⟩), .int .i64 k] w fun e w' => e = .returned (.tuple #[encN ((g k).getD noNd), .bool (g k).isSome]) ∧ Below w.heap.size w w' := by
  have hc := h.map
  have hlt := h.lt
  have H := Lib.hid h
  clear h
  go_enter Tryz.func54, Tryz.ntmps54
  generalize hx : (g k).getD noNd = x at *
  obtain ⟨i, kd, l, s, t, p⟩ := x
  go_wp2_with (at_lookup; refine wpList_look rfl _ _ _ _ rfl (nodes_look (H.out.below (bl_alloc (Below.refl _ _) _)) hk) ?_; rw [hx]; unfold encN)
  refine bodyPost_ret (v := .tuple #[encN ⟨i, kd, l, s, t, p⟩, .bool (g k).isSome]) (by simp [results, Tryz.results54, go_sem, encN]) rfl ⟨rfl, ?_⟩
  exact bl_alloc (bl_alloc (Below.refl _ _) _) _

/-- A length at a guarded operation. -/
theorem wpList_glen {P : Program} {w : World} {ops : Array Oper} {rest : List Oper} {o : Oper} {a : Act} {Q : Exit → Act → World → Prop} (hg : Region.wanted o (yielded ops a.tmps) = true) (m : Operand) (t : TypeId) (hop : o.op = Op.call { callee := Callee.builtin Builtin.len, args := #[m], argTypes := #[t] }) {v : Value}
    (hrun : (Builtin.len_ #[t] o.type #[a.eval m]).run P w = .ok v w) (hK : wpList P ops Q rest (a.put o.dst v) w) : wpList P ops Q (o :: rest) a w := by
  refine wpList_step fun K' hK' => ?_
  rw [if_pos hg]
  unfold Oper.wp
  simp [execOp, hop, resolve, invoke, builtin, hrun, Result.andThen]
  exact hK' _ _ hK

theorem vRes_is {n : Nd} (h : validB n = true) : vRes E n = .nilIface := by unfold vRes; rw [h]; rfl
theorem vRes_no {n : Nd} (h : validB n = false) : vRes E n = errV E 10 := by unfold vRes; rw [h]; rfl

theorem NodesAt.setLast {w : World} {b : Nat} {m : Option Nat} {g : Int → Option Nd} {n : Nat} {last : Int} (h : NodesAt w b m g n last) (v : Int) : NodesAt (w.setCell ⟨b, 1, none⟩ (.int .i64 v)) b m g n v := by
  obtain ⟨h1, h2, h3, h4, h5, h6⟩ := h
  refine ⟨by go_simp, by go_simp, by go_simp, by go_simp, by simpa using h5, ?_⟩
  cases m with
  | none => exact h6
  | some r => exact ⟨h6.1, h6.2.setCell h6.1 _⟩

/-- What an operation that writes leaves: the table, its blocks. -/
def NodesOut (b : Nat) (m : Option Nat) (g' : Int → Option Nd) (n' : Nat) (last' : Int) (w w' : World) : Prop :=
  ∃ m', NodesAt w' b m' g' n' last' ∧ Touch (OwnN b m) w w' ∧ ∀ x, OwnN b m' x → OwnN b m x ∨ w.heap.size ≤ x

theorem nput_bad {w : World} {b : Nat} (x : Nd) (hx : validB x = false) (hE : Env E B w) :
    Calls Tryz.prog 65 #[.pointer (some ⟨b, 0, none⟩), encN x] w fun e w' => e = .returned (errV E 10) ∧ Below w.heap.size w w' := by
  obtain ⟨i, k, l, s, t, p⟩ := x
  have hE1 := hE.alloc (.cells #[.int .i64 i, .int .i64 k, .int .i64 l, .int .i64 s, .string t, .int .i64 p] 59)
  have HE1 := Lib.hid hE1
  clear hE hE1
  unfold encN
  go_enter Tryz.func65, Tryz.ntmps65
  go_wp2_with fail
  refine (valid_any ⟨i, k, l, s, t, p⟩ _ HE1.out).mono ?_
  rintro e w1 ⟨rfl, hb⟩
  rw [vRes_no hx]
  go_wp2
  go_ret
  exact ⟨rfl, (bl_alloc (Below.refl _ _) _).trans (hb.mono (by simp))⟩

set_option maxHeartbeats 1000000 in
theorem nput_ok {w : World} {b : Nat} {m : Option Nat} {g : Int → Option Nd} {n : Nat} {last : Int} (h : NodesAt w b m g n last) (x : Nd) (hx : validB x = true) (hn : (g x.id).isSome = false → n < 512) (hE : Env E B w)  :
    Calls Tryz.prog 65 #[.pointer (some ⟨b, 0, none⟩), encN x] w fun e w' => e = .returned .nilIface ∧
      NodesOut b m (upd g x.id x) (if (g x.id).isSome then n else n + 1) (max last x.id) w w' := by
  have hid : 1 ≤ x.id ∧ x.id ≤ 16777215 := by
    simp only [validB, Bool.and_eq_true, idB, decide_eq_true_eq] at hx
    exact hx.1
  obtain ⟨i, k, l, s, t, p⟩ := x
  simp only at hn hid ⊢
  have hb0 : Below w.heap.size w (w.alloc (.cells #[.int .i64 i, .int .i64 k, .int .i64 l, .int .i64 s, .string t, .int .i64 p] 59)) := bl_alloc (Below.refl _ _) _
  have HE1 := Lib.hid (hE.alloc (.cells #[.int .i64 i, .int .i64 k, .int .i64 l, .int .i64 s, .string t, .int .i64 p] 59))
  have H := Lib.hid h
  have HN := Lib.hid hn
  have HX := Lib.hid hx
  have HI := Lib.hid hid
  have HB0 := Lib.hid hb0
  clear hE hb0 h hn hx hid
  unfold encN
  generalize hnn : (if (g i).isSome = true then n else n + 1) = n'
  generalize hmx : max last i = mx
  have HNN := Lib.hid hnn
  have HMX := Lib.hid hmx
  clear hnn hmx
  cases his : (g i).isSome
  all_goals
    go_enter Tryz.func65, Tryz.ntmps65
    go_wp2_with fail
    refine (valid_any ⟨i, k, l, s, t, p⟩ _ HE1.out).mono ?_
    rintro e w1 ⟨rfl, hb⟩
    rw [vRes_is HX.out]
    go_wp2_with fail
  all_goals
    have h1 := H.out.below (HB0.out.trans (hb.mono (by simp)))
    have HB1 := Lib.hid (HB0.out.trans (hb.mono (by simp)))
    have lx : w.heap.size < w1.heap.size := by have := hb.size; simp at this; omega
    have nbx : b ≠ w.heap.size := by have := H.out.lt; omega
    have cx : ∀ j, w1.cell? ⟨w.heap.size, j, none⟩ = (#[.int .i64 i, .int .i64 k, .int .i64 l, .int .i64 s, .string t, .int .i64 p] : Array Value)[j]? := by
      intro j
      rw [hb.cell (p := ⟨w.heap.size, j, none⟩) (by simp)]
      simp
    have H1 := Lib.hid h1
    have hown : ∀ x, OwnN b m x → x < w.heap.size := H.out.own_lt
    have HO := Lib.hid hown
    clear hb HE1 HB0 hown
    generalize hbx : w.heap.size = bx at *
    have HBX := Lib.hid hbx
    clear hbx
    have HL : ∀ w', Shp w1.heap.size w1 w' → (Instr.lookup 152 (.map m) (.int .i64 i) true).run Tryz.prog w' = .ok (.tuple #[encN ((g i).getD noNd), .bool (g i).isSome]) w' :=
      fun w' hs => nodes_look (H1.out.below hs.bel) (by have := HI.out; omega)
    generalize hq : (g i).getD noNd = q at HL
    obtain ⟨q1, q2, q3, q4, q5, q6⟩ := q
    rw [his] at HL
    unfold encN at HL
    dsimp only at HL
    have c0 := cx 0
    clear hq
    have S : ∀ w', Shp w1.heap.size w1 w' → w'.cell? ⟨b, 0, none⟩ = some (.map m) ∧ w'.cell? ⟨bx, 0, none⟩ = some (.int .i64 i) := by
      intro w' hs
      exact ⟨(H1.out.below hs.bel).map, (hs.bel.cell (p := ⟨bx, 0, none⟩) lx).trans (by simpa using cx 0)⟩
    clear c0 h1
    have CX := Lib.hid cx
    clear cx
    apply wp_region_rel _ (by kernel_rfl) (by kernel_rfl) (fun w' => Shp w1.heap.size w1 w') (fun w' w'' => Shp w1.heap.size w' w'') (fun w' w'' h1 h2 => h1.trans h2) (Shp.refl _ _).drew
    repeat (first
      | (apply wpRel_fix (by rfl)
         · intro w' hC hf R hR
           go_simp
           exact hR _ (Shp.refl _ _)
         simp only [Act.put, List.setIfInBounds_toArray, List.set_cons_zero, List.set_cons_succ])
      | (apply wpRel_fix (by rfl)
         · intro w' hC hf R hR
           exact giv_look _ _ _ _ rfl (HL w' hC) (hR _ (Shp.refl _ _))
         simp only [Act.put, List.setIfInBounds_toArray, List.set_cons_zero, List.set_cons_succ]))
    apply wpRel_rel (PtBlk w1.heap.size 6) (by rfl) ptBlk_keep
    · intro w' hC hf R hR
      go_simp
      exact hR _ _ ⟨_, rfl, hC.bel.size, IsBlk.new' _ _ _ rfl⟩ (Shp.alloc (Shp.refl _ _) hC.bel.size _)
    intro v6
    simp only [Act.put, List.setIfInBounds_toArray, List.set_cons_zero, List.set_cons_succ]
    apply wpRel_fix (by rfl)
    · intro w' hC hf R hR
      obtain ⟨c, rfl, hc, hk⟩ := hf _ (List.mem_cons_self ..) (by kernel_rfl)
      obtain ⟨u0, e0⟩ := hk.cell (i := 0) (by omega)
      obtain ⟨u1, e1⟩ := hk.cell (i := 1) (by omega)
      obtain ⟨u2, e2⟩ := hk.cell (i := 2) (by omega)
      obtain ⟨u3, e3⟩ := hk.cell (i := 3) (by omega)
      obtain ⟨u4, e4⟩ := hk.cell (i := 4) (by omega)
      obtain ⟨u5, e5⟩ := hk.cell (i := 5) (by omega)
      have f0 := hk.froz 0
      have f1 := hk.froz 1
      have f2 := hk.froz 2
      have f3 := hk.froz 3
      have f4 := hk.froz 4
      have f5 := hk.froz 5
      go_simp
      refine hR _ ?_
      iterate 6 (refine Shp.setCell ?_ hc _)
      exact Shp.refl _ _
    simp only [Act.put, List.setIfInBounds_toArray, List.set_cons_zero, List.set_cons_succ]
    apply wpRel_fix (by rfl)
    · intro w' hC hf R hR
      go_simp
      exact hR _ (Shp.refl _ _)
    simp only [Act.put, List.setIfInBounds_toArray, List.set_cons_zero, List.set_cons_succ]
    refine wpRel_nil (fun w2 hC hf => ?_)
  all_goals
    have H2 := Lib.hid (H1.out.below hC.bel)
    have hc2 := H2.out.map
    have hlt2 := H2.out.lt
    have hf2 := H2.out.fmap
    have hmm := @run_makeMap Tryz.prog
    have CX2 : Hid (∀ j, w2.cell? ⟨bx, j, none⟩ = (#[.int .i64 i, .int .i64 k, .int .i64 l, .int .i64 s, .string t, .int .i64 p] : Array Value)[j]?) :=
      Lib.hid fun j => (hC.bel.cell (p := ⟨bx, j, none⟩) lx).trans (CX.out j)
    have lx2 : bx < w2.heap.size := Nat.lt_of_lt_of_le lx hC.bel.size
    have HT2 : Hid (Below w.heap.size w w2) := Lib.hid (HBX.out ▸ (HB1.out.trans (hC.bel.mono (Nat.le_of_lt lx))))
    clear HL S hf CX HB1 hC H1
  · by_cases hn0 : n = 0
    · subst hn0
      have hz : (((0 : Nat) : Int) == 0) = true := rfl
      have hgn : ∀ x, g x = none := by
        have h4 := H2.out.made
        cases m with
        | none => exact h4.2
        | some r => exact h4.2.empty
      have HGN := Lib.hid hgn
      clear hgn
      go_wp2_with (first
        | (at_len; refine wpList_glen (by rfl) _ _ rfl (nodes_len H2.out _) ?_))
      obtain ⟨w3, hw3⟩ : ∃ w3, w3 = (w2.setCell { block := b, off := 0 } (Value.map (some w2.heap.size))).alloc (Obj.map #[] 0) := ⟨_, rfl⟩
      obtain ⟨r3, hr3⟩ : ∃ r3, r3 = w2.heap.size := ⟨_, rfl⟩
      rw [← hw3, ← hr3]
      have lx3 : bx < w3.heap.size := by rw [hw3]; simp; omega
      have nr : r3 ≠ bx := by omega
      have A3 : Hid (∀ j, w3.cell? ⟨bx, j, none⟩ = (#[.int .i64 i, .int .i64 k, .int .i64 l, .int .i64 s, .string t, .int .i64 p] : Array Value)[j]?) := Lib.hid fun j => by
        rw [hw3, World.cell?_alloc_lt _ _ _ (by show bx < _; simp; omega), World.cell?_of_block (w := w2) (Below.heap_setCell _ _ _ _ (Ne.symm nbx))]
        exact CX2.out j
      have H3 : Hid (NodesAt w3 b (some r3) g 0 last) := Lib.hid (by
        have hl2 := H2.out.last
        have hf2' := H2.out.flast
        refine ⟨?_, ?_, ?_, ?_, by rw [hw3]; simp; omega, by omega, ?_⟩
        · rw [hw3, hr3]; go_simp
        · rw [hw3]; go_simp
        · rw [hw3]; go_simp
        · rw [hw3]; go_simp
        · rw [hw3, funext HGN.out]
          exact mapAt_new' _ _ _ _ _ (by rw [hr3]; simp))
      have T3 : Hid (Touch (OwnN b m) w w3) := Lib.hid (by
        rw [hw3]
        exact Touch.alloc (Touch.setCell (Touch.of_below HT2.out _) (.inl (.inl rfl)) _) _)
      have O3 : Hid (∀ x, OwnN b (some r3) x → OwnN b m x ∨ w.heap.size ≤ x) := Lib.hid (by
        rintro x (rfl | hx)
        · exact .inl (.inl rfl)
        · injection hx with hx
          have := HT2.out.size
          exact .inr (by omega))
      clear hw3 hr3 H2 CX2 HT2 hc2 hf2 hlt2
      have CX3 : ∀ j, w3.cell? ⟨bx, j, none⟩ = (#[.int .i64 i, .int .i64 k, .int .i64 l, .int .i64 s, .string t, .int .i64 p] : Array Value)[j]? := fun j => A3.out j
      have x0 : w3.cell? ⟨bx, 0, none⟩ = some (.int .i64 i) := by rw [CX3 0]; rfl
      have x1 : w3.cell? ⟨bx, 1, none⟩ = some (.int .i64 k) := by rw [CX3 1]; rfl
      have x2 : w3.cell? ⟨bx, 2, none⟩ = some (.int .i64 l) := by rw [CX3 2]; rfl
      have x3 : w3.cell? ⟨bx, 3, none⟩ = some (.int .i64 s) := by rw [CX3 3]; rfl
      have x4 : w3.cell? ⟨bx, 4, none⟩ = some (.string t) := by rw [CX3 4]; rfl
      have x5 : w3.cell? ⟨bx, 5, none⟩ = some (.int .i64 p) := by rw [CX3 5]; rfl
      have S : ∀ w', Below w3.heap.size w3 w' → w'.cell? ⟨b, 0, none⟩ = some (.map (some r3)) ∧ w'.cell? ⟨bx, 0, none⟩ = some (.int .i64 i) ∧ w'.cell? ⟨bx, 1, none⟩ = some (.int .i64 k) ∧
          w'.cell? ⟨bx, 2, none⟩ = some (.int .i64 l) ∧ w'.cell? ⟨bx, 3, none⟩ = some (.int .i64 s) ∧ w'.cell? ⟨bx, 4, none⟩ = some (.string t) ∧ w'.cell? ⟨bx, 5, none⟩ = some (.int .i64 p) := by
        intro w' hb
        obtain ⟨hc, _⟩ := bcell hb
        exact ⟨(H3.out.below hb).map, (hc _ _ lx3).trans x0, (hc _ _ lx3).trans x1, (hc _ _ lx3).trans x2, (hc _ _ lx3).trans x3, (hc _ _ lx3).trans x4, (hc _ _ lx3).trans x5⟩
      clear CX3 x1 x2 x3 x4 x5
      have X0 := Lib.hid x0
      clear x0
      apply wp_region_tail 7 _ (by kernel_rfl) (by kernel_rfl) (by kernel_rfl) (by decide) (fun w' => Below w3.heap.size w3 w') (fun w' w'' => Below w'.heap.size w' w'') (fun w' w'' h1 h2 => bl_trans h1 h2) (Below.refl _ _).drew
      simp only [List.take_succ_cons, List.take_zero, List.drop_succ_cons, List.drop_zero]
      repeat (first
        | (apply wpRel_skip (by rfl)
           simp only [Act.put, List.setIfInBounds_toArray, List.set_cons_zero, List.set_cons_succ])
        | (apply wpRel_fix (by rfl)
           · intro w' hC hf R hR
             go_simp
             exact hR _ (Below.refl _ _)
           simp only [Act.put, List.setIfInBounds_toArray, List.set_cons_zero, List.set_cons_succ]))
      refine wpRel_nil (fun w4 hC hf => ?_)
      clear S hf
      have H4 := H3.out.below hC
      apply wpList_upd rfl _ _ _ _ rfl
      · exact H4.made.2.put kdInt Tryz.underlying152 inj64 (keyI (by have := HI.out; omega)) ⟨i, k, l, s, t, p⟩
      rintro w5 ⟨hm5, ht5⟩
      have H5 := H4.turned hm5 ht5
      have T5 : Touch (OwnN b m) w w5 := (T3.out.then hC).trans (Touch.of_turned ht5) (fun x hx hlt => by subst hx; exact (O3.out _ (.inr rfl)).resolve_right (by omega))
      have y0 : w5.cell? ⟨bx, 0, none⟩ = some (.int .i64 i) := by
        rw [(turned_cell ht5).1 _ _ (Ne.symm nr), hC.cell (p := ⟨bx, 0, none⟩) lx3]
        exact X0.out
      have lx5 : bx < w5.heap.size := by have := (turned_cell ht5).2.2; have := hC.size; omega
      rw [HNN.out] at H5
      have H5' := Lib.hid H5
      have T5' := Lib.hid T5
      clear H4 H5 T5 hm5 ht5 hC H3 A3 X0 T3
      go_wp2_with fail
      have S : ∀ w', Below w5.heap.size w5 w' → w'.cell? ⟨b, 1, none⟩ = some (.int .i64 last) ∧ w'.cell? ⟨bx, 0, none⟩ = some (.int .i64 i) := by
        intro w' hb
        obtain ⟨hc, _⟩ := bcell hb
        exact ⟨(H5'.out.below hb).last, (hc _ _ lx5).trans y0⟩
      apply wp_region_tail 8 _ (by kernel_rfl) (by kernel_rfl) (by kernel_rfl) (by decide) (fun w' => Below w5.heap.size w5 w') (fun w' w'' => Below w'.heap.size w' w'') (fun w' w'' h1 h2 => bl_trans h1 h2) (Below.refl _ _).drew
      simp only [List.take_succ_cons, List.take_zero, List.drop_succ_cons, List.drop_zero]
      repeat (first
        | (apply wpRel_skip (by rfl)
           simp only [Act.put, List.setIfInBounds_toArray, List.set_cons_zero, List.set_cons_succ])
        | (apply wpRel_fix (by rfl)
           · intro w' hC hf R hR
             go_simp
             exact hR _ (Below.refl _ _)
           simp only [Act.put, List.setIfInBounds_toArray, List.set_cons_zero, List.set_cons_succ]))
      refine wpRel_nil (fun w6 hC hf => ?_)
      clear S hf
      have H6 := Lib.hid (H5'.out.below hC)
      have T6 := Lib.hid (T5'.out.then hC)
      have hl6 := H6.out.last
      have hf6 := H6.out.flast
      have hlt6 := H6.out.lt
      clear H5' T5' hC y0
      go_wp2
      all_goals
        go_ret
        try subst hm
        refine ⟨rfl, some r3, ?_, Touch.setCell T6.out (.inl (.inl rfl)) _, O3.out⟩
        first
          | (obtain rfl : mx = last := by have := HMX.out; omega
             exact H6.out.setLast _)
          | (obtain rfl : mx = i := by have := HMX.out; omega
             exact H6.out.setLast _)
    · have hz : ((n : Int) == 0) = false := by rw [beq_eq_false_iff_ne]; omega
      have h512 : ¬ (512 ≤ (n : Int)) := by have := HN.out his; omega
      obtain ⟨r, rfl⟩ : ∃ r, m = some r := by
        have h4 := H2.out.made
        cases m with
        | none => exact absurd h4.1 hn0
        | some r => exact ⟨r, rfl⟩
      go_wp2_with (first
        | (at_len; refine wpList_glen (by rfl) _ _ rfl (nodes_len H2.out _) ?_))
      obtain ⟨r3, rfl⟩ : ∃ r3, r3 = r := ⟨_, rfl⟩
      obtain ⟨w3, rfl⟩ : ∃ w3, w3 = w2 := ⟨_, rfl⟩
      have lx3 : bx < w3.heap.size := lx2
      have nr : r3 ≠ bx := by have := HO.out r3 (.inr rfl); omega
      have A3 := CX2
      have H3 := H2
      obtain ⟨m, hm⟩ : ∃ m, m = some r3 := ⟨_, rfl⟩
      have T3 : Hid (Touch (OwnN b m) w w3) := Lib.hid (Touch.of_below HT2.out _)
      have O3 : Hid (∀ x, OwnN b (some r3) x → OwnN b m x ∨ w.heap.size ≤ x) := Lib.hid (fun x hx => .inl (hm ▸ hx))
      clear H2 CX2 HT2 hc2 hf2 hlt2
      have CX3 : ∀ j, w3.cell? ⟨bx, j, none⟩ = (#[.int .i64 i, .int .i64 k, .int .i64 l, .int .i64 s, .string t, .int .i64 p] : Array Value)[j]? := fun j => A3.out j
      have x0 : w3.cell? ⟨bx, 0, none⟩ = some (.int .i64 i) := by rw [CX3 0]; rfl
      have x1 : w3.cell? ⟨bx, 1, none⟩ = some (.int .i64 k) := by rw [CX3 1]; rfl
      have x2 : w3.cell? ⟨bx, 2, none⟩ = some (.int .i64 l) := by rw [CX3 2]; rfl
      have x3 : w3.cell? ⟨bx, 3, none⟩ = some (.int .i64 s) := by rw [CX3 3]; rfl
      have x4 : w3.cell? ⟨bx, 4, none⟩ = some (.string t) := by rw [CX3 4]; rfl
      have x5 : w3.cell? ⟨bx, 5, none⟩ = some (.int .i64 p) := by rw [CX3 5]; rfl
      have S : ∀ w', Below w3.heap.size w3 w' → w'.cell? ⟨b, 0, none⟩ = some (.map (some r3)) ∧ w'.cell? ⟨bx, 0, none⟩ = some (.int .i64 i) ∧ w'.cell? ⟨bx, 1, none⟩ = some (.int .i64 k) ∧
          w'.cell? ⟨bx, 2, none⟩ = some (.int .i64 l) ∧ w'.cell? ⟨bx, 3, none⟩ = some (.int .i64 s) ∧ w'.cell? ⟨bx, 4, none⟩ = some (.string t) ∧ w'.cell? ⟨bx, 5, none⟩ = some (.int .i64 p) := by
        intro w' hb
        obtain ⟨hc, _⟩ := bcell hb
        exact ⟨(H3.out.below hb).map, (hc _ _ lx3).trans x0, (hc _ _ lx3).trans x1, (hc _ _ lx3).trans x2, (hc _ _ lx3).trans x3, (hc _ _ lx3).trans x4, (hc _ _ lx3).trans x5⟩
      clear CX3 x1 x2 x3 x4 x5
      have X0 := Lib.hid x0
      clear x0
      apply wp_region_tail 7 _ (by kernel_rfl) (by kernel_rfl) (by kernel_rfl) (by decide) (fun w' => Below w3.heap.size w3 w') (fun w' w'' => Below w'.heap.size w' w'') (fun w' w'' h1 h2 => bl_trans h1 h2) (Below.refl _ _).drew
      simp only [List.take_succ_cons, List.take_zero, List.drop_succ_cons, List.drop_zero]
      repeat (first
        | (apply wpRel_skip (by rfl)
           simp only [Act.put, List.setIfInBounds_toArray, List.set_cons_zero, List.set_cons_succ])
        | (apply wpRel_fix (by rfl)
           · intro w' hC hf R hR
             go_simp
             exact hR _ (Below.refl _ _)
           simp only [Act.put, List.setIfInBounds_toArray, List.set_cons_zero, List.set_cons_succ]))
      refine wpRel_nil (fun w4 hC hf => ?_)
      clear S hf
      have H4 := H3.out.below hC
      apply wpList_upd rfl _ _ _ _ rfl
      · exact H4.made.2.put kdInt Tryz.underlying152 inj64 (keyI (by have := HI.out; omega)) ⟨i, k, l, s, t, p⟩
      rintro w5 ⟨hm5, ht5⟩
      have H5 := H4.turned hm5 ht5
      have T5 : Touch (OwnN b m) w w5 := (T3.out.then hC).trans (Touch.of_turned ht5) (fun x hx hlt => by subst hx; exact (O3.out _ (.inr rfl)).resolve_right (by omega))
      have y0 : w5.cell? ⟨bx, 0, none⟩ = some (.int .i64 i) := by
        rw [(turned_cell ht5).1 _ _ (Ne.symm nr), hC.cell (p := ⟨bx, 0, none⟩) lx3]
        exact X0.out
      have lx5 : bx < w5.heap.size := by have := (turned_cell ht5).2.2; have := hC.size; omega
      rw [HNN.out] at H5
      have H5' := Lib.hid H5
      have T5' := Lib.hid T5
      clear H4 H5 T5 hm5 ht5 hC H3 A3 X0 T3
      go_wp2_with fail
      have S : ∀ w', Below w5.heap.size w5 w' → w'.cell? ⟨b, 1, none⟩ = some (.int .i64 last) ∧ w'.cell? ⟨bx, 0, none⟩ = some (.int .i64 i) := by
        intro w' hb
        obtain ⟨hc, _⟩ := bcell hb
        exact ⟨(H5'.out.below hb).last, (hc _ _ lx5).trans y0⟩
      apply wp_region_tail 8 _ (by kernel_rfl) (by kernel_rfl) (by kernel_rfl) (by decide) (fun w' => Below w5.heap.size w5 w') (fun w' w'' => Below w'.heap.size w' w'') (fun w' w'' h1 h2 => bl_trans h1 h2) (Below.refl _ _).drew
      simp only [List.take_succ_cons, List.take_zero, List.drop_succ_cons, List.drop_zero]
      repeat (first
        | (apply wpRel_skip (by rfl)
           simp only [Act.put, List.setIfInBounds_toArray, List.set_cons_zero, List.set_cons_succ])
        | (apply wpRel_fix (by rfl)
           · intro w' hC hf R hR
             go_simp
             exact hR _ (Below.refl _ _)
           simp only [Act.put, List.setIfInBounds_toArray, List.set_cons_zero, List.set_cons_succ]))
      refine wpRel_nil (fun w6 hC hf => ?_)
      clear S hf
      have H6 := Lib.hid (H5'.out.below hC)
      have T6 := Lib.hid (T5'.out.then hC)
      have hl6 := H6.out.last
      have hf6 := H6.out.flast
      have hlt6 := H6.out.lt
      clear H5' T5' hC y0
      go_wp2
      all_goals
        go_ret
        try subst hm
        refine ⟨rfl, some r3, ?_, Touch.setCell T6.out (.inl (.inl rfl)) _, O3.out⟩
        first
          | (obtain rfl : mx = last := by have := HMX.out; omega
             exact H6.out.setLast _)
          | (obtain rfl : mx = i := by have := HMX.out; omega
             exact H6.out.setLast _)
  · have hn0 : n ≠ 0 := by
      rintro rfl
      have h4 := H2.out.made
      have : g i = none := by
        cases m with
        | none => exact h4.2 i
        | some r => exact h4.2.empty i
      rw [this] at his
      cases his
    have hz : ((n : Int) == 0) = false := by rw [beq_eq_false_iff_ne]; omega
    obtain ⟨r, rfl⟩ : ∃ r, m = some r := by
      have h4 := H2.out.made
      cases m with
      | none => exact absurd h4.1 hn0
      | some r => exact ⟨r, rfl⟩
    go_wp2_with (first
      | (at_len; refine wpList_glen (by rfl) _ _ rfl (nodes_len H2.out _) ?_))
    obtain ⟨r3, rfl⟩ : ∃ r3, r3 = r := ⟨_, rfl⟩
    obtain ⟨w3, rfl⟩ : ∃ w3, w3 = w2 := ⟨_, rfl⟩
    have lx3 : bx < w3.heap.size := lx2
    have nr : r3 ≠ bx := by have := HO.out r3 (.inr rfl); omega
    have A3 := CX2
    have H3 := H2
    obtain ⟨m, hm⟩ : ∃ m, m = some r3 := ⟨_, rfl⟩
    have T3 : Hid (Touch (OwnN b m) w w3) := Lib.hid (Touch.of_below HT2.out _)
    have O3 : Hid (∀ x, OwnN b (some r3) x → OwnN b m x ∨ w.heap.size ≤ x) := Lib.hid (fun x hx => .inl (hm ▸ hx))
    clear H2 CX2 HT2 hc2 hf2 hlt2
    have CX3 : ∀ j, w3.cell? ⟨bx, j, none⟩ = (#[.int .i64 i, .int .i64 k, .int .i64 l, .int .i64 s, .string t, .int .i64 p] : Array Value)[j]? := fun j => A3.out j
    have x0 : w3.cell? ⟨bx, 0, none⟩ = some (.int .i64 i) := by rw [CX3 0]; rfl
    have x1 : w3.cell? ⟨bx, 1, none⟩ = some (.int .i64 k) := by rw [CX3 1]; rfl
    have x2 : w3.cell? ⟨bx, 2, none⟩ = some (.int .i64 l) := by rw [CX3 2]; rfl
    have x3 : w3.cell? ⟨bx, 3, none⟩ = some (.int .i64 s) := by rw [CX3 3]; rfl
    have x4 : w3.cell? ⟨bx, 4, none⟩ = some (.string t) := by rw [CX3 4]; rfl
    have x5 : w3.cell? ⟨bx, 5, none⟩ = some (.int .i64 p) := by rw [CX3 5]; rfl
    have S : ∀ w', Below w3.heap.size w3 w' → w'.cell? ⟨b, 0, none⟩ = some (.map (some r3)) ∧ w'.cell? ⟨bx, 0, none⟩ = some (.int .i64 i) ∧ w'.cell? ⟨bx, 1, none⟩ = some (.int .i64 k) ∧
        w'.cell? ⟨bx, 2, none⟩ = some (.int .i64 l) ∧ w'.cell? ⟨bx, 3, none⟩ = some (.int .i64 s) ∧ w'.cell? ⟨bx, 4, none⟩ = some (.string t) ∧ w'.cell? ⟨bx, 5, none⟩ = some (.int .i64 p) := by
      intro w' hb
      obtain ⟨hc, _⟩ := bcell hb
      exact ⟨(H3.out.below hb).map, (hc _ _ lx3).trans x0, (hc _ _ lx3).trans x1, (hc _ _ lx3).trans x2, (hc _ _ lx3).trans x3, (hc _ _ lx3).trans x4, (hc _ _ lx3).trans x5⟩
    clear CX3 x1 x2 x3 x4 x5
    have X0 := Lib.hid x0
    clear x0
    apply wp_region_tail 7 _ (by kernel_rfl) (by kernel_rfl) (by kernel_rfl) (by decide) (fun w' => Below w3.heap.size w3 w') (fun w' w'' => Below w'.heap.size w' w'') (fun w' w'' h1 h2 => bl_trans h1 h2) (Below.refl _ _).drew
    simp only [List.take_succ_cons, List.take_zero, List.drop_succ_cons, List.drop_zero]
    repeat (first
      | (apply wpRel_skip (by rfl)
         simp only [Act.put, List.setIfInBounds_toArray, List.set_cons_zero, List.set_cons_succ])
      | (apply wpRel_fix (by rfl)
         · intro w' hC hf R hR
           go_simp
           exact hR _ (Below.refl _ _)
         simp only [Act.put, List.setIfInBounds_toArray, List.set_cons_zero, List.set_cons_succ]))
    refine wpRel_nil (fun w4 hC hf => ?_)
    clear S hf
    have H4 := H3.out.below hC
    apply wpList_upd rfl _ _ _ _ rfl
    · exact H4.made.2.put kdInt Tryz.underlying152 inj64 (keyI (by have := HI.out; omega)) ⟨i, k, l, s, t, p⟩
    rintro w5 ⟨hm5, ht5⟩
    have H5 := H4.turned hm5 ht5
    have T5 : Touch (OwnN b m) w w5 := (T3.out.then hC).trans (Touch.of_turned ht5) (fun x hx hlt => by subst hx; exact (O3.out _ (.inr rfl)).resolve_right (by omega))
    have y0 : w5.cell? ⟨bx, 0, none⟩ = some (.int .i64 i) := by
      rw [(turned_cell ht5).1 _ _ (Ne.symm nr), hC.cell (p := ⟨bx, 0, none⟩) lx3]
      exact X0.out
    have lx5 : bx < w5.heap.size := by have := (turned_cell ht5).2.2; have := hC.size; omega
    rw [HNN.out] at H5
    have H5' := Lib.hid H5
    have T5' := Lib.hid T5
    clear H4 H5 T5 hm5 ht5 hC H3 A3 X0 T3
    go_wp2_with fail
    have S : ∀ w', Below w5.heap.size w5 w' → w'.cell? ⟨b, 1, none⟩ = some (.int .i64 last) ∧ w'.cell? ⟨bx, 0, none⟩ = some (.int .i64 i) := by
      intro w' hb
      obtain ⟨hc, _⟩ := bcell hb
      exact ⟨(H5'.out.below hb).last, (hc _ _ lx5).trans y0⟩
    apply wp_region_tail 8 _ (by kernel_rfl) (by kernel_rfl) (by kernel_rfl) (by decide) (fun w' => Below w5.heap.size w5 w') (fun w' w'' => Below w'.heap.size w' w'') (fun w' w'' h1 h2 => bl_trans h1 h2) (Below.refl _ _).drew
    simp only [List.take_succ_cons, List.take_zero, List.drop_succ_cons, List.drop_zero]
    repeat (first
      | (apply wpRel_skip (by rfl)
         simp only [Act.put, List.setIfInBounds_toArray, List.set_cons_zero, List.set_cons_succ])
      | (apply wpRel_fix (by rfl)
         · intro w' hC hf R hR
           go_simp
           exact hR _ (Below.refl _ _)
         simp only [Act.put, List.setIfInBounds_toArray, List.set_cons_zero, List.set_cons_succ]))
    refine wpRel_nil (fun w6 hC hf => ?_)
    clear S hf
    have H6 := Lib.hid (H5'.out.below hC)
    have T6 := Lib.hid (T5'.out.then hC)
    have hl6 := H6.out.last
    have hf6 := H6.out.flast
    have hlt6 := H6.out.lt
    clear H5' T5' hC y0
    go_wp2
    all_goals
      go_ret
      try subst hm
      refine ⟨rfl, some r3, ?_, Touch.setCell T6.out (.inl (.inl rfl)) _, O3.out⟩
      first
        | (obtain rfl : mx = last := by have := HMX.out; omega
           exact H6.out.setLast _)
        | (obtain rfl : mx = i := by have := HMX.out; omega
           exact H6.out.setLast _)
end Go.Proofs.YtjekpbkmhgfhoaaGreatDoor
end

section
/- The walk of package node's New. -/
namespace Go.Proofs.YtjekpbkmhgfhoaaGreatDoor
open Go Go.RowKit
set_option maxRecDepth 100000
set_option linter.unusedSimpArgs false
attribute [local go_sem] giv
variable {E : Nat → Addr} {B : Nat}

/-- A new node. -/
def newNd (i k : Int) : Nd := ⟨i, k, 0, 0, if k = 3 then { data := #[47] } else noText, if k = 2 then 1 else 0⟩

theorem NodesOut.trans {w w1 w2 : World} {b : Nat} {m m1 : Option Nat} {g2 : Int → Option Nd} {n2 : Nat} {l2 : Int}
    (ht : Touch (OwnN b m) w w1) (ho : ∀ x, OwnN b m1 x → OwnN b m x ∨ w.heap.size ≤ x) (k : NodesOut b m1 g2 n2 l2 w1 w2) : NodesOut b m g2 n2 l2 w w2 := by
  obtain ⟨m2, h1, h2, h3⟩ := k
  refine ⟨m2, h1, ht.trans h2 (fun x hx hlt => (ho x hx).resolve_right (by omega)), fun x hx => ?_⟩
  rcases h3 x hx with h | h
  · exact ho x h
  · exact .inr (Nat.le_trans ht.size h)

theorem below_drewN (w : World) (n : Nat) : Below w.heap.size w (w.drewN n) := ⟨rfl, rfl, rfl, Nat.le_refl _, fun _ _ => rfl⟩

theorem nnew_bad {w : World} {b : Nat} {k : Int} (hk : kindB k = false) (hE : Env E B w) :
    Calls Tryz.prog 105 #[.pointer (some ⟨b, 0, none⟩), .int .i64 k] w fun e w' => e = .returned (.tuple #[.int .i64 0, errV E 10]) ∧ Below w.heap.size w w' := by
  have he := hE.cell 10 (by decide)
  have hlt : 10 < w.heap.size := Nat.lt_of_lt_of_le (hE.glt 10 (by decide)) hE.size
  clear hE
  go_enter Tryz.func105, Tryz.ntmps105
  go_wp2_with fail
  refine (kind_any _ _).mono ?_
  rintro e w1 ⟨rfl, rfl⟩
  rw [hk]
  go_wp2
  go_quiet (fail)
  go_wp2
  go_ret2
  exact ⟨rfl, below_drewN _ _⟩

theorem nnew_full {w : World} {b : Nat} {m : Option Nat} {g : Int → Option Nd} {n : Nat} {last : Int} (h : NodesAt w b m g n last) {k : Int} (hk : kindB k = true) (hf : 512 ≤ n ∨ 16777215 ≤ last) (hE : Env E B w) :
    Calls Tryz.prog 105 #[.pointer (some ⟨b, 0, none⟩), .int .i64 k] w fun e w' => e = .returned (.tuple #[.int .i64 0, errV E 11]) ∧ Below w.heap.size w w' := by
  have he := hE.cell 11 (by decide)
  have hlt : 11 < w.heap.size := Nat.lt_of_lt_of_le (hE.glt 11 (by decide)) hE.size
  have hc := h.map
  have hl := h.last
  have hb := h.lt
  have H := Lib.hid h
  clear hE h
  by_cases h5 : (512 : Int) ≤ n
  all_goals
    have hd : (512 : Int) ≤ n ∨ ((512 : Int) ≤ n) = False := by first | exact .inl h5 | exact .inr (by simpa using h5)
    have hx : ¬ (512 : Int) ≤ n → 16777215 ≤ last := by omega
    go_enter Tryz.func105, Tryz.ntmps105
    go_wp2_with fail
    refine (kind_any _ _).mono ?_
    rintro e w1 ⟨rfl, rfl⟩
    rw [hk]
    go_wp2_with (at_len; refine wpList_mlen rfl _ _ rfl (nodes_len H.out _) ?_)
    go_quiet (fail)
    go_wp2
    go_ret2
    exact ⟨rfl, below_drewN _ _⟩

theorem newNd_valid {i k : Int} (hi : 1 ≤ i ∧ i ≤ 16777215) (hk : k = 1 ∨ k = 2 ∨ k = 3) : validB (newNd i k) = true := by
  rcases hk with rfl | rfl | rfl
  · simp [validB, newNd, idB, kindB, hi]; decide
  · simp [validB, newNd, idB, kindB, hi]; decide
  · simp [validB, newNd, idB, kindB, hi]; decide

theorem NodesOut.refl' {w w' : World} {b : Nat} {m : Option Nat} {g : Int → Option Nd} {n : Nat} {last : Int} (h : NodesAt w b m g n last) (hb : Below w.heap.size w w') : NodesOut b m g n last w w' :=
  ⟨m, h.below hb, Touch.of_below hb _, fun _ h => .inl h⟩

/-- Put of a new node, and the same Put once more. -/
theorem put_phase {w0 w' : World} {b : Nat} {m : Option Nat} {g : Int → Option Nd} {n : Nat} {last : Int} (x : Nd) (hid : x.id = last + 1) (hv : validB x = true) (hn : n < 512) (hg : g (last + 1) = none) (hE : Env E B w0)
    (hown : ∀ x, OwnN b m x → B ≤ x) (hC : NodesOut b m g n last w0 w' ∨ NodesOut b m (upd g (last + 1) x) (n + 1) (last + 1) w0 w') :
    Calls Tryz.prog 65 #[.pointer (some ⟨b, 0, none⟩), encN x] w' fun e w'' => e = .returned .nilIface ∧ NodesOut b m (upd g (last + 1) x) (n + 1) (last + 1) w0 w'' := by
  rcases hC with ⟨m1, h1, t1, o1⟩ | ⟨m1, h1, t1, o1⟩
  · refine (nput_ok h1 x hv (fun _ => hn) (hE.keep (t1.below hE.size hown))).mono fun e w'' ⟨he, ho⟩ => ⟨he, ?_⟩
    rw [hid, hg] at ho
    have hm : max last (last + 1) = last + 1 := by omega
    rw [hm] at ho
    exact NodesOut.trans t1 o1 ho
  · have hs : (upd g (last + 1) x) (last + 1) = some x := by simp [upd]
    refine (nput_ok h1 x hv (fun h => by rw [hid, hs] at h; cases h) (hE.keep (t1.below hE.size hown))).mono fun e w'' ⟨he, ho⟩ => ⟨he, ?_⟩
    rw [hid, hs] at ho
    have hm : max (last + 1) (last + 1) = last + 1 := by omega
    have hu : upd (upd g (last + 1) x) (last + 1) x = upd g (last + 1) x := by
      funext y
      simp only [upd]
      split <;> rfl
    rw [hm, hu] at ho
    exact NodesOut.trans t1 o1 ho

set_option maxHeartbeats 1000000 in
theorem nnew_ok {w : World} {b : Nat} {m : Option Nat} {g : Int → Option Nd} {n : Nat} {last : Int} (h : NodesAt w b m g n last) {k : Int} (hk : kindB k = true) (hn : n < 512) (hl : 0 ≤ last ∧ last < 16777215) (hg : g (last + 1) = none) (hE : Env E B w)
    (hown : ∀ x, OwnN b m x → B ≤ x) :
    Calls Tryz.prog 105 #[.pointer (some ⟨b, 0, none⟩), .int .i64 k] w fun e w' => e = .returned (.tuple #[.int .i64 (last + 1), .nilIface]) ∧ NodesOut b m (upd g (last + 1) (newNd (last + 1) k)) (n + 1) (last + 1) w w' := by
  have hk' : k = 1 ∨ k = 2 ∨ k = 3 := by simp [kindB] at hk; omega
  have hc := h.map
  have hla := h.last
  have hb := h.lt
  have h512 : ¬ (512 : Int) ≤ n := by omega
  have hfull : ¬ 16777215 ≤ last := by omega
  have hw : IntKind.i64.wrap (last + 1) = last + 1 := IntWalk.i64_in _ (by omega)
  have H := Lib.hid h
  have HE := Lib.hid hE
  clear hE h
  rcases hk' with rfl | rfl | rfl
  all_goals
    go_enter Tryz.func105, Tryz.ntmps105
    go_wp2_with fail
    refine (kind_any _ _).mono ?_
    rintro e w1 ⟨rfl, rfl⟩
    rw [hk]
    go_wp2_with (first | (at_len; refine wpList_mlen rfl _ _ rfl (nodes_len H.out _) ?_))
  · obtain ⟨w0, hw0⟩ : ∃ w0, w0 = w.alloc (.cells #[.int .i64 (last + 1), .int .i64 1, .int .i64 0, .int .i64 0, .string { data := #[] }, .int .i64 0] 59) := ⟨_, rfl⟩
    rw [← hw0]
    have hx : newNd (last + 1) 1 = ⟨last + 1, 1, 0, 0, { data := #[] }, 0⟩ := by simp [newNd]
    have hv : validB ⟨last + 1, 1, 0, 0, { data := #[] }, 0⟩ = true := hx ▸ newNd_valid (by omega) (by omega)
    have hb0 : Below w.heap.size w w0 := by rw [hw0]; exact bl_alloc (Below.refl _ _) _
    have x0 : w0.cell? ⟨w.heap.size, 0, none⟩ = some (.int .i64 (last + 1)) := by rw [hw0]; simp
    have x1 : w0.cell? ⟨w.heap.size, 1, none⟩ = some (.int .i64 1) := by rw [hw0]; simp
    have x2 : w0.cell? ⟨w.heap.size, 2, none⟩ = some (.int .i64 0) := by rw [hw0]; simp
    have x3 : w0.cell? ⟨w.heap.size, 3, none⟩ = some (.int .i64 0) := by rw [hw0]; simp
    have x4 : w0.cell? ⟨w.heap.size, 4, none⟩ = some (.string { data := #[] }) := by rw [hw0]; simp
    have x5 : w0.cell? ⟨w.heap.size, 5, none⟩ = some (.int .i64 0) := by rw [hw0]; simp
    have l6 : w.heap.size < w0.heap.size := by rw [hw0]; simp
    have no6 : ¬ OwnN b m w.heap.size := fun h => Nat.lt_irrefl _ (H.out.own_lt _ h)
    have HE0 := Lib.hid (HE.out.below hb0)
    have H0 := Lib.hid (H.out.below hb0)
    have TB := Lib.hid (Touch.of_below hb0 (OwnN b m))
    clear hw0 hb0 hc hla
    generalize w.heap.size = c6 at *
    obtain ⟨C1, hC1⟩ : ∃ C1 : World → Prop, C1 = fun w' => NodesOut b m g n last w0 w' := ⟨_, rfl⟩
    obtain ⟨C2, hC2⟩ : ∃ C2 : World → Prop, C2 = fun w' => NodesOut b m (upd g (last + 1) ⟨last + 1, 1, 0, 0, { data := #[] }, 0⟩) (n + 1) (last + 1) w0 w' := ⟨_, rfl⟩
    have tou : ∀ w', C1 w' ∨ C2 w' → Touch (OwnN b m) w0 w' := by
      intro w' h
      rw [hC1, hC2] at h
      rcases h with ⟨_, _, t, _⟩ | ⟨_, _, t, _⟩ <;> exact t
    have S : ∀ w', C1 w' ∨ C2 w' → w'.cell? ⟨c6, 0, none⟩ = some (.int .i64 (last + 1)) ∧ w'.cell? ⟨c6, 1, none⟩ = some (.int .i64 1) ∧ w'.cell? ⟨c6, 2, none⟩ = some (.int .i64 0) ∧ w'.cell? ⟨c6, 3, none⟩ = some (.int .i64 0) ∧
        w'.cell? ⟨c6, 4, none⟩ = some (.string { data := #[] }) ∧ w'.cell? ⟨c6, 5, none⟩ = some (.int .i64 0) := by
      intro w' h
      have t := tou w' h
      have hc : ∀ o, w'.cell? ⟨c6, o, none⟩ = w0.cell? ⟨c6, o, none⟩ := fun o => t.cell (p := ⟨c6, o, none⟩) l6 no6
      exact ⟨(hc _).trans x0, (hc _).trans x1, (hc _).trans x2, (hc _).trans x3, (hc _).trans x4, (hc _).trans x5⟩
    have PP : ∀ w', C1 w' ∨ C2 w' → Calls Tryz.prog 65 #[.pointer (some ⟨b, 0, none⟩), .agg #[.int .i64 (last + 1), .int .i64 1, .int .i64 0, .int .i64 0, .string { data := #[] }, .int .i64 0]] w' fun e w'' => e = .returned .nilIface ∧ C2 w'' := by
      intro w' h
      rw [hC1, hC2] at h
      rw [hC2]
      exact put_phase ⟨last + 1, 1, 0, 0, { data := #[] }, 0⟩ rfl hv hn hg HE0.out hown h
    have hC0 : C1 w0.drew := by rw [hC1]; exact NodesOut.refl' H0.out (Below.refl _ _).drew
    have fin : ∀ w', C2 w' → NodesOut b m (upd g (last + 1) (newNd (last + 1) 1)) (n + 1) (last + 1) w w' := by
      intro w' h
      rw [hx]
      rw [hC2] at h
      exact NodesOut.trans TB.out (fun _ h => .inl h) h
    have FIN := Lib.hid fin
    have PPH := Lib.hid PP
    clear x0 x1 x2 x3 x4 x5 tou hC1 hC2 fin PP
    apply wp_region_rel _ (by kernel_rfl) (by kernel_rfl) (fun w' => C1 w' ∨ C2 w') (fun w' w'' => (C1 w'' ∨ C2 w'') ∧ (C2 w' → C2 w'')) (fun w' w'' _ h2 => h2.1) (.inl hC0)
    repeat (first
      | (apply wpRel_fix (by rfl)
         · intro w' hC hf R hR
           go_simp
           exact hR _ ⟨hC, id⟩
         simp only [Act.put, List.setIfInBounds_toArray, List.set_cons_zero, List.set_cons_succ]))
    apply wpRel_rel (fun v w' => v = .nilIface ∧ C2 w') (by rfl) (fun v w' w'' h h2 => ⟨h.1, h2.2 h.2⟩)
    · intro w' hC hf R hR
      go_simp
      refine (PPH.out w' hC).mono ?_
      rintro e w3 ⟨rfl, hp⟩
      exact ⟨_, rfl, hR _ _ ⟨rfl, hp⟩ ⟨.inr hp, fun _ => hp⟩⟩
    intro v
    simp only [Act.put, List.setIfInBounds_toArray, List.set_cons_zero, List.set_cons_succ]
    repeat (first
      | (apply wpRel_fix (by rfl)
         · intro w' hC hf R hR
           go_simp
           exact hR _ ⟨hC, id⟩
         simp only [Act.put, List.setIfInBounds_toArray, List.set_cons_zero, List.set_cons_succ]))
    apply wpRel_fix (by rfl)
    · intro w' hC hf R hR
      obtain ⟨rfl, _⟩ := hf _ (List.mem_cons_self ..) (by kernel_rfl)
      go_simp
      exact hR _ ⟨hC, id⟩
    simp only [Act.put, List.setIfInBounds_toArray, List.set_cons_zero, List.set_cons_succ]
    refine wpRel_nil (fun w9 hC hf => ?_)
    obtain ⟨rfl, hp⟩ := hf _ (List.mem_cons_self ..)
    have HP := Lib.hid (FIN.out _ hp)
    clear S hf hC hp
    go_wp2
    go_ret2
    exact ⟨rfl, HP.out⟩
  · obtain ⟨w0, hw0⟩ : ∃ w0, w0 = w.alloc (.cells #[.int .i64 (last + 1), .int .i64 2, .int .i64 0, .int .i64 0, .string { data := #[] }, .int .i64 1] 59) := ⟨_, rfl⟩
    rw [← hw0]
    have hx : newNd (last + 1) 2 = ⟨last + 1, 2, 0, 0, { data := #[] }, 1⟩ := by simp [newNd]
    have hv : validB ⟨last + 1, 2, 0, 0, { data := #[] }, 1⟩ = true := hx ▸ newNd_valid (by omega) (by omega)
    have hb0 : Below w.heap.size w w0 := by rw [hw0]; exact bl_alloc (Below.refl _ _) _
    have x0 : w0.cell? ⟨w.heap.size, 0, none⟩ = some (.int .i64 (last + 1)) := by rw [hw0]; simp
    have x1 : w0.cell? ⟨w.heap.size, 1, none⟩ = some (.int .i64 2) := by rw [hw0]; simp
    have x2 : w0.cell? ⟨w.heap.size, 2, none⟩ = some (.int .i64 0) := by rw [hw0]; simp
    have x3 : w0.cell? ⟨w.heap.size, 3, none⟩ = some (.int .i64 0) := by rw [hw0]; simp
    have x4 : w0.cell? ⟨w.heap.size, 4, none⟩ = some (.string { data := #[] }) := by rw [hw0]; simp
    have x5 : w0.cell? ⟨w.heap.size, 5, none⟩ = some (.int .i64 1) := by rw [hw0]; simp
    have l6 : w.heap.size < w0.heap.size := by rw [hw0]; simp
    have no6 : ¬ OwnN b m w.heap.size := fun h => Nat.lt_irrefl _ (H.out.own_lt _ h)
    have HE0 := Lib.hid (HE.out.below hb0)
    have H0 := Lib.hid (H.out.below hb0)
    have TB := Lib.hid (Touch.of_below hb0 (OwnN b m))
    clear hw0 hb0 hc hla
    generalize w.heap.size = c6 at *
    obtain ⟨C1, hC1⟩ : ∃ C1 : World → Prop, C1 = fun w' => NodesOut b m g n last w0 w' := ⟨_, rfl⟩
    obtain ⟨C2, hC2⟩ : ∃ C2 : World → Prop, C2 = fun w' => NodesOut b m (upd g (last + 1) ⟨last + 1, 2, 0, 0, { data := #[] }, 1⟩) (n + 1) (last + 1) w0 w' := ⟨_, rfl⟩
    have tou : ∀ w', C1 w' ∨ C2 w' → Touch (OwnN b m) w0 w' := by
      intro w' h
      rw [hC1, hC2] at h
      rcases h with ⟨_, _, t, _⟩ | ⟨_, _, t, _⟩ <;> exact t
    have S : ∀ w', C1 w' ∨ C2 w' → w'.cell? ⟨c6, 0, none⟩ = some (.int .i64 (last + 1)) ∧ w'.cell? ⟨c6, 1, none⟩ = some (.int .i64 2) ∧ w'.cell? ⟨c6, 2, none⟩ = some (.int .i64 0) ∧ w'.cell? ⟨c6, 3, none⟩ = some (.int .i64 0) ∧
        w'.cell? ⟨c6, 4, none⟩ = some (.string { data := #[] }) ∧ w'.cell? ⟨c6, 5, none⟩ = some (.int .i64 1) := by
      intro w' h
      have t := tou w' h
      have hc : ∀ o, w'.cell? ⟨c6, o, none⟩ = w0.cell? ⟨c6, o, none⟩ := fun o => t.cell (p := ⟨c6, o, none⟩) l6 no6
      exact ⟨(hc _).trans x0, (hc _).trans x1, (hc _).trans x2, (hc _).trans x3, (hc _).trans x4, (hc _).trans x5⟩
    have PP : ∀ w', C1 w' ∨ C2 w' → Calls Tryz.prog 65 #[.pointer (some ⟨b, 0, none⟩), .agg #[.int .i64 (last + 1), .int .i64 2, .int .i64 0, .int .i64 0, .string { data := #[] }, .int .i64 1]] w' fun e w'' => e = .returned .nilIface ∧ C2 w'' := by
      intro w' h
      rw [hC1, hC2] at h
      rw [hC2]
      exact put_phase ⟨last + 1, 2, 0, 0, { data := #[] }, 1⟩ rfl hv hn hg HE0.out hown h
    have hC0 : C1 w0.drew := by rw [hC1]; exact NodesOut.refl' H0.out (Below.refl _ _).drew
    have fin : ∀ w', C2 w' → NodesOut b m (upd g (last + 1) (newNd (last + 1) 2)) (n + 1) (last + 1) w w' := by
      intro w' h
      rw [hx]
      rw [hC2] at h
      exact NodesOut.trans TB.out (fun _ h => .inl h) h
    have FIN := Lib.hid fin
    have PPH := Lib.hid PP
    clear x0 x1 x2 x3 x4 x5 tou hC1 hC2 fin PP
    apply wp_region_rel _ (by kernel_rfl) (by kernel_rfl) (fun w' => C1 w' ∨ C2 w') (fun w' w'' => (C1 w'' ∨ C2 w'') ∧ (C2 w' → C2 w'')) (fun w' w'' _ h2 => h2.1) (.inl hC0)
    repeat (first
      | (apply wpRel_fix (by rfl)
         · intro w' hC hf R hR
           go_simp
           exact hR _ ⟨hC, id⟩
         simp only [Act.put, List.setIfInBounds_toArray, List.set_cons_zero, List.set_cons_succ]))
    apply wpRel_rel (fun v w' => v = .nilIface ∧ C2 w') (by rfl) (fun v w' w'' h h2 => ⟨h.1, h2.2 h.2⟩)
    · intro w' hC hf R hR
      go_simp
      refine (PPH.out w' hC).mono ?_
      rintro e w3 ⟨rfl, hp⟩
      exact ⟨_, rfl, hR _ _ ⟨rfl, hp⟩ ⟨.inr hp, fun _ => hp⟩⟩
    intro v
    simp only [Act.put, List.setIfInBounds_toArray, List.set_cons_zero, List.set_cons_succ]
    repeat (first
      | (apply wpRel_fix (by rfl)
         · intro w' hC hf R hR
           go_simp
           exact hR _ ⟨hC, id⟩
         simp only [Act.put, List.setIfInBounds_toArray, List.set_cons_zero, List.set_cons_succ]))
    apply wpRel_fix (by rfl)
    · intro w' hC hf R hR
      obtain ⟨rfl, _⟩ := hf _ (List.mem_cons_self ..) (by kernel_rfl)
      go_simp
      exact hR _ ⟨hC, id⟩
    simp only [Act.put, List.setIfInBounds_toArray, List.set_cons_zero, List.set_cons_succ]
    refine wpRel_nil (fun w9 hC hf => ?_)
    obtain ⟨rfl, hp⟩ := hf _ (List.mem_cons_self ..)
    have HP := Lib.hid (FIN.out _ hp)
    clear S hf hC hp
    go_wp2
    go_ret2
    exact ⟨rfl, HP.out⟩
  · obtain ⟨w0, hw0⟩ : ∃ w0, w0 = w.alloc (.cells #[.int .i64 (last + 1), .int .i64 3, .int .i64 0, .int .i64 0, .string { data := #[47] }, .int .i64 0] 59) := ⟨_, rfl⟩
    rw [← hw0]
    have hx : newNd (last + 1) 3 = ⟨last + 1, 3, 0, 0, { data := #[47] }, 0⟩ := by simp [newNd]
    have hv : validB ⟨last + 1, 3, 0, 0, { data := #[47] }, 0⟩ = true := hx ▸ newNd_valid (by omega) (by omega)
    have hb0 : Below w.heap.size w w0 := by rw [hw0]; exact bl_alloc (Below.refl _ _) _
    have x0 : w0.cell? ⟨w.heap.size, 0, none⟩ = some (.int .i64 (last + 1)) := by rw [hw0]; simp
    have x1 : w0.cell? ⟨w.heap.size, 1, none⟩ = some (.int .i64 3) := by rw [hw0]; simp
    have x2 : w0.cell? ⟨w.heap.size, 2, none⟩ = some (.int .i64 0) := by rw [hw0]; simp
    have x3 : w0.cell? ⟨w.heap.size, 3, none⟩ = some (.int .i64 0) := by rw [hw0]; simp
    have x4 : w0.cell? ⟨w.heap.size, 4, none⟩ = some (.string { data := #[47] }) := by rw [hw0]; simp
    have x5 : w0.cell? ⟨w.heap.size, 5, none⟩ = some (.int .i64 0) := by rw [hw0]; simp
    have l6 : w.heap.size < w0.heap.size := by rw [hw0]; simp
    have no6 : ¬ OwnN b m w.heap.size := fun h => Nat.lt_irrefl _ (H.out.own_lt _ h)
    have HE0 := Lib.hid (HE.out.below hb0)
    have H0 := Lib.hid (H.out.below hb0)
    have TB := Lib.hid (Touch.of_below hb0 (OwnN b m))
    clear hw0 hb0 hc hla
    generalize w.heap.size = c6 at *
    obtain ⟨C1, hC1⟩ : ∃ C1 : World → Prop, C1 = fun w' => NodesOut b m g n last w0 w' := ⟨_, rfl⟩
    obtain ⟨C2, hC2⟩ : ∃ C2 : World → Prop, C2 = fun w' => NodesOut b m (upd g (last + 1) ⟨last + 1, 3, 0, 0, { data := #[47] }, 0⟩) (n + 1) (last + 1) w0 w' := ⟨_, rfl⟩
    have tou : ∀ w', C1 w' ∨ C2 w' → Touch (OwnN b m) w0 w' := by
      intro w' h
      rw [hC1, hC2] at h
      rcases h with ⟨_, _, t, _⟩ | ⟨_, _, t, _⟩ <;> exact t
    have S : ∀ w', C1 w' ∨ C2 w' → w'.cell? ⟨c6, 0, none⟩ = some (.int .i64 (last + 1)) ∧ w'.cell? ⟨c6, 1, none⟩ = some (.int .i64 3) ∧ w'.cell? ⟨c6, 2, none⟩ = some (.int .i64 0) ∧ w'.cell? ⟨c6, 3, none⟩ = some (.int .i64 0) ∧
        w'.cell? ⟨c6, 4, none⟩ = some (.string { data := #[47] }) ∧ w'.cell? ⟨c6, 5, none⟩ = some (.int .i64 0) := by
      intro w' h
      have t := tou w' h
      have hc : ∀ o, w'.cell? ⟨c6, o, none⟩ = w0.cell? ⟨c6, o, none⟩ := fun o => t.cell (p := ⟨c6, o, none⟩) l6 no6
      exact ⟨(hc _).trans x0, (hc _).trans x1, (hc _).trans x2, (hc _).trans x3, (hc _).trans x4, (hc _).trans x5⟩
    have PP : ∀ w', C1 w' ∨ C2 w' → Calls Tryz.prog 65 #[.pointer (some ⟨b, 0, none⟩), .agg #[.int .i64 (last + 1), .int .i64 3, .int .i64 0, .int .i64 0, .string { data := #[47] }, .int .i64 0]] w' fun e w'' => e = .returned .nilIface ∧ C2 w'' := by
      intro w' h
      rw [hC1, hC2] at h
      rw [hC2]
      exact put_phase ⟨last + 1, 3, 0, 0, { data := #[47] }, 0⟩ rfl hv hn hg HE0.out hown h
    have hC0 : C1 w0.drew := by rw [hC1]; exact NodesOut.refl' H0.out (Below.refl _ _).drew
    have fin : ∀ w', C2 w' → NodesOut b m (upd g (last + 1) (newNd (last + 1) 3)) (n + 1) (last + 1) w w' := by
      intro w' h
      rw [hx]
      rw [hC2] at h
      exact NodesOut.trans TB.out (fun _ h => .inl h) h
    have FIN := Lib.hid fin
    have PPH := Lib.hid PP
    clear x0 x1 x2 x3 x4 x5 tou hC1 hC2 fin PP
    apply wp_region_rel _ (by kernel_rfl) (by kernel_rfl) (fun w' => C1 w' ∨ C2 w') (fun w' w'' => (C1 w'' ∨ C2 w'') ∧ (C2 w' → C2 w'')) (fun w' w'' _ h2 => h2.1) (.inl hC0)
    repeat (first
      | (apply wpRel_fix (by rfl)
         · intro w' hC hf R hR
           go_simp
           exact hR _ ⟨hC, id⟩
         simp only [Act.put, List.setIfInBounds_toArray, List.set_cons_zero, List.set_cons_succ]))
    apply wpRel_rel (fun v w' => v = .nilIface ∧ C2 w') (by rfl) (fun v w' w'' h h2 => ⟨h.1, h2.2 h.2⟩)
    · intro w' hC hf R hR
      go_simp
      refine (PPH.out w' hC).mono ?_
      rintro e w3 ⟨rfl, hp⟩
      exact ⟨_, rfl, hR _ _ ⟨rfl, hp⟩ ⟨.inr hp, fun _ => hp⟩⟩
    intro v
    simp only [Act.put, List.setIfInBounds_toArray, List.set_cons_zero, List.set_cons_succ]
    repeat (first
      | (apply wpRel_fix (by rfl)
         · intro w' hC hf R hR
           go_simp
           exact hR _ ⟨hC, id⟩
         simp only [Act.put, List.setIfInBounds_toArray, List.set_cons_zero, List.set_cons_succ]))
    apply wpRel_fix (by rfl)
    · intro w' hC hf R hR
      obtain ⟨rfl, _⟩ := hf _ (List.mem_cons_self ..) (by kernel_rfl)
      go_simp
      exact hR _ ⟨hC, id⟩
    simp only [Act.put, List.setIfInBounds_toArray, List.set_cons_zero, List.set_cons_succ]
    refine wpRel_nil (fun w9 hC hf => ?_)
    obtain ⟨rfl, hp⟩ := hf _ (List.mem_cons_self ..)
    have HP := Lib.hid (FIN.out _ hp)
    clear S hf hC hp
    go_wp2
    go_ret2
    exact ⟨rfl, HP.out⟩
end Go.Proofs.YtjekpbkmhgfhoaaGreatDoor
end

section
/- A law's own node table beside its own blocks; the law's small helpers (first, Number). -/
namespace Go.Proofs.YtjekpbkmhgfhoaaGreatDoor
open Go Go.RowKit
set_option maxRecDepth 100000
set_option linter.unusedSimpArgs false
attribute [local go_sem] giv
variable {E : Nat → Addr} {B : Nat}

/-- A law's own table: its blocks are from B on and not among L. -/
def NB (B : Nat) (L : List Nat) (w : World) (b : Nat) (g : Int → Option Nd) (n : Nat) (last : Int) : Prop :=
  B ≤ w.heap.size ∧ (∀ x ∈ L, x < w.heap.size) ∧ ∃ m, NodesAt w b m g n last ∧ ∀ x, OwnN b m x → B ≤ x ∧ x ∉ L

section
variable {L : List Nat} {w w' : World} {b n : Nat} {g : Int → Option Nd} {last : Int}
end

theorem number_any (x k : Int) (hk : 0 < k ∧ k ≤ 4611686018427387904) (w : World) : Calls Tryz.prog 6 #[.int .i64 x, .int .i64 k] w fun e w' => e = .returned (.int .i64 (x % k)) ∧ w = w' := by
  have h1 := Int.emod_nonneg x (b := k) (by omega)
  have h2 := Int.emod_lt_of_pos x (b := k) (by omega)
  have h3 := Int.tmod_eq_emod (a := x) (b := k)
  have h4 : (0 ≤ x.tmod k → x.tmod k = x % k) ∧ (x.tmod k < 0 → x.tmod k + k = x % k) := by
    split at h3 <;> omega
  have h5 : x.tmod k < 0 → wrap64 (x.tmod k + k) = x % k := fun h => by
    rw [h4.2 h]
    unfold wrap64
    omega
  have H4 := Lib.hid h4
  have H5 := Lib.hid h5
  clear h1 h2 h3 h4 h5
  go_enter Tryz.func6, Tryz.ntmps6
  go_wp2
  · go_ret
    exact ⟨ret_int (H5.out (by assumption)), rfl⟩
  · go_ret
    exact ⟨ret_int (H4.out.1 (by assumption)), rfl⟩
end Go.Proofs.YtjekpbkmhgfhoaaGreatDoor
end

section
/- The walks of package node's table: Put where there are too many, Del. -/
namespace Go.Proofs.YtjekpbkmhgfhoaaGreatDoor
open Go Go.RowKit
set_option maxRecDepth 100000
set_option linter.unusedSimpArgs false
attribute [local go_sem] giv
variable {E : Nat → Addr} {B : Nat}

theorem ndel_any {w : World} {b : Nat} {m : Option Nat} {g : Int → Option Nd} {n : Nat} {last : Int} (h : NodesAt w b m g n last) {k : Int} (hk : -9223372036854775808 ≤ k ∧ k ≤ 9223372036854775807) :
    Calls Tryz.prog 147 #[.pointer (some ⟨b, 0, none⟩), .int .i64 k] w fun e w' => e = .returned (.bool (g k).isSome) ∧
      NodesOut b m (del g k) (if (g k).isSome then n - 1 else n) last w w' := by
  have hc := h.map
  have hlt := h.lt
  have H := Lib.hid h
  clear h
  generalize hnn : (if (g k).isSome = true then n - 1 else n) = n'
  have HNN := Lib.hid hnn
  clear hnn
  cases m with
  | none =>
    go_enter Tryz.func147, Tryz.ntmps147
    generalize hx : (g k).getD noNd = x at *
    obtain ⟨i, kd, l, s, t, p⟩ := x
    go_wp2_with (first
      | (at_lookup; refine wpList_look rfl _ _ _ _ rfl (nodes_look H.out hk) ?_; rw [hx]; unfold encN)
      | (at_delete; refine wpList_drop rfl _ _ _ _ rfl ⟨_, Maps.drop_nil kdInt Tryz.underlying152 (keyI hk) _, rfl⟩ ?_; rintro w' rfl))
    go_ret
    have hg : g k = none := H.out.made.2 k
    refine ⟨rfl, none, ?_, ?_, fun _ h => .inl h⟩
    · have h2 := H.out.below (bl_alloc (Below.refl _ _) (.cells #[.int .i64 i, .int .i64 kd, .int .i64 l, .int .i64 s, .string t, .int .i64 p] 59))
      have e1 : del g k = g := by
        funext x
        unfold del
        split
        · subst x; exact hg.symm
        · rfl
      have e2 : n = n' := by
        have := HNN.out
        rw [hg] at this
        simpa using this
      rw [e1, ← e2]
      exact h2
    · exact Touch.alloc (Touch.refl _ _) _
  | some r =>
    have nr : w.heap.size ≠ r := by have := H.out.own_lt r (.inr rfl); omega
    go_enter Tryz.func147, Tryz.ntmps147
    generalize hx : (g k).getD noNd = x at *
    obtain ⟨i, kd, l, s, t, p⟩ := x
    go_wp2_with (first
      | (at_lookup; refine wpList_look rfl _ _ _ _ rfl (nodes_look H.out hk) ?_; rw [hx]; unfold encN)
      | (at_delete
         apply wpList_drop rfl _ _ _ _ rfl
         · exact (H.out.made.2.alloc _).drop kdInt Tryz.underlying152 inj64 (keyI hk) _
         rintro w2 ⟨hm2, ht2⟩
         have FT := Lib.hid (HNN.out ▸ ((H.out.below (bl_alloc (Below.refl _ _) _)).turned hm2 ht2))
         have TT := Lib.hid (Touch.of_turned ht2)
         clear hm2 ht2))
    go_ret
    exact ⟨rfl, some r, FT.out, (Touch.alloc (Touch.refl _ _) _).trans TT.out (fun x hx _ => .inr (by rw [hx])), fun _ h => .inl h⟩

section
variable {L : List Nat} {w w' : World} {b n : Nat} {g : Int → Option Nd} {last : Int}
end
end Go.Proofs.YtjekpbkmhgfhoaaGreatDoor
end

section
/- The walks of package open: Open, Get, Move, Close over a file table that is a function of its numbers. -/
namespace Go.Proofs.YtjekpbkmhgfhoaaGreatDoor
open Go Go.RowKit
set_option maxRecDepth 100000

/-- A handle: node, place. -/
def encH (h : Int × Int) : Value := .agg #[.int .i64 h.1, .int .i64 h.2]

abbrev FMap (w : World) (r : Nat) (g : Int → Option (Int × Int)) (n : Nat) : Prop := MapAt Tryz.prog 3 (Value.int .i64) encH w r g n

/-- The block b holds a file table: its map's block m (none: not made), what it has, how many. -/
def FilesAt (w : World) (b : Nat) (m : Option Nat) (g : Int → Option (Int × Int)) (n : Nat) : Prop :=
  w.cell? ⟨b, 0, none⟩ = some (.map m) ∧ w.frozen? ⟨b, 0, none⟩ = false ∧ b < w.heap.size ∧
    match m with
    | none => n = 0 ∧ ∀ k, g k = none
    | some r => r ≠ b ∧ FMap w r g n

/-- The blocks of a table. -/
def Own (b : Nat) (m : Option Nat) : Nat → Prop := fun x => x = b ∨ m = some x

theorem FilesAt.touch {S : Nat → Prop} {w w' : World} {b : Nat} {m : Option Nat} {g : Int → Option (Int × Int)} {n : Nat} (h : FilesAt w b m g n) (ht : Touch S w w') (hn : ∀ x, Own b m x → ¬ S x) : FilesAt w' b m g n := by
  obtain ⟨h1, h2, h3, h4⟩ := h
  have hb := hn b (.inl rfl)
  refine ⟨(ht.cell (p := ⟨b, 0, none⟩) h3 hb).trans h1, (ht.frozen (p := ⟨b, 0, none⟩) h3 hb).trans h2, Nat.lt_of_lt_of_le h3 ht.size, ?_⟩
  cases m with
  | none => exact h4
  | some r => exact ⟨h4.1, h4.2.touch ht (hn r (.inr rfl))⟩
theorem FilesAt.below {w w' : World} {b : Nat} {m : Option Nat} {g : Int → Option (Int × Int)} {n : Nat} (h : FilesAt w b m g n) (hb : Below w.heap.size w w') : FilesAt w' b m g n :=
  h.touch (Touch.of_below hb NoB) (fun _ _ h => h)

theorem keyedInt : Maps.Keyed Tryz.prog 3 := Maps.int_keyed Tryz.underlying3
theorem int_inj : ∀ a b : Int, Value.int .i64 a = Value.int .i64 b → a = b := fun _ _ h => by cases h; rfl
theorem wf64 {a : Int} (h : -9223372036854775808 ≤ a ∧ a ≤ 9223372036854775807) : (Lit.int .i64 a).wf = true := by
  simp [Lit.wf, IntKind.min, IntKind.max, IntKind.signed, IntKind.bits]; omega
theorem keyInt {a : Int} (h : -9223372036854775808 ≤ a ∧ a ≤ 9223372036854775807) : keyOf Tryz.prog 3 (.int .i64 a) = some (.int .i64 a) := Maps.keyOf_int_mk Tryz.underlying3 (wf64 h)
theorem zeroH (w : World) : (zeroValue 68).run Tryz.prog w = .ok (.agg #[.int .i64 0, .int .i64 0]) w := by kernel_rfl

/-- Behind a write into the table's map. -/
theorem files_turned {w w' : World} {b r n n' : Nat} {g g' : Int → Option (Int × Int)} (h : FilesAt w b (some r) g n) (hm : FMap w' r g' n') (ht : w.mapTurned w' r) : FilesAt w' b (some r) g' n' ∧ Touch (fun x => x = r) w w' := by
  obtain ⟨h1, h2, h3, h4, _⟩ := h
  obtain ⟨c1, c2, c3⟩ := turned_cell ht
  exact ⟨⟨(c1 _ _ (Ne.symm h4)).trans h1, (c2 _ _ (Ne.symm h4)).trans h2, by omega, h4, hm⟩, Touch.of_turned ht⟩

attribute [local go_sem] giv

variable {E : Nat → Addr} {B : Nat}

/-- A look-up in the table's map, nil or not. -/
theorem files_look {w : World} {b : Nat} {m : Option Nat} {g : Int → Option (Int × Int)} {n : Nat} (h : FilesAt w b m g n) {k : Int} (hk : -9223372036854775808 ≤ k ∧ k ≤ 9223372036854775807) :
    (Instr.lookup 110 (.map m) (.int .i64 k) true).run Tryz.prog w = .ok (match g k with | some h => .tuple #[.agg #[.int .i64 h.1, .int .i64 h.2], .bool true] | none => .tuple #[.agg #[.int .i64 0, .int .i64 0], .bool false]) w := by
  obtain ⟨_, _, _, h4⟩ := h
  cases m with
  | none =>
    obtain ⟨_, hg⟩ := h4
    rw [hg k]
    exact Maps.look_nil true keyedInt Tryz.underlying110 (zeroH w) (keyInt hk)
  | some r =>
    obtain ⟨_, hm⟩ := h4
    cases hg : g k with
    | none => exact hm.look_none keyedInt Tryz.underlying110 int_inj (zeroH w) (keyInt hk) hg true
    | some h => exact hm.look_some keyedInt Tryz.underlying110 int_inj (keyInt hk) hg true

theorem files_len {w : World} {b : Nat} {m : Option Nat} {g : Int → Option (Int × Int)} {n : Nat} (h : FilesAt w b m g n) (ty : TypeId) :
    (Builtin.len_ #[110] ty #[.map m]).run Tryz.prog w = .ok (.int .i64 n) w := by
  obtain ⟨_, _, _, h4⟩ := h
  cases m with
  | none =>
    obtain ⟨rfl, _⟩ := h4
    exact Maps.len_nil Tryz.underlying110 ty
  | some r => exact h4.2.len Tryz.underlying110 ty

theorem get_some {w : World} {b : Nat} {m : Option Nat} {g : Int → Option (Int × Int)} {n : Nat} (h : FilesAt w b m g n) {k : Int} (hk : -9223372036854775808 ≤ k ∧ k ≤ 9223372036854775807) {nd ps : Int} (hg : g k = some (nd, ps)) :
    Calls Tryz.prog 58 #[.pointer (some ⟨b, 0, none⟩), .int .i64 k] w fun e w' => e = .returned (.tuple #[.agg #[.int .i64 nd, .int .i64 ps], .nilIface]) ∧ Below w.heap.size w w' := by
  have hc := h.1
  have hlt := h.2.2.1
  have HF := Lib.hid h
  have HG := Lib.hid hg
  clear h hg
  go_enter Tryz.func58, Tryz.ntmps58
  go_wp2_with (at_lookup; refine wpList_look rfl _ _ _ _ rfl (files_look (HF.out.below (bl_alloc (Below.refl _ _) _)) hk) ?_; rw [HG.out])
  refine bodyPost_ret (v := .tuple #[.agg #[.int .i64 nd, .int .i64 ps], .nilIface]) (by simp [results, Tryz.results58, go_sem]) rfl ⟨rfl, ?_⟩
  exact bl_alloc (bl_alloc (Below.refl _ _) _) _

theorem get_none {w : World} {b : Nat} {m : Option Nat} {g : Int → Option (Int × Int)} {n : Nat} (h : FilesAt w b m g n) {k : Int} (hk : -9223372036854775808 ≤ k ∧ k ≤ 9223372036854775807) (hg : g k = none) (hE : Env E B w) :
    Calls Tryz.prog 58 #[.pointer (some ⟨b, 0, none⟩), .int .i64 k] w fun e w' => e = .returned (.tuple #[.agg #[.int .i64 0, .int .i64 0], errV E 9]) ∧ Below w.heap.size w w' := by
  have hc := h.1
  have hlt := h.2.2.1
  have HF := Lib.hid h
  have HG := Lib.hid hg
  have he := hE.cell 9 (by decide)
  have hl2 : 9 < w.heap.size := Nat.lt_of_lt_of_le (hE.glt 9 (by decide)) hE.size
  clear h hg
  go_enter Tryz.func58, Tryz.ntmps58
  go_wp2_with (at_lookup; refine wpList_look rfl _ _ _ _ rfl (files_look (HF.out.below (bl_alloc (Below.refl _ _) _)) hk) ?_; rw [HG.out])
  go_region
  go_wp2
  refine bodyPost_ret (v := .tuple #[.agg #[.int .i64 0, .int .i64 0], errV E 9]) (by simp [results, Tryz.results58, go_sem]) rfl ⟨rfl, ?_⟩
  repeat (first | exact Below.refl _ _ | refine bl_alloc ?_ _ | refine Below.drew ?_)

/-- What an operation that writes leaves: the table, its blocks. -/
def FilesOut (b : Nat) (m : Option Nat) (g' : Int → Option (Int × Int)) (n' : Nat) (w w' : World) : Prop :=
  ∃ m', FilesAt w' b m' g' n' ∧ Touch (Own b m) w w' ∧ ∀ x, Own b m' x → Own b m x ∨ w.heap.size ≤ x

theorem move_bad {w : World} {b : Nat} {m : Option Nat} {g : Int → Option (Int × Int)} {n : Nat} (h : FilesAt w b m g n) {k p : Int} (hk : -9223372036854775808 ≤ k ∧ k ≤ 9223372036854775807) (hg : g k = none) (hE : Env E B w) :
    Calls Tryz.prog 42 #[.pointer (some ⟨b, 0, none⟩), .int .i64 k, .int .i64 p] w fun e w' => e = .returned (errV E 9) ∧ Below w.heap.size w w' := by
  go_enter Tryz.func42, Tryz.ntmps42
  go_wp2_with fail
  refine (get_none h hk hg hE).mono ?_
  rintro e w1 ⟨rfl, hb⟩
  go_wp2
  go_ret
  exact ⟨rfl, bl_alloc hb _⟩

set_option maxRecDepth 100000 in
theorem move_in {w : World} {b : Nat} {m : Option Nat} {g : Int → Option (Int × Int)} {n : Nat} (h : FilesAt w b m g n) {k p : Int} (hk : -9223372036854775808 ≤ k ∧ k ≤ 9223372036854775807) {nd ps : Int} (hg : g k = some (nd, ps))
    (hp : 0 ≤ p ∧ p ≤ 1099511627776) :
    Calls Tryz.prog 42 #[.pointer (some ⟨b, 0, none⟩), .int .i64 k, .int .i64 p] w fun e w' => e = .returned .nilIface ∧ FilesOut b m (upd g k (nd, p)) n w w' := by
  obtain ⟨r, rfl⟩ : ∃ r, m = some r := by
    cases m with
    | none => obtain ⟨_, _, _, _, h4⟩ := h; rw [h4 k] at hg; cases hg
    | some r => exact ⟨r, rfl⟩
  have hlt := h.2.2.1
  have hrlt : r < w.heap.size := h.2.2.2.2.lt
  have hrb : r ≠ b := h.2.2.2.1
  have hgs : (g k).isSome = true := by rw [hg]; rfl
  have HG := Lib.hid hgs
  have HF := Lib.hid h
  have hp0 : ¬ p < 0 := by omega
  have hp1 : ¬ 1099511627776 < p := by omega
  clear hgs
  go_enter Tryz.func42, Tryz.ntmps42
  go_wp2_with fail
  refine (get_some h hk hg).mono ?_
  rintro e w1 ⟨rfl, hb⟩
  have h1 := h.below hb
  have hc1 := h1.1
  have hlt1 := h1.2.2.1
  have hrlt1 := h1.2.2.2.2.lt
  have HF1 := Lib.hid h1
  clear h h1 hg
  go_wp2
  obtain ⟨w2, hw2⟩ : ∃ w2, w2 = w1.alloc (.cells #[.int .i64 nd, .int .i64 p] 68) := ⟨_, rfl⟩
  have hb2 : Below w1.heap.size w1 w2 := by rw [hw2]; exact bl_alloc (Below.refl _ _) _
  have k0 : w2.cell? ⟨w1.heap.size, 0, none⟩ = some (.int .i64 nd) := by rw [hw2]; simp
  have k1 : w2.cell? ⟨w1.heap.size, 1, none⟩ = some (.int .i64 p) := by rw [hw2]; simp
  have hl2 : w1.heap.size < w2.heap.size := by rw [hw2]; simp
  have h2 := HF1.out.below hb2
  rw [← hw2]
  clear hw2
  have S : ∀ w', Below w2.heap.size w2 w' → w'.cell? ⟨b, 0, none⟩ = some (.map (some r)) ∧ w'.cell? ⟨w1.heap.size, 0, none⟩ = some (.int .i64 nd) ∧ w'.cell? ⟨w1.heap.size, 1, none⟩ = some (.int .i64 p) := by
    intro w' hb
    obtain ⟨hc, _⟩ := bcell hb
    exact ⟨(h2.below hb).1, (hc _ _ hl2).trans k0, (hc _ _ hl2).trans k1⟩
  have H2 := Lib.hid h2
  clear k0 k1 h2
  apply wp_region_tail 6 _ (by kernel_rfl) (by kernel_rfl) (by kernel_rfl) (by decide) (fun w' => Below w2.heap.size w2 w') (fun w' w'' => Below w'.heap.size w' w'') (fun w' w'' h1 h2 => bl_trans h1 h2) (Below.refl _ _).drew
  simp only [List.take_succ_cons, List.take_zero, List.drop_succ_cons, List.drop_zero]
  repeat (first
    | (apply wpRel_skip (by rfl)
       simp only [Act.put, List.setIfInBounds_toArray, List.set_cons_zero, List.set_cons_succ])
    | (apply wpRel_fix (by rfl)
       · intro w' hC hf R hR
         go_simp
         exact hR _ (Below.refl _ _)
       simp only [Act.put, List.setIfInBounds_toArray, List.set_cons_zero, List.set_cons_succ]))
  refine wpRel_nil (fun w3 hC hf => ?_)
  have h3 := H2.out.below hC
  apply wpList_upd rfl _ _ _ _ rfl
  · exact h3.2.2.2.2.put keyedInt Tryz.underlying110 int_inj (keyInt hk) (nd, p)
  rintro w4 ⟨hm4, ht4⟩
  have ht : Touch (Own b (some r)) w w4 := by
    refine (((Touch.of_below hb _).then hb2).then hC).trans (Touch.of_turned ht4) ?_
    rintro x rfl _
    exact .inr rfl
  have hF4 : FilesAt w4 b (some r) (upd g k (nd, p)) n := by
    have t4 := Touch.of_turned ht4
    refine ⟨(t4.cell (p := ⟨b, 0, none⟩) h3.2.2.1 (Ne.symm hrb)).trans h3.1, (t4.frozen (p := ⟨b, 0, none⟩) h3.2.2.1 (Ne.symm hrb)).trans h3.2.1, Nat.lt_of_lt_of_le h3.2.2.1 t4.size, hrb, ?_⟩
    rw [HG.out, if_pos rfl] at hm4
    exact hm4
  have HT := Lib.hid ht
  have HF4 := Lib.hid hF4
  clear ht hF4 hm4 ht4
  go_wp2
  go_ret
  exact ⟨rfl, some r, HF4.out, HT.out, fun x hx => .inl hx⟩

theorem close_none {w : World} {b : Nat} {m : Option Nat} {g : Int → Option (Int × Int)} {n : Nat} (h : FilesAt w b m g n) {k : Int} (hk : -9223372036854775808 ≤ k ∧ k ≤ 9223372036854775807) (hg : g k = none) (hE : Env E B w) :
    Calls Tryz.prog 36 #[.pointer (some ⟨b, 0, none⟩), .int .i64 k] w fun e w' => e = .returned (.tuple #[.agg #[.int .i64 0, .int .i64 0], errV E 9]) ∧ Below w.heap.size w w' := by
  have hw0 : Below w.heap.size w (w.alloc (.cells #[.int .i64 0, .int .i64 0] 68)) := bl_alloc (Below.refl _ _) _
  go_enter Tryz.func36, Tryz.ntmps36
  go_wp2_with fail
  refine (get_none (h.below hw0) hk hg (hE.below hw0)).mono ?_
  rintro e w1 ⟨rfl, hb⟩
  obtain ⟨hc, hs⟩ := bcell hb
  have hf := bfroz hb
  have hs' : w.heap.size < w1.heap.size := by simp at hs; omega
  go_wp2
  refine bodyPost_ret (v := .tuple #[.agg #[.int .i64 0, .int .i64 0], errV E 9]) (by simp [results, Tryz.results36, go_sem, hc, hs']) rfl ⟨rfl, ?_⟩
  have hb1 : Below w.heap.size w w1 := hw0.trans (hb.mono (by simp))
  repeat (first | exact hb1 | exact Below.refl _ _ | refine Below.alloc ?_ (by simp <;> omega) _ | refine Below.setCell ?_ (by simp <;> omega) _ | refine Below.drew ?_)

theorem close_some {w : World} {b : Nat} {m : Option Nat} {g : Int → Option (Int × Int)} {n : Nat} (h : FilesAt w b m g n) {k : Int} (hk : -9223372036854775808 ≤ k ∧ k ≤ 9223372036854775807) {nd ps : Int} (hg : g k = some (nd, ps)) :
    Calls Tryz.prog 36 #[.pointer (some ⟨b, 0, none⟩), .int .i64 k] w fun e w' => e = .returned (.tuple #[.agg #[.int .i64 nd, .int .i64 ps], .nilIface]) ∧ FilesOut b m (del g k) (n - 1) w w' := by
  obtain ⟨r, rfl⟩ : ∃ r, m = some r := by
    cases m with
    | none => obtain ⟨_, _, _, _, h4⟩ := h; rw [h4 k] at hg; cases hg
    | some r => exact ⟨r, rfl⟩
  have hrb : r ≠ b := h.2.2.2.1
  have hgs : (g k).isSome = true := by rw [hg]; rfl
  have HG := Lib.hid hgs
  have hw0 : Below w.heap.size w (w.alloc (.cells #[.int .i64 0, .int .i64 0] 68)) := bl_alloc (Below.refl _ _) _
  clear hgs
  go_enter Tryz.func36, Tryz.ntmps36
  go_wp2_with fail
  refine (get_some (h.below hw0) hk hg).mono ?_
  rintro e w1 ⟨rfl, hb⟩
  obtain ⟨hc, hs⟩ := bcell hb
  have hf := bfroz hb
  have hs' : w.heap.size < w1.heap.size := by simp at hs; omega
  have hb1 : Below w.heap.size w w1 := hw0.trans (hb.mono (by simp))
  have hbw : b < w.heap.size := h.2.2.1
  have hbw1 : b < w1.heap.size := by omega
  have h1 := h.below hb1
  have hc0 := h.1
  have H1 := Lib.hid h1
  have hrlt := h.2.2.2.2.lt
  clear h h1 hg
  have nr0 : w.heap.size ≠ r := by omega
  have nr1 : w1.heap.size ≠ r := by omega
  go_wp2_with (at_delete
               apply wpList_drop rfl _ _ _ _ rfl
               · exact (H1.out.2.2.2.2.alloc _).drop keyedInt Tryz.underlying110 int_inj (keyInt hk) _
               rw [if_pos HG.out]
               rintro w2 ⟨hm2, ht2⟩
               obtain ⟨c1, c2, c3⟩ := turned_cell ht2
               have FT := Lib.hid (files_turned (H1.out.below (bl_alloc (Below.refl _ _) _)) hm2 ht2)
               clear hm2 ht2)
  refine bodyPost_ret (v := .tuple #[.agg #[.int .i64 nd, .int .i64 ps], .nilIface]) (by simp [results, Tryz.results36, go_sem, c1, nr0, hc, hs']) rfl ⟨rfl, some r, ?_, ?_, fun x hx => .inl hx⟩
  · refine FT.out.1.touch (S := fun x => x = w.heap.size) ?_ ?_
    · refine Touch.setCell ?_ ?_ _
      · refine Touch.setCell ?_ ?_ _
        · exact Touch.refl _ _
        · exact .inl rfl
      · exact .inl rfl
    · rintro x hx rfl
      rcases hx with hx | hx
      · omega
      · injection hx with hx
        omega
  · refine Touch.setCell (Touch.setCell ?_ (.inr (Nat.le_refl _)) _) (.inr (Nat.le_refl _)) _
    exact ((Touch.of_below hb1 _).alloc _).trans FT.out.2 (fun x hx _ => .inr (by rw [hx]))

set_option maxHeartbeats 400000 in
theorem open_ok {w : World} {b : Nat} {m : Option Nat} {g : Int → Option (Int × Int)} {n : Nat} (h : FilesAt w b m g n) (node : Int) {k : Nat} (hk : k < 16) (hbusy : ∀ j : Nat, j < k → g j ≠ none) (hg : g k = none) :
    Calls Tryz.prog 26 #[.pointer (some ⟨b, 0, none⟩), .int .i64 node] w fun e w' => e = .returned (.tuple #[.int .i64 k, .nilIface]) ∧ FilesOut b m (upd g k (node, 0)) (n + 1) w w' := by
  have H := Lib.hid h
  have HB := Lib.hid hbusy
  have HG := Lib.hid hg
  clear h hbusy hg
  go_enter Tryz.func26, Tryz.ntmps26
  go_wp2_with fail
  go_loopw [9] (fun v wr => ∃ j : Nat, j ≤ k ∧ v = .int .i64 j ∧ Below w.heap.size w wr) (fun v _ => 16 - (intOf v).toNat)
  case atStart => exact ⟨0, Nat.zero_le _, rfl, Below.refl _ _⟩
  case round =>
    obtain ⟨j, hj, rfl, hb⟩ := hrel
    have hr := H.out.below hb
    have hc := hr.1
    have hfz := hr.2.1
    have hlt := hr.2.2.1
    have HR := Lib.hid hr
    clear hr
    have hj16 : j < 16 := by omega
    by_cases hjk : j < k
    · obtain ⟨nd, ps, hgj⟩ : ∃ nd ps, g j = some (nd, ps) := by
        cases hg : g j with
        | none => exact absurd hg (HB.out j hjk)
        | some v => exact ⟨v.1, v.2, rfl⟩
      have HGJ := Lib.hid hgj
      clear hgj
      go_wp2_with (at_lookup; refine wpList_look rfl _ _ _ _ rfl (files_look HR.out (by omega)) ?_; rw [HGJ.out])
      go_roundw
      case rel => exact ⟨j + 1, by omega, by go_num, bl_alloc hb _⟩
      case measure => simp [intOf]; omega
    · obtain rfl : j = k := by omega
      clear hjk hj hj16
      have hmm := @run_makeMap Tryz.prog
      by_cases hn0 : n = 0
      · subst hn0
        have hz : (((0 : Nat) : Int) == 0) = true := rfl
        have hgn : ∀ x, g x = none := by
          obtain ⟨_, _, _, h4⟩ := HR.out
          cases m with
          | none => exact h4.2
          | some r => exact h4.2.empty
        have HGN := Lib.hid hgn
        clear hgn
        go_wp2_with (first
          | (at_lookup; refine wpList_look rfl _ _ _ _ rfl (files_look HR.out (by omega)) ?_; rw [HG.out])
          | (at_len; refine wpList_mlen rfl _ _ rfl (files_len (HR.out.below (bl_alloc (Below.refl _ _) _)) _) ?_)
          | (at_mapUpdate
             apply wpList_upd rfl _ _ _ _ rfl
             · exact (mapAt_new' Tryz.prog 3 (Value.int .i64) encH _ (by simp)).put keyedInt Tryz.underlying110 int_inj (keyInt (by omega)) (node, 0)
             rintro w2 ⟨hm2, ht2⟩
             have FM := Lib.hid hm2
             have FT := Lib.hid ht2
             clear hm2 ht2))
        go_ret2
        refine ⟨rfl, some (wr.heap.size + 1), ?_, ?_, ?_⟩
        · obtain ⟨c1, c2, c3⟩ := turned_cell FT.out
          have hg' : upd g (j : Int) (node, 0) = upd (fun _ => none) (j : Int) (node, 0) := by
            funext x
            simp only [upd, HGN.out x]
          refine ⟨?_, ?_, ?_, by omega, ?_⟩
          · rw [c1 _ _ (by omega)]
            go_simp
          · rw [c2 _ _ (by omega)]
            go_simp
          · rw [c3]
            simp
            omega
          · rw [hg']
            simpa using FM.out
        · refine Touch.trans (S := Own b m) ?_ (Touch.of_turned FT.out) ?_
          · refine Touch.alloc (Touch.alloc (Touch.setCell (Touch.of_below hb _) (.inl (.inl rfl)) _) _) _
          · rintro x rfl hx
            have := hb.size
            omega
        · rintro x (rfl | hx)
          · exact .inl (.inl rfl)
          · injection hx with hx
            have := hb.size
            exact .inr (by omega)
      · have hz : ((n : Int) == 0) = false := by rw [beq_eq_false_iff_ne]; omega
        obtain ⟨r, rfl⟩ : ∃ r, m = some r := by
          cases m with
          | none => exact absurd HR.out.2.2.2.1 hn0
          | some r => exact ⟨r, rfl⟩
        go_wp2_with (first
          | (at_lookup; refine wpList_look rfl _ _ _ _ rfl (files_look HR.out (by omega)) ?_; rw [HG.out])
          | (at_len; refine wpList_mlen rfl _ _ rfl (files_len (HR.out.below (bl_alloc (Below.refl _ _) _)) _) ?_)
          | (at_mapUpdate
             apply wpList_upd rfl _ _ _ _ rfl
             · exact (HR.out.2.2.2.2.alloc _).put keyedInt Tryz.underlying110 int_inj (keyInt (by omega)) (node, 0)
             rintro w2 ⟨hm2, ht2⟩
             have FM := Lib.hid hm2
             have FT := Lib.hid ht2
             clear hm2 ht2))
        go_ret2
        have hm2 := FM.out
        rw [HG.out] at hm2
        obtain ⟨f1, f2⟩ := files_turned (HR.out.below (bl_alloc (Below.refl _ _) _)) hm2 FT.out
        refine ⟨rfl, some r, by simpa using f1, ?_, fun x hx => .inl hx⟩
        exact ((Touch.of_below hb _).alloc _).trans f2 (fun x hx _ => .inr (by rw [hx]))

theorem open_full {w : World} {b : Nat} {m : Option Nat} {g : Int → Option (Int × Int)} {n : Nat} (h : FilesAt w b m g n) (node : Int) (hbusy : ∀ j : Nat, j < 16 → g j ≠ none) (hE : Env E B w) :
    Calls Tryz.prog 26 #[.pointer (some ⟨b, 0, none⟩), .int .i64 node] w fun e w' => e = .returned (.tuple #[.int .i64 0, errV E 4]) ∧ Below w.heap.size w w' := by
  have H := Lib.hid h
  have HB := Lib.hid hbusy
  have HE := Lib.hid hE
  clear h hbusy hE
  go_enter Tryz.func26, Tryz.ntmps26
  go_wp2_with fail
  go_loopw [9] (fun v wr => ∃ j : Nat, j ≤ 16 ∧ v = .int .i64 j ∧ Below w.heap.size w wr) (fun v _ => 16 - (intOf v).toNat)
  case atStart => exact ⟨0, Nat.zero_le _, rfl, Below.refl _ _⟩
  case round =>
    obtain ⟨j, hj, rfl, hb⟩ := hrel
    have hr := H.out.below hb
    have hc := hr.1
    have hlt := hr.2.2.1
    have HR := Lib.hid hr
    clear hr
    by_cases hjk : j < 16
    · obtain ⟨nd, ps, hgj⟩ : ∃ nd ps, g j = some (nd, ps) := by
        cases hg : g j with
        | none => exact absurd hg (HB.out j hjk)
        | some v => exact ⟨v.1, v.2, rfl⟩
      have HGJ := Lib.hid hgj
      clear hgj
      go_wp2_with (at_lookup; refine wpList_look rfl _ _ _ _ rfl (files_look HR.out (by omega)) ?_; rw [HGJ.out])
      go_roundw
      case rel => exact ⟨j + 1, by omega, by go_num, bl_alloc hb _⟩
      case measure => simp [intOf]; omega
    · obtain rfl : j = 16 := by omega
      have he := (HE.out.below hb).cell 4 (by decide)
      go_wp2
      go_quiet (fail)
      go_wp2
      go_ret2
      exact ⟨rfl, hb.os, hb.tape, hb.output, hb.size, hb.block⟩
end Go.Proofs.YtjekpbkmhgfhoaaGreatDoor
end
