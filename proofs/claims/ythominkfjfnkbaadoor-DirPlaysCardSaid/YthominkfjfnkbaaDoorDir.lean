/- The walks of package dir over a directory that is a function of its names: may, Get, Len, Set. -/
import Derived.Test.YthominkfjfnkbaaDoorName
import Derived.Test.YthominkfjfnkbaaDoorRow
import Derived.Test.YthominkfjfnkbaaDoorShape
import Derived.Test.YthominkfjfnkbaaDoorRegion
import Derived.Deep.QuietTactic
import Derived.BigQuiet
import Derived.Outline
namespace Go.Proofs.YthominkfjfnkbaaDoor
open Go Go.RowKit
set_option maxRecDepth 100000
set_option linter.unusedSimpArgs false

/-- An entry. -/
structure En where
  name : ByteArray
  node : Int
  kind : Int
def encE (e : En) : Value := .agg #[.string e.name, .int .i64 e.node, .int .i64 e.kind]
def mayB (e : En) : Bool := decide (1 ≤ e.node) && (decide (e.node ≤ 16777215) && (decide (1 ≤ e.kind) && decide (e.kind ≤ 3)))
def noEn : En := ⟨{ data := #[] }, 0, 0⟩

abbrev EMap (w : World) (r : Nat) (g : ByteArray → Option En) (n : Nat) : Prop := MapAt Tryd.prog 9 Value.string encE w r g n

/-- Block b is a directory: its map's block m (none: not made), what it has, how many. -/
def DirAt (w : World) (b : Nat) (m : Option Nat) (g : ByteArray → Option En) (n : Nat) : Prop :=
  w.cell? ⟨b, 0, none⟩ = some (.map m) ∧ w.frozen? ⟨b, 0, none⟩ = false ∧ b < w.heap.size ∧
    match m with
    | none => n = 0 ∧ ∀ k, g k = none
    | some r => r ≠ b ∧ EMap w r g n
/-- The blocks of a directory. -/
def OwnD (b : Nat) (m : Option Nat) : Nat → Prop := fun x => x = b ∨ m = some x

section
variable {w w' : World} {b n : Nat} {m : Option Nat} {g : ByteArray → Option En}
theorem DirAt.touch {S : Nat → Prop} (h : DirAt w b m g n) (ht : Touch S w w') (hn : ∀ x, OwnD b m x → ¬ S x) : DirAt w' b m g n := by
  obtain ⟨h1, h2, h3, h4⟩ := h
  have hb := hn b (.inl rfl)
  refine ⟨(ht.cell (p := ⟨b, 0, none⟩) h3 hb).trans h1, (ht.frozen (p := ⟨b, 0, none⟩) h3 hb).trans h2, Nat.lt_of_lt_of_le h3 ht.size, ?_⟩
  cases m with
  | none => exact h4
  | some r => exact ⟨h4.1, h4.2.touch ht (hn r (.inr rfl))⟩
theorem DirAt.below (h : DirAt w b m g n) (hb : Below w.heap.size w w') : DirAt w' b m g n := h.touch (Touch.of_below hb NoB) (fun _ _ h => h)
theorem DirAt.own_lt (h : DirAt w b m g n) : ∀ x, OwnD b m x → x < w.heap.size := by
  rintro x (rfl | hx)
  · exact h.2.2.1
  · subst hx; exact h.2.2.2.2.lt
theorem DirAt.turned {r n' : Nat} {g' : ByteArray → Option En} (h : DirAt w b (some r) g n) (hm : EMap w' r g' n') (ht : w.mapTurned w' r) : DirAt w' b (some r) g' n' := by
  obtain ⟨h1, h2, h3, h4, _⟩ := h
  obtain ⟨c1, c2, c3⟩ := turned_cell ht
  exact ⟨(c1 _ _ (Ne.symm h4)).trans h1, (c2 _ _ (Ne.symm h4)).trans h2, by omega, h4, hm⟩

theorem kdStr : Maps.Keyed Tryd.prog 9 := Maps.string_keyed Tryd.underlying9
theorem str_inj : ∀ a b : ByteArray, Value.string a = Value.string b → a = b := fun _ _ h => by cases h; rfl
theorem keyS {s : ByteArray} (h : s.size ≤ maxLen) : ∃ l, keyOf Tryd.prog 9 (.string s) = some l := ⟨_, WideMaps.keyOf_string_mk Tryd.underlying9 h⟩
theorem zeroE (w : World) : (zeroValue 84).run Tryd.prog w = .ok (encE noEn) w := by kernel_rfl

theorem dir_look (h : DirAt w b m g n) {k : ByteArray} (hk : k.size ≤ maxLen) :
    (Instr.lookup 79 (.map m) (.string k) true).run Tryd.prog w = .ok (.tuple #[encE ((g k).getD noEn), .bool (g k).isSome]) w := by
  obtain ⟨_, _, _, h4⟩ := h
  obtain ⟨l, hl⟩ := keyS hk
  cases m with
  | none =>
    obtain ⟨_, hg⟩ := h4
    rw [hg k]
    exact Maps.look_nil true kdStr Tryd.underlying79 (zeroE w) hl
  | some r =>
    obtain ⟨_, hm⟩ := h4
    cases hg : g k with
    | none => exact hm.look_none kdStr Tryd.underlying79 str_inj (zeroE w) hl hg true
    | some h => exact hm.look_some kdStr Tryd.underlying79 str_inj hl hg true
theorem dir_len (h : DirAt w b m g n) (ty : TypeId) : (Builtin.len_ #[79] ty #[.map m]).run Tryd.prog w = .ok (.int .i64 n) w := by
  obtain ⟨_, _, _, h4⟩ := h
  cases m with
  | none =>
    obtain ⟨rfl, _⟩ := h4
    exact Maps.len_nil Tryd.underlying79 ty
  | some r => exact h4.2.len Tryd.underlying79 ty
end

attribute [local go_sem] giv
variable {E : Nat → Addr} {B : Nat}

theorem dmay_any (e : En) (w : World) : Calls Tryd.prog 94 #[encE e] w fun x w' => x = .returned (.bool (mayB e)) ∧ Below w.heap.size w w' := by
  obtain ⟨nm, nd, kd⟩ := e
  generalize hr : mayB ⟨nm, nd, kd⟩ = r
  have HR := Lib.hid hr
  clear hr
  unfold encE
  by_cases h1 : 1 ≤ nd
  · by_cases h2 : nd ≤ 16777215
    · by_cases h3 : 1 ≤ kd
      · have hr : r = decide (kd ≤ 3) := by rw [← HR.out]; simp [mayB, h1, h2, h3]
        subst hr
        go_enter Tryd.func94, Tryd.ntmps94
        go_wp2
        go_ret
        exact ⟨ret_bool (by simp), bl_alloc (Below.refl _ _) _⟩
      · have hr : r = false := by rw [← HR.out]; simp [mayB, h3]
        subst hr
        have h3' : decide (1 ≤ kd) = false := decide_eq_false h3
        go_enter Tryd.func94, Tryd.ntmps94
        go_wp2
        go_ret
        exact ⟨rfl, bl_alloc (Below.refl _ _) _⟩
    · have hr : r = false := by rw [← HR.out]; simp [mayB, h2]
      subst hr
      have h3' : decide (nd ≤ 16777215) = false := decide_eq_false h2
      go_enter Tryd.func94, Tryd.ntmps94
      go_wp2
      go_ret
      exact ⟨rfl, bl_alloc (Below.refl _ _) _⟩
  · have hr : r = false := by rw [← HR.out]; simp [mayB, h1]
    subst hr
    have h3' : decide (1 ≤ nd) = false := decide_eq_false h1
    go_enter Tryd.func94, Tryd.ntmps94
    go_wp2
    go_ret
    exact ⟨rfl, bl_alloc (Below.refl _ _) _⟩

section
variable {w : World} {b n : Nat} {m : Option Nat} {g : ByteArray → Option En}
theorem dlen_any (h : DirAt w b m g n) : Calls Tryd.prog 58 #[.pointer (some ⟨b, 0, none⟩)] w fun e w' => e = .returned (.int .i64 n) ∧ w = w' := by
  have hc := h.1
  have hlt := h.2.2.1
  have H := Lib.hid h
  clear h
  go_enter Tryd.func58, Tryd.ntmps58
  go_wp2_with (at_len; refine wpList_mlen rfl _ _ rfl (dir_len H.out _) ?_)
  go_ret
  exact ⟨rfl, rfl⟩
theorem dget_any (h : DirAt w b m g n) {k : ByteArray} (hk : k.size ≤ maxLen) :
    Calls Tryd.prog 57 #[.pointer (some ⟨b, 0, none⟩), .string k] w fun e w' => e = .returned (.tuple #[encE ((g k).getD noEn), .bool (g k).isSome]) ∧ Below w.heap.size w w' := by
  have hc := h.1
  have hlt := h.2.2.1
  have H := Lib.hid h
  clear h
  go_enter Tryd.func57, Tryd.ntmps57
  generalize hx : (g k).getD noEn = x at *
  obtain ⟨nm, nd, kd⟩ := x
  go_wp2_with (at_lookup; refine wpList_look rfl _ _ _ _ rfl (dir_look (H.out.below (bl_alloc (Below.refl _ _) _)) hk) ?_; rw [hx]; unfold encE)
  refine bodyPost_ret (v := .tuple #[encE ⟨nm, nd, kd⟩, .bool (g k).isSome]) (by simp [results, Tryd.results57, go_sem, encE]) rfl ⟨rfl, ?_⟩
  exact bl_alloc (bl_alloc (Below.refl _ _) _) _
end
end Go.Proofs.YthominkfjfnkbaaDoor
