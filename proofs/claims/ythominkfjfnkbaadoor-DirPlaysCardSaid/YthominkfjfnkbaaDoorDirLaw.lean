/- A law's own directory beside its own blocks; the law's first. -/
import Derived.Test.YthominkfjfnkbaaDoorDirAdd
import Derived.Test.YthominkfjfnkbaaDoorDirList
import Derived.Test.YthominkfjfnkbaaDoorNodeLaw
namespace Go.Proofs.YthominkfjfnkbaaDoor
open Go Go.RowKit
set_option maxRecDepth 100000
set_option linter.unusedSimpArgs false
attribute [local go_sem] giv
variable {E : Nat → Addr} {B : Nat}

/-- A law's own directory: its blocks are from B on and not among L. -/
def DB (B : Nat) (L : List Nat) (w : World) (b : Nat) (g : ByteArray → Option En) (n : Nat) : Prop :=
  B ≤ w.heap.size ∧ (∀ x ∈ L, x < w.heap.size) ∧ ∃ m, DirAt w b m g n ∧ ∀ x, OwnD b m x → B ≤ x ∧ x ∉ L

section
variable {L : List Nat} {w w' : World} {b n : Nat} {g : ByteArray → Option En}
theorem DB.new (w : World) (hB : B ≤ w.heap.size) (hL : ∀ x ∈ L, x < w.heap.size) : DB B L (w.alloc (.cells #[.map none] 81)) w.heap.size (fun _ => none) 0 := by
  refine ⟨by simp; omega, fun x hx => by have := hL x hx; simp; omega, none, ⟨by simp, by simp, by simp, rfl, fun _ => rfl⟩, ?_⟩
  rintro x (rfl | h)
  · exact ⟨hB, fun hx => by have := hL _ hx; omega⟩
  · cases h
theorem DB.below (h : DB B L w b g n) (hb : Below w.heap.size w w') : DB B L w' b g n ∧ Kept B L w w' := by
  obtain ⟨h1, h2, m, h3, h4⟩ := h
  exact ⟨⟨Nat.le_trans h1 hb.size, fun x hx => Nat.lt_of_lt_of_le (h2 x hx) hb.size, m, h3.below hb, h4⟩, Kept.of_below hb h1 h2⟩
/-- A new block of the law's own beside it. -/
theorem DB.loc (h : DB B L w b g n) (o : Obj) : DB B (w.heap.size :: L) (w.alloc o) b g n := by
  obtain ⟨h1, h2, m, h3, h4⟩ := h
  refine ⟨by simp; omega, fun x hx => ?_, m, h3.below (bl_alloc (Below.refl _ _) _), fun x hx => ⟨(h4 x hx).1, fun hl => ?_⟩⟩
  · rcases List.mem_cons.1 hx with rfl | hx
    · simp
    · have := h2 x hx; simp; omega
  · rcases List.mem_cons.1 hl with rfl | hl
    · exact absurd (h3.own_lt _ hx) (Nat.lt_irrefl _)
    · exact (h4 x hx).2 hl
/-- A block of the law's own is written. -/
theorem DB.set (h : DB B L w b g n) {p : Addr} (hp : p.block ∈ L) (u : Value) : DB B L (w.setCell p u) b g n := by
  obtain ⟨h1, h2, m, h3, h4⟩ := h
  refine ⟨by simpa using h1, fun x hx => by simpa using h2 x hx, m, h3.touch (S := fun x => x = p.block) (Touch.setCell (S := fun x => x = p.block) (Touch.refl _ _) (.inl rfl) _) ?_, h4⟩
  rintro x hx rfl
  exact (h4 _ hx).2 hp
theorem DB.out {m : Option Nat} {g' : ByteArray → Option En} {n' : Nat} (hB : B ≤ w.heap.size) (hL : ∀ x ∈ L, x < w.heap.size) (ho : ∀ x, OwnD b m x → B ≤ x ∧ x ∉ L)
    (h : DirOut b m g' n' w w') : DB B L w' b g' n' ∧ Kept B L w w' := by
  obtain ⟨m', h1, h2, h3⟩ := h
  refine ⟨⟨Nat.le_trans hB h2.size, fun x hx => Nat.lt_of_lt_of_le (hL x hx) h2.size, m', h1, fun x hx => ?_⟩, Kept.of_touch h2 hB hL ho⟩
  rcases h3 x hx with h | h
  · exact ho x h
  · exact ⟨Nat.le_trans hB h, fun hl => by have := hL x hl; omega⟩

theorem db_len (h : DB B L w b g n) : Calls Tryd.prog 58 #[.pointer (some ⟨b, 0, none⟩)] w fun e w' => e = .returned (.int .i64 n) ∧ w = w' := by
  obtain ⟨_, _, m, h3, _⟩ := h
  exact dlen_any h3
theorem db_get (h : DB B L w b g n) {k : ByteArray} (hk : k.size ≤ maxLen) :
    Calls Tryd.prog 57 #[.pointer (some ⟨b, 0, none⟩), .string k] w fun e w' => e = .returned (.tuple #[encE ((g k).getD noEn), .bool (g k).isSome]) ∧ DB B L w' b g n ∧ Kept B L w w' := by
  have h' := h
  obtain ⟨_, _, m, h3, _⟩ := h
  exact (dget_any h3 hk).mono fun e w' ⟨he, hb⟩ => ⟨he, h'.below hb⟩
theorem db_add_no (h : DB B L w b g n) (e : En) (hk : e.name.size ≤ maxLen) (hno : addCode g e ≠ 0) (hE : Env E B w) :
    Calls Tryd.prog 54 #[.pointer (some ⟨b, 0, none⟩), encE e] w fun x w' => x = .returned (errOf E (addCode g e)) ∧ DB B L w' b g n ∧ Kept B L w w' := by
  have h' := h
  obtain ⟨_, _, m, h3, _⟩ := h
  exact (dadd_no h3 e hk hno hE).mono fun e w' ⟨he, hb⟩ => ⟨he, h'.below hb⟩
theorem db_add (h : DB B L w b g n) (e : En) (hyes : addCode g e = 0) (hE : Env E B w) :
    Calls Tryd.prog 54 #[.pointer (some ⟨b, 0, none⟩), encE e] w fun x w' => x = .returned .nilIface ∧ DB B L w' b (upd g e.name e) (n + 1) ∧ Kept B L w w' := by
  obtain ⟨h1, h2, m, h3, h4⟩ := h
  exact (dadd_ok h3 e hyes hE).mono fun e w' ⟨he, ho⟩ => ⟨he, DB.out h1 h2 h4 ho⟩
theorem db_set_no (h : DB B L w b g n) {k : ByteArray} (hk : k.size ≤ maxLen) (e : En) (hno : g k = none ∨ mayB e = false) :
    Calls Tryd.prog 56 #[.pointer (some ⟨b, 0, none⟩), .string k, encE e] w fun x w' => x = .returned (.bool false) ∧ DB B L w' b g n ∧ Kept B L w w' := by
  have h' := h
  obtain ⟨_, _, m, h3, _⟩ := h
  exact (dset_no h3 hk e hno).mono fun e w' ⟨he, hb⟩ => ⟨he, h'.below hb⟩
theorem db_set (h : DB B L w b g n) {k : ByteArray} (hk : k.size ≤ maxLen) (e : En) (hs : (g k).isSome = true) (hmay : mayB e = true) :
    Calls Tryd.prog 56 #[.pointer (some ⟨b, 0, none⟩), .string k, encE e] w fun x w' => x = .returned (.bool true) ∧ DB B L w' b (upd g k ⟨k, e.node, e.kind⟩) n ∧ Kept B L w w' := by
  obtain ⟨h1, h2, m, h3, h4⟩ := h
  exact (dset_yes h3 hk e hs hmay).mono fun e w' ⟨he, ho⟩ => ⟨he, DB.out h1 h2 h4 ho⟩
theorem db_del (h : DB B L w b g n) {k : ByteArray} (hk : k.size ≤ maxLen) :
    Calls Tryd.prog 70 #[.pointer (some ⟨b, 0, none⟩), .string k] w fun e w' => e = .returned (.tuple #[encE ((g k).getD noEn), .bool (g k).isSome]) ∧ DB B L w' b (del g k) (if (g k).isSome then n - 1 else n) ∧ Kept B L w w' := by
  obtain ⟨h1, h2, m, h3, h4⟩ := h
  exact (ddel_any h3 hk).mono fun e w' ⟨he, ho⟩ => ⟨he, DB.out h1 h2 h4 ho⟩
theorem db_all (h : DB B L w b g n) (hn : n ≤ 1000000) (hs : ∀ k, (g k).isSome = true → k.size ≤ maxLen) :
    Calls Tryd.prog 55 #[.pointer (some ⟨b, 0, none⟩)] w fun e w' =>
      (∃ v ks, e = .returned v ∧ SlEn w' w.heap.size v (entsOf g ks) ∧ SortedNames g ks ∧ ks.length = n) ∧ (∀ x, w.heap.size ≤ x → x < w'.heap.size → DB B (x :: L) w' b g n) ∧ DB B L w' b g n ∧ Kept B L w w' := by
  have h' := h
  obtain ⟨h1, h2, m, h3, h4⟩ := h
  refine (dall_any h3 hn hs).mono fun e w' ⟨he, hb⟩ => ⟨he, fun x hx hx' => ?_, h'.below hb⟩
  obtain ⟨⟨a1, a2, _⟩, _⟩ := h'.below hb
  refine ⟨a1, fun y hy => ?_, m, h3.below hb, fun y hy => ⟨(h4 y hy).1, fun hl => ?_⟩⟩
  · rcases List.mem_cons.1 hy with rfl | hy
    · exact hx'
    · exact a2 y hy
  · rcases List.mem_cons.1 hl with rfl | hl
    · have := h3.own_lt _ hy; omega
    · exact (h4 y hy).2 hl
end

theorem nmSpecial_eq (s : ByteArray) : nmSpecial s = (s.data.toList == [46] || s.data.toList == [46, 46]) := by
  unfold nmSpecial
  rw [ByteArray.toList_eq]

theorem first14 (w : World) (hE : Env E B w) : Calls Tryd.prog 53 #[] w fun e w' => e = .returned (.bool true) ∧ Below w.heap.size w w' := by
  have HE := Lib.hid (hE.top.alloc (.cells #[.map none] 81))
  clear hE
  have hac : addCode (fun _ => none) ⟨{ data := #[46] }, 2, 1⟩ = 114 := by simp only [addCode, nmSpecial_eq]; decide
  have HAC := Lib.hid hac
  clear hac
  go_enter Tryd.func53, Tryd.ntmps53
  go_wp2_with fail
  refine (db_add_no (DB.new (L := []) w (Nat.le_refl _) (by simp)) ⟨{ data := #[46] }, 2, 1⟩ (by unfold maxLen; decide) (by rw [HAC.out]; decide) HE.out).mono ?_
  rintro e w1 ⟨rfl, _, t1⟩
  rw [HAC.out]
  have hb := (bl_alloc (Below.refl _ _) _).trans t1.below
  have HE1 := Lib.hid (HE.out.keep t1.below)
  clear t1
  go_wp2_with fail
  refine (is_of 114 114 (by omega) _ HE1.out).mono ?_
  rintro e w2 ⟨rfl, hb2⟩
  have HB := Lib.hid (hb.trans (hb2.mono hb.size))
  clear hb hb2
  go_wp2
  go_ret
  exact ⟨rfl, HB.out⟩
end Go.Proofs.YthominkfjfnkbaaDoor
