/- Merged texts: DirList DirLaw. -/
import Derived.Test.YtjmbilbkmcebeaaDoorBase09
import Derived.Test.YtjmbilbkmcebeaaDoorBase14
import Derived.Test.YtjmbilbkmcebeaaDoorBase08
import Derived.Test.YtjmbilbkmcebeaaDoorBase16
section
/- The walk of package dir: All. -/
namespace Go.Proofs.YtjmbilbkmcebeaaDoor
open Go Go.RowKit
set_option maxRecDepth 100000
set_option linter.unusedSimpArgs false
attribute [local go_sem] giv
variable {E : Nat → Addr} {B : Nat}

/-- The entries of names. -/
def entsOf (g : ByteArray → Option En) (ks : List ByteArray) : List En := ks.map fun k => (g k).getD noEn
theorem entsOf_len (g : ByteArray → Option En) (ks : List ByteArray) : (entsOf g ks).length = ks.length := by simp [entsOf]
theorem entsOf_succ (g : ByteArray → Option En) {ks : List ByteArray} {j : Nat} (h : j < ks.length) : entsOf g (ks.take (j + 1)) = entsOf g (ks.take j) ++ [(g ks[j]).getD noEn] := by
  rw [entsOf, List.take_succ_eq_append_getElem h, List.map_append]; rfl

theorem dir_look1 {w : World} {b n : Nat} {m : Option Nat} {g : ByteArray → Option En} (h : DirAt w b m g n) {k : ByteArray} (hk : k.size ≤ maxLen) :
    (Instr.lookup 147 (.map m) (.string k) false).run Tryd.prog w = .ok (encE ((g k).getD noEn)) w := by
  obtain ⟨_, _, _, h4⟩ := h
  obtain ⟨l, hl⟩ := keyS hk
  cases m with
  | none =>
    obtain ⟨_, hg⟩ := h4
    rw [hg k]
    exact Maps.look_nil false kdStr Tryd.underlying147 (zeroE w) hl
  | some r =>
    obtain ⟨_, hm⟩ := h4
    cases hg : g k with
    | none => exact hm.look_none kdStr Tryd.underlying147 str_inj (zeroE w) hl hg false
    | some h => exact hm.look_some kdStr Tryd.underlying147 str_inj hl hg false

theorem wrap_next {j : Nat} (h : j < 1000000) : wrap64 ((j : Int) + 1) = ((j + 1 : Nat) : Int) := by unfold wrap64; omega

theorem app_max {j : Nat} (h : j < 1000000) : j + 1 ≤ maxLen := by unfold maxLen; omega
theorem app_bytes {j k : Nat} (hk : k ≤ 1000) (h : j < 1000000) : (j + 1) * k ≤ 140737488355328 := by
  have : (j + 1) * k ≤ 1000000 * 1000 := Nat.mul_le_mul (by omega) hk
  omega

end Go.Proofs.YtjmbilbkmcebeaaDoor
end

section
/- A law's own directory beside its own blocks; the law's first. -/
namespace Go.Proofs.YtjmbilbkmcebeaaDoor
open Go Go.RowKit
set_option maxRecDepth 100000
set_option linter.unusedSimpArgs false
attribute [local go_sem] giv
variable {E : Nat → Addr} {B : Nat}

/-- A law's own directory: its blocks are from B on and not among L. -/
def DB (B : Nat) (L : List Nat) (w : World) (b : Nat) (g : ByteArray → Option En) (n : Nat) : Prop :=
  B ≤ w.heap.size ∧ (∀ x ∈ L, x < w.heap.size) ∧ ∃ m, DirAt w b m g n ∧ ∀ x, OwnD b m x → B ≤ x ∧ x ∉ L

section
variable {L : List Nat} {w w' : World} {b n : Nat} {g : ByteArray → Option En}
theorem DB.new (w : World) (hB : B ≤ w.heap.size) (hL : ∀ x ∈ L, x < w.heap.size) : DB B L (w.alloc (.cells #[.map none] 149)) w.heap.size (fun _ => none) 0 := by
  refine ⟨by simp; omega, fun x hx => by have := hL x hx; simp; omega, none, ⟨by simp, by simp, by simp, rfl, fun _ => rfl⟩, ?_⟩
  rintro x (rfl | h)
  · exact ⟨hB, fun hx => by have := hL _ hx; omega⟩
  · cases h
theorem DB.below (h : DB B L w b g n) (hb : Below w.heap.size w w') : DB B L w' b g n ∧ Kept B L w w' := by
  obtain ⟨h1, h2, m, h3, h4⟩ := h
  exact ⟨⟨Nat.le_trans h1 hb.size, fun x hx => Nat.lt_of_lt_of_le (h2 x hx) hb.size, m, h3.below hb, h4⟩, Kept.of_below hb h1 h2⟩
/-- A new block of the law's own beside it. -/
theorem DB.loc (h : DB B L w b g n) (o : Obj) : DB B (w.heap.size :: L) (w.alloc o) b g n := by
  obtain ⟨h1, h2, m, h3, h4⟩ := h
  refine ⟨by simp; omega, fun x hx => ?_, m, h3.below (bl_alloc (Below.refl _ _) _), fun x hx => ⟨(h4 x hx).1, fun hl => ?_⟩⟩
  · rcases List.mem_cons.1 hx with rfl | hx
    · simp
    · have := h2 x hx; simp; omega
  · rcases List.mem_cons.1 hl with rfl | hl
    · exact absurd (h3.own_lt _ hx) (Nat.lt_irrefl _)
    · exact (h4 x hx).2 hl
/-- A block of the law's own is written. -/
theorem DB.set (h : DB B L w b g n) {p : Addr} (hp : p.block ∈ L) (u : Value) : DB B L (w.setCell p u) b g n := by
  obtain ⟨h1, h2, m, h3, h4⟩ := h
  refine ⟨by simpa using h1, fun x hx => by simpa using h2 x hx, m, h3.touch (S := fun x => x = p.block) (Touch.setCell (S := fun x => x = p.block) (Touch.refl _ _) (.inl rfl) _) ?_, h4⟩
  rintro x hx rfl
  exact (h4 _ hx).2 hp
theorem DB.out {m : Option Nat} {g' : ByteArray → Option En} {n' : Nat} (hB : B ≤ w.heap.size) (hL : ∀ x ∈ L, x < w.heap.size) (ho : ∀ x, OwnD b m x → B ≤ x ∧ x ∉ L)
    (h : DirOut b m g' n' w w') : DB B L w' b g' n' ∧ Kept B L w w' := by
  obtain ⟨m', h1, h2, h3⟩ := h
  refine ⟨⟨Nat.le_trans hB h2.size, fun x hx => Nat.lt_of_lt_of_le (hL x hx) h2.size, m', h1, fun x hx => ?_⟩, Kept.of_touch h2 hB hL ho⟩
  rcases h3 x hx with h | h
  · exact ho x h
  · exact ⟨Nat.le_trans hB h, fun hl => by have := hL x hl; omega⟩

theorem db_len (h : DB B L w b g n) : Calls Tryd.prog 95 #[.pointer (some ⟨b, 0, none⟩)] w fun e w' => e = .returned (.int .i64 n) ∧ w = w' := by
  obtain ⟨_, _, m, h3, _⟩ := h
  exact dlen_any h3
theorem db_get (h : DB B L w b g n) {k : ByteArray} (hk : k.size ≤ maxLen) :
    Calls Tryd.prog 94 #[.pointer (some ⟨b, 0, none⟩), .string k] w fun e w' => e = .returned (.tuple #[encE ((g k).getD noEn), .bool (g k).isSome]) ∧ DB B L w' b g n ∧ Kept B L w w' := by
  have h' := h
  obtain ⟨_, _, m, h3, _⟩ := h
  exact (dget_any h3 hk).mono fun e w' ⟨he, hb⟩ => ⟨he, h'.below hb⟩
theorem db_add_no (h : DB B L w b g n) (e : En) (hk : e.name.size ≤ maxLen) (hno : addCode g e ≠ 0) (hE : Env E B w) :
    Calls Tryd.prog 65 #[.pointer (some ⟨b, 0, none⟩), encE e] w fun x w' => x = .returned (errOf E (addCode g e)) ∧ DB B L w' b g n ∧ Kept B L w w' := by
  have h' := h
  obtain ⟨_, _, m, h3, _⟩ := h
  exact (dadd_no h3 e hk hno hE).mono fun e w' ⟨he, hb⟩ => ⟨he, h'.below hb⟩
theorem db_add (h : DB B L w b g n) (e : En) (hyes : addCode g e = 0) (hE : Env E B w) :
    Calls Tryd.prog 65 #[.pointer (some ⟨b, 0, none⟩), encE e] w fun x w' => x = .returned .nilIface ∧ DB B L w' b (upd g e.name e) (n + 1) ∧ Kept B L w w' := by
  obtain ⟨h1, h2, m, h3, h4⟩ := h
  exact (dadd_ok h3 e hyes hE).mono fun e w' ⟨he, ho⟩ => ⟨he, DB.out h1 h2 h4 ho⟩
theorem db_del (h : DB B L w b g n) {k : ByteArray} (hk : k.size ≤ maxLen) :
    Calls Tryd.prog 67 #[.pointer (some ⟨b, 0, none⟩), .string k] w fun e w' => e = .returned (.tuple #[encE ((g k).getD noEn), .bool (g k).isSome]) ∧ DB B L w' b (del g k) (if (g k).isSome then n - 1 else n) ∧ Kept B L w w' := by
  obtain ⟨h1, h2, m, h3, h4⟩ := h
  exact (ddel_any h3 hk).mono fun e w' ⟨he, ho⟩ => ⟨he, DB.out h1 h2 h4 ho⟩
end

theorem nmSpecial_eq (s : ByteArray) : nmSpecial s = (s.data.toList == [46] || s.data.toList == [46, 46]) := by
  unfold nmSpecial
  rw [ByteArray.toList_eq]

end Go.Proofs.YtjmbilbkmcebeaaDoor
end
