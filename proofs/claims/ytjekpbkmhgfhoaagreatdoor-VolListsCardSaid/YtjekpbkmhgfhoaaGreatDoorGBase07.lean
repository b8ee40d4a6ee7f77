/- Merged texts: Keys Names. -/
import Derived.Test.YtjekpbkmhgfhoaaGreatDoorGBase06
import Derived.Maps.Own
import Derived.Maps.OwnSet
import Derived.Lib.SlKeysI
import Derived.Sort.KeysCollected
section
/- From a map as a function to the kit's words of maps with keys that are ints or strings: its keys, each once. -/
namespace Go.Proofs.YtjekpbkmhgfhoaaGreatDoor
open Go Go.Maps Go.Sort
open Go.WideElems (Fit rd rg)
set_option maxRecDepth 100000

/-- What the kit is told of a map's values: nothing. -/
def anyVal : Value → Option (DataW Unit × List MemPlace) := fun _ => some (.nil, [])

theorem MapAt.owns {P : Program} {kt : TypeId} {K V : Type} {eK : K → Value} {eV : V → Value} {w : World} {r n : Nat} {g : K → Option V} (h : MapAt P kt eK eV w r g n) (hn : n ≤ maxLen)
    (lit : K → Lit) (hkey : ∀ k l, keyOf P kt (eK k) = some l → l = lit k) (hinj : ∀ a b, eK a = eK b → a = b) :
    ∃ es : List (Lit × DataW Unit), w.ownsMap P kt anyVal r n (.map es) ∧ es.length = n ∧ ∃ ks : List K, (es.map (·.1)).Perm (ks.map lit) ∧ ks.Nodup ∧ (∀ k, k ∈ ks ↔ (g k).isSome = true) ∧ ks.length = n := by
  obtain ⟨es, clk, hb, hst, hs, h1, h2⟩ := h
  have hr : ∀ x ∈ es.toList, ∃ k v, x.key = eK k ∧ g k = some v ∧ rg P kt anyVal x = (lit k, .nil) ∧ rd P kt anyVal x = some (lit k, .nil) := by
    intro x hx
    obtain ⟨k, v, e1, _, e3, l, e4⟩ := h1 x hx
    have e5 : l = lit k := hkey k l (by rw [← e1]; exact e4)
    subst e5
    have : rd P kt anyVal x = some (lit k, .nil) := by simp [rd, e4, anyVal]
    exact ⟨k, v, e1, e3, by rw [rg, this]; rfl, this⟩
  have F : Fit P kt anyVal es clk := ⟨by omega, hst, fun x hx => by obtain ⟨_, _, _, _, _, h⟩ := hr x hx; exact ⟨_, h⟩⟩
  have hks : ∀ l : List MapEntry, (∀ x ∈ l, x ∈ es.toList) → ∃ ks : List K, l.map (·.key) = ks.map eK ∧ (l.map (rg P kt anyVal)).map (·.1) = ks.map lit := by
    intro l
    induction l with
    | nil => intro _; exact ⟨[], rfl, rfl⟩
    | cons x l ih =>
      intro hl
      obtain ⟨ks, i1, i2⟩ := ih fun y hy => hl y (List.mem_cons_of_mem _ hy)
      obtain ⟨k, v, e1, _, e3, _⟩ := hr x (hl x (List.mem_cons_self ..))
      exact ⟨k :: ks, by simp [e1, i1], by rw [List.map_cons, List.map_cons, i2, e3]; rfl⟩
  obtain ⟨ks, k1, k2⟩ := hks es.toList fun _ h => h
  refine ⟨_, ⟨es, clk, hb, F, by omega, rfl⟩, by rw [length_sorted]; simp [hs], ks, ?_, ?_, ?_, ?_⟩
  · rw [← k2]
    exact (Go.WideShapes.sorted_perm _).map _
  · have := hst.2.2
    rw [k1] at this
    exact List.Pairwise.of_map eK (fun a b hab h => hab (by rw [h])) this
  · intro k
    constructor
    · intro hk
      have : eK k ∈ es.toList.map (·.key) := by rw [k1]; exact List.mem_map.2 ⟨k, hk, rfl⟩
      obtain ⟨x, hx, he⟩ := List.mem_map.1 this
      obtain ⟨k', v, e1, e2, _⟩ := hr x hx
      have : k' = k := hinj _ _ (by rw [← e1, he])
      subst this
      rw [e2]; rfl
    · intro hk
      obtain ⟨v, hv⟩ := Option.isSome_iff_exists.1 hk
      obtain ⟨x, hx, he, _⟩ := h2 k v hv
      have : eK k ∈ ks.map eK := by rw [← k1]; exact List.mem_map.2 ⟨x, hx, he⟩
      obtain ⟨k', hk', he'⟩ := List.mem_map.1 this
      exact hinj _ _ he' ▸ hk'
  · have := congrArg List.length k1
    simp at this
    omega

/-- Rising ints: the keys of a map. -/
structure SortedKeys {V : Type} (g : Int → Option V) (ks : List Int) : Prop where
  rise : ks.Pairwise (· < ·)
  mem : ∀ k, k ∈ ks ↔ (g k).isSome = true

theorem rise_of_sorted {l : List Int} (h : l.Pairwise (· ≤ ·)) (hn : l.Nodup) : l.Pairwise (· < ·) :=
  (h.and hn).imp fun ⟨a, b⟩ => by omega

theorem MapAt.ownsI {P : Program} {kt : TypeId} {V : Type} {eV : V → Value} {w : World} {r n : Nat} {g : Int → Option V} (h : MapAt P kt (Value.int .i64) eV w r g n) (hn : n ≤ maxLen) (hk : P.underlying kt = some (.int .i64)) :
    ∃ D : DataW Unit, w.ownsMap P kt anyVal r n D ∧ Maps.size D = n ∧ ∀ ss : List Int, ss.Perm (intKeys D) → SortedKeys g (ss.mergeSort fun x y => decide (x ≤ y)) ∧ ss.length = n := by
  obtain ⟨es, h1, h2, ks, p1, p2, p3, p4⟩ := h.owns hn (fun k => .int .i64 k) (fun k l hl => by
    obtain ⟨x, e1, e2, _⟩ := Maps.keyOf_i64 hk hl
    cases e1
    exact e2) (fun a b h => by cases h; rfl)
  refine ⟨.map es, h1, h2, fun ss hp => ?_⟩
  have hik : (intKeys (.map es)).Perm ks := by
    have h3 : intKeys (.map es) = (es.map (·.1)).map Go.intOf := by rw [List.map_map]; rfl
    rw [h3]
    refine (p1.map Go.intOf).trans (List.Perm.of_eq ?_)
    simp [Function.comp_def, Go.intOf]
  have hp2 := hp.trans hik
  have hs := List.mergeSort_perm ss (fun x y => decide (x ≤ y))
  refine ⟨⟨rise_of_sorted ?_ ?_, fun k => ?_⟩, by rw [hp2.length_eq, p4]⟩
  · have := List.pairwise_mergeSort (le := fun x y : Int => decide (x ≤ y)) (fun a b c h1 h2 => by simp at *; omega) (fun a b => by simp; omega) ss
    exact this.imp fun h => by simpa using h
  · exact (hs.trans hp2).nodup_iff.2 p2
  · rw [(hs.trans hp2).mem_iff]
    exact p3 k
end Go.Proofs.YtjekpbkmhgfhoaaGreatDoor
end

section
/- Rising names: the keys of a map keyed by strings. -/
namespace Go.Proofs.YtjekpbkmhgfhoaaGreatDoor
open Go Go.Maps Go.Sort
open Go.Proofs (encStr)
set_option maxRecDepth 100000

/-- Go's order of strings. -/
def nmLt (a b : ByteArray) : Prop := a.data.toList < b.data.toList
theorem nm_ext {a b : ByteArray} (h : a.data.toList = b.data.toList) : a = b := by
  cases a; cases b; congr 1; exact Array.toList_inj.1 h

/-- Rising names: the keys of a map. -/
structure SortedNames {V : Type} (g : ByteArray → Option V) (ks : List ByteArray) : Prop where
  rise : ks.Pairwise nmLt
  mem : ∀ k, k ∈ ks ↔ (g k).isSome = true

def nmOf (x : List UInt8) : ByteArray := ⟨x.toArray⟩
theorem nmOf_data (x : List UInt8) : (nmOf x).data.toList = x := by simp [nmOf]
theorem nmOf_of (k : ByteArray) : nmOf k.data.toList = k := nm_ext (by simp [nmOf])

theorem rise_of_sortedS {l : List (List UInt8)} (h : l.Pairwise (· ≤ ·)) (hn : l.Nodup) : (l.map nmOf).Pairwise nmLt := by
  rw [List.pairwise_map]
  refine (h.and hn).imp fun {a b} ⟨h1, h2⟩ => ?_
  unfold nmLt
  rw [nmOf_data, nmOf_data]
  rcases Classical.em (a < b) with h | h
  · exact h
  · exact (h2 (List.le_antisymm h1 (List.not_lt.1 h))).elim

theorem MapAt.ownsS {P : Program} {kt : TypeId} {V : Type} {eV : V → Value} {w : World} {r n : Nat} {g : ByteArray → Option V} (h : MapAt P kt Value.string eV w r g n) (hn : n ≤ maxLen) (hk : P.underlying kt = some .string) :
    ∃ D : DataW Unit, w.ownsMap P kt anyVal r n D ∧ Maps.size D = n ∧ ∀ ss : List (List UInt8), ss.Perm (strKeys D) → SortedNames g ((ss.mergeSort fun x y => decide (x ≤ y)).map nmOf) ∧ ss.length = n := by
  obtain ⟨es, h1, h2, ks, p1, p2, p3, p4⟩ := h.owns hn (fun k => .string k.data.toList) (fun k l hl => by
    obtain ⟨x, e1, e2, _⟩ := Maps.keyOf_str hk hl
    rw [e2]
    unfold encStr at e1
    injection e1 with e1
    rw [e1]) (fun a b h => by cases h; rfl)
  refine ⟨.map es, h1, h2, fun ss hp => ?_⟩
  have hik : (strKeys (.map es)).Perm (ks.map fun k => k.data.toList) := by
    have h3 : strKeys (.map es) = (es.map (·.1)).map Go.strOf := by rw [List.map_map]; rfl
    rw [h3]
    refine (p1.map Go.strOf).trans (List.Perm.of_eq ?_)
    simp [Function.comp_def, Go.strOf]
  have hp2 := hp.trans hik
  have hs := List.mergeSort_perm ss (fun x y => decide (x ≤ y))
  have hnd : (ks.map fun k => k.data.toList).Nodup := List.pairwise_map.2 (p2.imp fun hab he => hab (nm_ext he))
  refine ⟨⟨rise_of_sortedS ?_ ?_, fun k => ?_⟩, by rw [hp2.length_eq, List.length_map, p4]⟩
  · have := List.pairwise_mergeSort (le := fun x y : List UInt8 => decide (x ≤ y)) (fun a b c h1 h2 => by simp only [decide_eq_true_eq] at *; exact List.le_trans h1 h2) (fun a b => by simp only [Bool.or_eq_true, decide_eq_true_eq]; exact List.le_total a b) ss
    exact this.imp fun h => by simpa using h
  · exact (hs.trans hp2).nodup_iff.2 hnd
  · rw [← p3 k, List.mem_map]
    constructor
    · rintro ⟨x, hx, rfl⟩
      have := (hs.trans hp2).mem_iff.1 hx
      obtain ⟨k', hk', he⟩ := List.mem_map.1 this
      rw [← he, nmOf_of]
      exact hk'
    · intro hk'
      exact ⟨k.data.toList, (hs.trans hp2).mem_iff.2 (List.mem_map.2 ⟨k, hk', rfl⟩), nmOf_of k⟩
theorem map_nmOf (l : List (List UInt8)) : l.map encStr = (l.map nmOf).map Value.string := by
  rw [List.map_map]; rfl
end Go.Proofs.YtjekpbkmhgfhoaaGreatDoor
end
