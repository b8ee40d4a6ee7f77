/- Merged texts: BodySet Bytes. -/
import Derived.Test.YtjmbilbkmcebeaaGreatDoorBase09
import Derived.Test.YtjmbilbkmcebeaaGreatDoorBase01
import Derived.Laws.CopyOwn
import Derived.Shelf.SlMaps.Clone
section
/- The walks of package body: Get of what is there, Set, Lose, Del, Clean, Clone. -/
namespace Go.Proofs.YtjmbilbkmcebeaaGreatDoor
open Go Go.RowKit
set_option maxRecDepth 100000
set_option linter.unusedSimpArgs false
attribute [local go_sem] giv
variable {E : Nat → Addr} {B : Nat}

section
variable {w : World} {M : Nat → Prop} {b m d : Nat} {g : Cl → Option (Option (List Int))} {gd : Cl → Option Int} {n k : Nat}

/-- May a cell be? -/
def cellOk (c : Cl) : Prop := 1 ≤ c.1 ∧ c.1 ≤ 16777215 ∧ 0 ≤ c.2 ∧ c.2 < 64
theorem cellOk.in64 {c : Cl} (h : cellOk c) : In64 c.1 ∧ In64 c.2 := by unfold cellOk at h; unfold In64; omega

/-- A slice of bytes, as it is read. -/
def SlIn (w : World) (sp : Option Addr) (l : List Int) : Prop := 0 < l.length → ∃ ad, sp = some ad ∧ ∀ j v, (l.map (Value.int .u8))[j]? = some v → w.cell? (ad.add j) = some v ∧ (ad.add j).block < w.heap.size
theorem slIn_below {w w' : World} {sp : Option Addr} {l : List Int} (h : SlIn w sp l) (hb : Below w.heap.size w w') (h0 : 0 < l.length) : ∃ ad, sp = some ad ∧ ∀ j v, (l.map (Value.int .u8))[j]? = some v → w'.cell? (ad.add j) = some v := by
  obtain ⟨ad, e1, e2⟩ := h h0
  refine ⟨ad, e1, fun j v hj => ?_⟩
  obtain ⟨e3, e4⟩ := e2 j v hj
  exact (hb.cell e4).trans e3
/-- Bytes made up to a block. -/
def pad (l : List Int) : List Int := l ++ List.replicate (256 - l.length) 0
theorem pad_len {l : List Int} (h : l.length ≤ 256) : (pad l).length = 256 := by simp [pad]; omega
theorem splice_gen (n : Nat) (x : Value) (cs : List Value) : splice (List.replicate n x) 0 cs = cs ++ List.replicate (n - cs.length) x := by simp [splice]
theorem splice_pad (l : List Int) : splice (List.replicate 256 (Value.int .u8 0)) 0 (l.map (Value.int .u8)) = (pad l).map (Value.int .u8) := by
  rw [splice_gen, pad, List.map_append, List.map_replicate, List.length_map]

end
end Go.Proofs.YtjmbilbkmcebeaaGreatDoor
end

section
/- Slices of bytes as lists; the reference's Full, SameBytes, Bytes. -/
namespace Go.Proofs.YtjmbilbkmcebeaaGreatDoor
open Go Go.RowKit
set_option maxRecDepth 100000
set_option linter.unusedSimpArgs false
attribute [local go_sem] giv

/-- v reads as the bytes l. -/
def RdB (w : World) (v : Value) (l : List Int) : Prop :=
  ∃ sp cap, v = .slice sp l.length cap ∧ (l = [] ∨ ∃ h off, sp = some ⟨h, off, none⟩ ∧ h < w.heap.size ∧ ∀ i, i < l.length → w.cell? ⟨h, off + i, none⟩ = some (.int .u8 (l.getD i 0)))
theorem RdB.below {w w' : World} {v : Value} {l : List Int} (r : RdB w v l) (hb : Below w.heap.size w w') : RdB w' v l := by
  obtain ⟨sp, cap, rfl, h⟩ := r
  refine ⟨sp, cap, rfl, ?_⟩
  rcases h with h | ⟨h, off, h1, h2, h3⟩
  · exact .inl h
  · exact .inr ⟨h, off, h1, Nat.lt_of_lt_of_le h2 hb.size, fun i hi => (hb.cell (p := ⟨h, off + i, none⟩) h2).trans (h3 i hi)⟩
/-- Blocks below B stay. -/
theorem RdB.old {B : Nat} {w w' : World} {sp : Option Addr} {cap : Nat} {l : List Int} (r : RdB w (.slice sp l.length cap) l) (hb : Below B w w') (hB : l ≠ [] → ∀ h off s, sp = some ⟨h, off, s⟩ → h < B) : RdB w' (.slice sp l.length cap) l := by
  obtain ⟨sp', cap', he, h⟩ := r
  injection he with e1 e2 e3
  subst e1
  refine ⟨sp, cap, rfl, ?_⟩
  by_cases hl : l = []
  · exact .inl hl
  rcases h with h | ⟨h, off, h1, h2, h3⟩
  · exact .inl h
  · exact .inr ⟨h, off, h1, Nat.lt_of_lt_of_le h2 hb.size, fun i hi => (hb.cell (p := ⟨h, off + i, none⟩) (hB hl _ _ _ h1)).trans (h3 i hi)⟩
theorem RdB.of_buf {w : World} {h cap : Nat} {l : List Int} (b : Buf w h 5 cap (l.map (Value.int .u8))) : RdB w (.slice (some ⟨h, 0, none⟩) l.length cap) l := by
  refine ⟨_, _, rfl, .inr ⟨h, 0, rfl, b.lt, fun i hi => ?_⟩⟩
  rw [Nat.zero_add, b.cell (by simpa using hi)]
  simp [List.getElem?_eq_getElem hi]
theorem RdB.slIn {w : World} {sp : Option Addr} {cap : Nat} {l : List Int} (r : RdB w (.slice sp l.length cap) l) : SlIn w sp l := by
  intro h0
  obtain ⟨sp', cap', he, h⟩ := r
  injection he with e1 e2 e3
  subst e1
  rcases h with h | ⟨h, off, h1, h2, h3⟩
  · rw [h] at h0; simp at h0
  · refine ⟨_, h1, fun j v hj => ?_⟩
    have hjl : j < l.length := by
      rcases Nat.lt_or_ge j l.length with h | h
      · exact h
      · rw [List.getElem?_eq_none (by simpa using h)] at hj; cases hj
    have ha : (⟨h, off, none⟩ : Addr).add j = ⟨h, off + j, none⟩ := by unfold Addr.add; split <;> simp_all
    rw [ha]
    refine ⟨(h3 j hjl).trans ?_, h2⟩
    rw [← hj]
    simp [List.getElem?_eq_getElem hjl]

/-- The first j bytes, made up to 256. -/
def part (l : List Int) (j : Nat) : List Value := (l.take j).map (Value.int .u8) ++ List.replicate (256 - j) (.int .u8 0)
theorem part_zero (l : List Int) : part l 0 = List.replicate 256 (.int .u8 0) := by simp only [part, List.take_zero, List.map_nil, List.nil_append, Nat.sub_zero]
theorem part_all (l : List Int) : part l l.length = (pad l).map (Value.int .u8) := by simp only [part, pad, List.take_length, List.map_append, List.map_replicate]
theorem part_len {l : List Int} {j : Nat} (h : j ≤ l.length) (h2 : l.length ≤ 256) : (part l j).length = 256 := by simp [part]; omega
theorem part_set {l : List Int} {j : Nat} (h : j < l.length) (h2 : l.length ≤ 256) : (part l j).set j (.int .u8 (l.getD j 0)) = part l (j + 1) := by
  have e1 : 256 - j = (256 - (j + 1)) + 1 := by omega
  have e2 : ((l.take j).map (Value.int .u8)).length = j := by simp; omega
  unfold part
  rw [e1, List.replicate_succ, List.set_append_right _ _ (by omega), e2, Nat.sub_self, List.set_cons_zero, List.take_succ_eq_append_getElem h, List.map_append, List.append_assoc]
  simp [List.getElem?_eq_getElem h]

/-- Are two lists the same from their beginnings, as far as k? -/
theorem same_step {l m : List Int} {j : Nat} (hl : l.length = m.length) (h : j < l.length) (he : l.take j = m.take j) : (l.take (j + 1) = m.take (j + 1)) ↔ l.getD j 0 = m.getD j 0 := by
  have h2 : j < m.length := by omega
  rw [List.take_succ_eq_append_getElem h, List.take_succ_eq_append_getElem h2, he, List.append_cancel_left_eq]
  simp [List.getElem?_eq_getElem h, List.getElem?_eq_getElem h2]

theorem SlBuf.own {w : World} {base : Nat} {t : TypeId} {v : Value} {xs : List Value} (h : SlBuf w base t v xs) : ∀ k, v.ownBlock = some k → base ≤ k := by
  rcases h with ⟨rfl, _⟩ | ⟨g, cap, rfl, hb, _⟩
  · intro k hk; cases hk
  · intro k hk; cases hk; exact hb
theorem SlBuf.below {w w' : World} {base : Nat} {t : TypeId} {v : Value} {xs : List Value} (h : SlBuf w base t v xs) (hb : Below w.heap.size w w') : SlBuf w' base t v xs := by
  rcases h with h | ⟨g, cap, h1, h2, h3, h4⟩
  · exact .inl h
  · exact .inr ⟨g, cap, h1, h2, h3.below hb, h4⟩
theorem SlBuf.rdB {w : World} {base : Nat} {v : Value} {l : List Int} (h : SlBuf w base 5 v (l.map (Value.int .u8))) : RdB w v l := by
  rcases h with ⟨rfl, h⟩ | ⟨g, cap, rfl, _, h3, _⟩
  · have : l = [] := by simpa using h
    subst this
    exact ⟨_, _, rfl, .inl rfl⟩
  · have := RdB.of_buf h3
    simpa using this

/-- One element appended. -/
theorem slbuf_push {w1 : World} {base : Nat} {v' : Value} {xs : List Value} {x : Value} {n : Nat} (hn : xs.length = n) (ho : w1.ownsRow base 5 1 v' (n + 1) (xs ++ [x])) : SlBuf w1 base 5 v' (xs ++ [x]) := by
  subst hn
  exact SlBuf.of_owns ho

end Go.Proofs.YtjmbilbkmcebeaaGreatDoor
end
