/- Plain law of DirTurns: names n0 to n30; a turn of entries behind a name. -/
import Derived.Test.YthominkfjfnkbaaDoorDirFrom
import Derived.Test.YthominkfjfnkbaaDoorDirLaw
import Derived.Lib.ItoaNum
namespace Go.Proofs.YthominkfjfnkbaaDoor
open Go Go.RowKit
set_option maxRecDepth 100000
set_option linter.unusedSimpArgs false

def dig (j : Nat) : List UInt8 := if j < 10 then [UInt8.ofNat (48 + j)] else [UInt8.ofNat (48 + j / 10), UInt8.ofNat (48 + j % 10)]
theorem decDigits_dig {j : Nat} (h : j < 100) : Lib.decDigits j = dig j := by
  unfold dig
  rw [Lib.decDigits]
  by_cases h1 : j < 10
  · rw [dif_pos h1, if_pos h1]
  · rw [dif_neg h1, if_neg h1, Lib.decDigits, dif_pos (by omega)]
    rfl
def nmN (j : Nat) : ByteArray := ⟨(110 :: dig j).toArray⟩
theorem nmN_data (j : Nat) : (nmN j).data.toList = 110 :: dig j := by simp [nmN]
theorem nmN_num {j : Nat} (h : j < 100) : (⟨#[110]⟩ : ByteArray) ++ ⟨(Lib.decDigits j).toArray⟩ = nmN j := by
  rw [decDigits_dig h]
  refine nm_ext ?_
  simp [nmN]
def unN : List UInt8 → Nat
  | [_, a] => a.toNat - 48
  | [_, a, b] => (a.toNat - 48) * 10 + (b.toNat - 48)
  | _ => 0
theorem nmN_all : ∀ j, j < 31 → unN (110 :: dig j) = j ∧ nmCode (nmN j) = 0 ∧ (nmN j).size ≤ 3 := by decide
theorem nmN_inj {i j : Nat} (hi : i < 31) (hj : j < 31) (h : nmN i = nmN j) : i = j := by
  have h1 := (nmN_all i hi).1
  have h2 := (nmN_all j hj).1
  rw [← nmN_data] at h1 h2
  rw [h] at h1
  exact h1.symm.trans h2
theorem nmN_special (j : Nat) : nmSpecial (nmN j) = false := by
  rw [nmSpecial_eq, nmN_data]
  simp
theorem nmN_size {j : Nat} (hj : j < 31) : (nmN j).size ≤ maxLen := by
  have := (nmN_all j hj).2.2
  unfold maxLen
  omega

/-- A directory of entries n0 to n30, their numbers among p. -/
def TurnG (g : ByteArray → Option En) (p : Nat → Prop) : Prop := ∀ k e, g k = some e → ∃ j, j < 31 ∧ p j ∧ k = nmN j ∧ e = ⟨nmN j, (j : Int) + 2, 1⟩
section
variable {g : ByteArray → Option En} {p q : Nat → Prop}
theorem TurnG.new : TurnG (fun _ => none) p := fun _ _ h => by cases h
theorem TurnG.code (h : TurnG g p) {j : Nat} (hj : j < 31) (hp : ¬ p j) : addCode g ⟨nmN j, (j : Int) + 2, 1⟩ = 0 := by
  have h0 : g (nmN j) = none := by
    cases hg : g (nmN j) with
    | none => rfl
    | some e =>
      obtain ⟨i, hi, hpi, he, _⟩ := h _ _ hg
      obtain rfl := nmN_inj hj hi he
      exact absurd hpi hp
  have h1 : mayB ⟨nmN j, (j : Int) + 2, 1⟩ = true := by simp [mayB]; omega
  simp only [addCode]
  rw [if_pos (nmN_all j hj).2.1, nmN_special, h1, h0]
  rfl
theorem TurnG.add (h : TurnG g p) {j : Nat} (hj : j < 31) (hq : q j) (hpq : ∀ i, p i → q i) : TurnG (upd g (nmN j) ⟨nmN j, (j : Int) + 2, 1⟩) q := by
  intro k e hk
  simp only [upd] at hk
  by_cases hkj : k = nmN j
  · rw [if_pos hkj] at hk
    injection hk with hk
    exact ⟨j, hj, hq, hkj, hk.symm⟩
  · rw [if_neg hkj] at hk
    obtain ⟨i, hi, hpi, h1, h2⟩ := h k e hk
    exact ⟨i, hi, hpq i hpi, h1, h2⟩
theorem TurnG.size (h : TurnG g p) (k : ByteArray) (hk : (g k).isSome = true) : k.size ≤ maxLen := by
  obtain ⟨e, he⟩ := Option.isSome_iff_exists.1 hk
  obtain ⟨j, hj, _, rfl, _⟩ := h k e he
  exact nmN_size hj
theorem TurnG.name (h : TurnG g p) (k : ByteArray) (e : En) (hk : g k = some e) : e.name = k := by
  obtain ⟨j, hj, _, rfl, rfl⟩ := h k e hk
  rfl
theorem TurnG.ent (h : TurnG g p) {ks : List ByteArray} (hk : SortedNames g ks) {x : En} (hx : x ∈ entsOf g ks) : ∃ j, j < 31 ∧ x = ⟨nmN j, (j : Int) + 2, 1⟩ := by
  obtain ⟨k, hk1, rfl⟩ := List.mem_map.1 hx
  obtain ⟨e, he⟩ := Option.isSome_iff_exists.1 ((hk.mem k).1 hk1)
  obtain ⟨j, hj, _, _, h2⟩ := h k e he
  exact ⟨j, hj, by rw [he, h2]; rfl⟩

/-- The last name of the first i entries. -/
def lastN (after : ByteArray) (l : List En) : Nat → ByteArray
  | 0 => after
  | i + 1 => (l[i]?.map En.name).getD after
/-- s entries are seen, up to a name. -/
def Seen (g : ByteArray → Option En) (n : Nat) (after : ByteArray) (s : Nat) : Prop :=
  ∀ ks, SortedNames g ks → ks.length = n → ((entsOf g ks).filter (behB after)).length + s = n

theorem ents_lt {ks : List ByteArray} (hk : SortedNames g ks) (hnm : ∀ k e, g k = some e → e.name = k) {i j : Nat} {x y : En} (hx : (entsOf g ks)[i]? = some x) (hy : (entsOf g ks)[j]? = some y) (hij : i < j) : nmLt x.name y.name := by
  have a := ents_at hk hnm hx
  have b := ents_at hk hnm hy
  obtain ⟨ia, ea⟩ := List.getElem?_eq_some_iff.1 a
  obtain ⟨ib, eb⟩ := List.getElem?_eq_some_iff.1 b
  have := List.pairwise_iff_getElem.1 hk.rise i j ia ib hij
  rwa [ea, eb] at this
theorem ents_nlt {ks : List ByteArray} (hk : SortedNames g ks) (hnm : ∀ k e, g k = some e → e.name = k) {i j : Nat} {x y : En} (hx : (entsOf g ks)[i]? = some x) (hy : (entsOf g ks)[j]? = some y) (hij : i ≤ j) : ¬ nmLt y.name x.name := by
  intro h
  rcases Nat.eq_or_lt_of_le hij with rfl | hlt
  · rw [hx] at hy
    injection hy with hy
    subst hy
    exact nmLt_irrefl _ h
  · exact nmLt_irrefl _ (nmLt_trans h (ents_lt hk hnm hx hy hlt))

theorem seen_new (h : TurnG g p) (n : Nat) : Seen g n ⟨#[]⟩ 0 := by
  intro ks hk hl
  have : (entsOf g ks).filter (behB ⟨#[]⟩) = entsOf g ks := by
    refine List.filter_eq_self.2 fun x hx => ?_
    obtain ⟨j, _, rfl⟩ := h.ent hk hx
    refine decide_eq_true ?_
    show ([] : List UInt8) < (nmN j).data.toList
    rw [nmN_data]
    exact List.nil_lt_cons _ _
  rw [this, entsOf_len, hl]
  rfl

theorem fromL_cut (l : List En) (after : ByteArray) {size : Int} (hs : 1 ≤ size) : ∃ m, m ≤ (l.filter (behB after)).length ∧ (fromL l after size).1 = (l.filter (behB after)).take m ∧ (fromL l after size).2 = decide (m < (l.filter (behB after)).length) ∧ (1 ≤ (l.filter (behB after)).length → 1 ≤ m) := by
  unfold fromL
  generalize l.filter (behB after) = F
  by_cases h : (F.length : Int) ≤ max size 0
  · rw [if_pos h]
    exact ⟨F.length, Nat.le_refl _, by simp, by simp, fun h => h⟩
  · rw [if_neg h]
    exact ⟨size.toNat, by omega, rfl, (decide_eq_true (by omega)).symm, fun _ => by omega⟩

theorem turn_law {n s : Nat} {ks : List ByteArray} {after : ByteArray} {size : Int} {L : List En} {b : Bool} (hnm : ∀ k e, g k = some e → e.name = k) (hk : SortedNames g ks) (hl : ks.length = n) (hs : Seen g n after s) (hsz : 1 ≤ size) (hL : fromL (entsOf g ks) after size = (L, b)) :
    (∀ (i : Nat) x, L[i]? = some x → nmLt (lastN after L i) x.name ∧ x ∈ entsOf g ks) ∧ b = decide (s + L.length < n) ∧ s + L.length ≤ n ∧ (b = true → 1 ≤ L.length) ∧ Seen g n (lastN after L L.length) (s + L.length) := by
  obtain ⟨c, hc0, hc1, hc2, hc3⟩ := ents_split hk hnm after
  have hlen : (entsOf g ks).length = n := by rw [entsOf_len, hl]
  have hF := hs ks hk hl
  obtain ⟨m, hm0, hm1, hm2, hm3⟩ := fromL_cut (entsOf g ks) after hsz
  rw [hL] at hm1 hm2
  rw [← hc3] at hF hm0 hm1 hm2 hm3
  rw [List.length_drop, hlen] at hF hm0 hm2 hm3
  simp only at hm1 hm2
  have hLl : L.length = m := by rw [hm1, List.length_take, List.length_drop, hlen]; omega
  have hat : ∀ (i : Nat), i < m → L[i]? = (entsOf g ks)[c + i]? := by
    intro i hi
    rw [hm1, List.getElem?_take_of_lt hi, List.getElem?_drop]
  have hlast : ∀ (i : Nat) y, i < m → (entsOf g ks)[c + i]? = some y → lastN after L (i + 1) = y.name := by
    intro i y hi hy
    show (L[i]?.map En.name).getD after = y.name
    rw [hat i hi, hy]; rfl
  refine ⟨fun i x hx => ?_, ?_, ?_, ?_, ?_⟩
  · have hi : i < m := by rw [← hLl]; exact (List.getElem?_eq_some_iff.1 hx).1
    rw [hat i hi] at hx
    refine ⟨?_, List.mem_of_getElem? hx⟩
    cases i with
    | zero =>
      have hp0 : after.data.toList < x.name.data.toList := of_decide_eq_true (hc2 c x hx (Nat.le_refl _))
      exact hp0
    | succ i =>
      have hlt : c + i < (entsOf g ks).length := by omega
      rw [hlast i _ (by omega) (List.getElem?_eq_getElem hlt)]
      exact ents_lt hk hnm (List.getElem?_eq_getElem hlt) hx (by omega)
  · rw [hm2, hLl]
    congr 1
    exact propext (by omega)
  · omega
  · intro hb
    rw [hm2] at hb
    have := of_decide_eq_true hb
    rw [hLl]
    exact hm3 (by omega)
  · intro ks' hk' hl'
    obtain rfl : ks' = ks := rise_ext hk'.rise hk.rise fun x => (hk'.mem x).trans (hk.mem x).symm
    rw [hLl]
    cases m with
    | zero =>
      show ((entsOf g ks').filter (behB after)).length + (s + 0) = n
      rw [← hc3, List.length_drop, hlen]
      omega
    | succ m =>
      have hlt : c + m < (entsOf g ks').length := by omega
      rw [hlast m _ (by omega) (List.getElem?_eq_getElem hlt)]
      rw [← drop_filter (behB (entsOf g ks')[c + m].name) (entsOf g ks') (c + (m + 1))]
      · rw [List.length_drop, hlen]; omega
      · intro j x hx hj
        exact decide_eq_false (ents_nlt hk' hnm hx (List.getElem?_eq_getElem hlt) (by omega))
      · intro j x hx hj
        exact decide_eq_true (ents_lt hk' hnm (List.getElem?_eq_getElem hlt) hx (by omega))
end
end Go.Proofs.YthominkfjfnkbaaDoor
