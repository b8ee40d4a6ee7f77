/- A list of nodes by their numbers, as law 15 keeps it: where a number stands, a node put, one taken out; against a table's function. -/
import Derived.Test.YthominkfjfnkbaaDoorNodeTab
import Derived.Test.YthominkfjfnkbaaDoorKeys
namespace Go.Proofs.YthominkfjfnkbaaDoor
open Go
set_option maxRecDepth 100000

/-- A number's place; -1. -/
def atL (l : List Nd) (i : Int) : Int := match l.findIdx? (fun x => x.id == i) with
  | some k => (k : Int)
  | none => -1
theorem atL_found {l : List Nd} {i : Int} {j : Nat} (hj : j < l.length) (h : l[j].id = i) (hb : ∀ m x, m < j → l[m]? = some x → x.id ≠ i) : atL l i = j := by
  have : l.findIdx? (fun x => x.id == i) = some j := by
    rw [List.findIdx?_eq_some_iff_getElem]
    refine ⟨hj, by simpa using h, fun m hm => ?_⟩
    have := hb m (l[m]'(by omega)) hm (List.getElem?_eq_getElem (by omega))
    simpa using this
  unfold atL
  rw [this]
theorem atL_none {l : List Nd} {i : Int} (hb : ∀ m x, m < l.length → l[m]? = some x → x.id ≠ i) : atL l i = -1 := by
  have : l.findIdx? (fun x => x.id == i) = none := by
    rw [List.findIdx?_eq_none_iff]
    intro x hx
    obtain ⟨m, hm, rfl⟩ := List.getElem_of_mem hx
    have := hb m l[m] hm (List.getElem?_eq_getElem hm)
    simpa using this
  unfold atL
  rw [this]

/-- How many are ahead of a number. -/
def lowN (l : List Nd) (i : Int) : Nat := (l.takeWhile fun x => decide (x.id < i)).length
theorem lowN_eq {l : List Nd} {i : Int} {j : Nat} (hj : j ≤ l.length) (hb : ∀ m x, m < j → l[m]? = some x → x.id < i) (he : ∀ x, l[j]? = some x → ¬ x.id < i) : lowN l i = j := by
  induction l generalizing j with
  | nil => simp at hj; subst hj; rfl
  | cons y l ih =>
    cases j with
    | zero =>
      have := he y (by simp)
      simp [lowN, this]
    | succ j =>
      have h0 := hb 0 y (by omega) (by simp)
      have := ih (j := j) (by simpa using hj) (fun m x hm hx => hb (m + 1) x (by omega) (by simpa using hx)) (fun x hx => he x (by simpa using hx))
      unfold lowN at this ⊢
      rw [List.takeWhile_cons_of_pos (by simpa using h0), List.length_cons, this]
/-- A node put by its number. -/
def putL (l : List Nd) (n : Nd) : List Nd :=
  l.take (lowN l n.id) ++ [n] ++ l.drop (if (l[lowN l n.id]?.map (·.id)) = some n.id then lowN l n.id + 1 else lowN l n.id)

/-- Law 15's list stands for a table. -/
structure HaveOk (l : List Nd) (g : Int → Option Nd) : Prop where
  rise : l.Pairwise (fun a b => a.id < b.id)
  get : ∀ i x, g i = some x ↔ x ∈ l ∧ x.id = i

theorem HaveOk.nil : HaveOk [] (fun _ => none) := ⟨List.Pairwise.nil, fun i x => by simp⟩

section
variable {l : List Nd} {g : Int → Option Nd} (h : HaveOk l g)
include h
theorem HaveOk.inj {x y : Nd} (hx : x ∈ l) (hy : y ∈ l) (he : x.id = y.id) : x = y := by
  have h1 := (h.get x.id x).2 ⟨hx, rfl⟩
  have h2 := (h.get x.id y).2 ⟨hy, he.symm⟩
  rw [h1] at h2
  exact Option.some.inj h2
theorem HaveOk.low {i : Int} : (∀ x ∈ l.take (lowN l i), x.id < i) ∧ (∀ x ∈ l.drop (lowN l i), i ≤ x.id) := by
  have h12 : l.take (lowN l i) = l.takeWhile (fun x => decide (x.id < i)) ∧ l.drop (lowN l i) = l.dropWhile (fun x => decide (x.id < i)) := by
    have e := List.takeWhile_append_dropWhile (p := fun x : Nd => decide (x.id < i)) (l := l)
    unfold lowN
    generalize l.takeWhile (fun x => decide (x.id < i)) = a at *
    generalize l.dropWhile (fun x => decide (x.id < i)) = d at *
    subst e
    exact ⟨List.take_left, List.drop_left⟩
  obtain ⟨h1, h2⟩ := h12
  refine ⟨fun x hx => ?_, fun x hx => ?_⟩
  · rw [h1] at hx
    have : ∀ (l : List Nd), x ∈ l.takeWhile (fun x => decide (x.id < i)) → x.id < i := by
      intro l
      induction l with
      | nil => simp
      | cons y l ih =>
        by_cases hy : y.id < i
        · rw [List.takeWhile_cons_of_pos (by simpa using hy)]
          intro hx
          rcases List.mem_cons.1 hx with rfl | hx
          · exact hy
          · exact ih hx
        · rw [List.takeWhile_cons_of_neg (by simpa using hy)]
          simp
    exact this l hx
  · rw [h2] at hx
    cases hd : l.dropWhile fun x => decide (x.id < i) with
    | nil => rw [hd] at hx; simp at hx
    | cons y t =>
      have hy : ¬ y.id < i := by
        have := List.head_dropWhile_not (fun x : Nd => decide (x.id < i)) (l := l) (by rw [hd]; simp)
        simp only [hd, List.head_cons, decide_eq_false_iff_not] at this
        exact this
      rw [hd] at hx
      rcases List.mem_cons.1 hx with rfl | hx
      · omega
      · have hs : (y :: t).Pairwise (fun a b => a.id < b.id) := by
          rw [← hd]
          exact List.Pairwise.sublist (List.dropWhile_sublist _) h.rise
        have := (List.pairwise_cons.1 hs).1 x hx
        omega
/-- Where the list goes on behind a node that is put. -/
theorem HaveOk.behind (i : Int) : ∀ x, x ∈ l.drop (if (l[lowN l i]?.map (·.id)) = some i then lowN l i + 1 else lowN l i) ↔ x ∈ l ∧ i < x.id := by
  intro x
  obtain ⟨h1, h2⟩ := h.low (i := i)
  have hsplit : x ∈ l ↔ x ∈ l.take (lowN l i) ∨ x ∈ l.drop (lowN l i) := by
    conv => lhs; rw [← List.take_append_drop (lowN l i) l]
    exact List.mem_append
  cases hq : l[lowN l i]? with
  | none =>
    rw [if_neg (by simp)]
    have : l.length ≤ lowN l i := by simpa using hq
    rw [List.drop_of_length_le this] at h2 ⊢
    constructor
    · simp
    · rintro ⟨hx, hi⟩
      rw [hsplit] at hx
      rcases hx with hx | hx
      · have := h1 x hx; omega
      · rw [List.drop_of_length_le this] at hx; simp at hx
  | some y =>
    have hlt : lowN l i < l.length := (List.getElem?_eq_some_iff.1 hq).1
    have hd : l.drop (lowN l i) = y :: l.drop (lowN l i + 1) := by
      rw [List.drop_eq_getElem_cons hlt]
      rw [List.getElem?_eq_getElem hlt] at hq
      injection hq with hq
      rw [hq]
    have hs : (y :: l.drop (lowN l i + 1)).Pairwise (fun a b => a.id < b.id) := by
      rw [← hd]
      exact List.Pairwise.sublist (List.drop_sublist _ _) h.rise
    have hy := h2 y (by rw [hd]; simp)
    by_cases he : y.id = i
    · rw [if_pos (by simp [he])]
      constructor
      · intro hx
        have := (List.pairwise_cons.1 hs).1 x hx
        exact ⟨List.mem_of_mem_drop hx, by omega⟩
      · rintro ⟨hx, hi⟩
        rw [hsplit] at hx
        rcases hx with hx | hx
        · have := h1 x hx; omega
        · rw [hd] at hx
          rcases List.mem_cons.1 hx with rfl | hx
          · omega
          · exact hx
    · rw [if_neg (by simp [he])]
      constructor
      · intro hx
        refine ⟨List.mem_of_mem_drop hx, ?_⟩
        rw [hd] at hx
        rcases List.mem_cons.1 hx with rfl | hx
        · omega
        · have := (List.pairwise_cons.1 hs).1 x hx
          omega
      · rintro ⟨hx, hi⟩
        rw [hsplit] at hx
        rcases hx with hx | hx
        · have := h1 x hx; omega
        · exact hx
theorem HaveOk.ahead (i : Int) : ∀ x, x ∈ l.take (lowN l i) ↔ x ∈ l ∧ x.id < i := by
  intro x
  obtain ⟨h1, h2⟩ := h.low (i := i)
  constructor
  · intro hx
    exact ⟨List.mem_of_mem_take hx, h1 x hx⟩
  · rintro ⟨hx, hi⟩
    rw [← List.take_append_drop (lowN l i) l] at hx
    rcases List.mem_append.1 hx with hx | hx
    · exact hx
    · have := h2 x hx; omega
theorem HaveOk.put (n : Nd) : HaveOk (putL l n) (upd g n.id n) := by
  have ha := h.ahead n.id
  have hb := h.behind n.id
  have hmem : ∀ x, x ∈ putL l n ↔ (x ∈ l ∧ x.id < n.id) ∨ x = n ∨ (x ∈ l ∧ n.id < x.id) := by
    intro x
    unfold putL
    rw [List.mem_append, List.mem_append, ha, hb, List.mem_singleton, or_assoc]
  refine ⟨?_, fun i x => ?_⟩
  · unfold putL
    rw [List.pairwise_append, List.pairwise_append]
    refine ⟨⟨List.Pairwise.sublist (List.take_sublist _ _) h.rise, List.pairwise_singleton _ _, fun a h1 b h2 => ?_⟩, List.Pairwise.sublist (List.drop_sublist _ _) h.rise, fun a h1 b h2 => ?_⟩
    · rw [List.mem_singleton] at h2
      subst h2
      exact ((ha a).1 h1).2
    · have h3 := ((hb b).1 h2).2
      rcases List.mem_append.1 h1 with h1 | h1
      · have := ((ha a).1 h1).2; omega
      · rw [List.mem_singleton] at h1
        subst h1
        exact h3
  · rw [hmem]
    unfold upd
    by_cases hi : i = n.id
    · rw [if_pos hi]
      constructor
      · intro e
        injection e with e
        subst e
        exact ⟨.inr (.inl rfl), hi.symm⟩
      · rintro ⟨h1 | h1 | h1, h2⟩
        · omega
        · rw [h1]
        · omega
    · rw [if_neg hi, h.get]
      constructor
      · rintro ⟨h1, h2⟩
        refine ⟨?_, h2⟩
        rcases Int.lt_trichotomy x.id n.id with h3 | h3 | h3
        · exact .inl ⟨h1, h3⟩
        · omega
        · exact .inr (.inr ⟨h1, h3⟩)
      · rintro ⟨h1 | h1 | h1, h2⟩
        · exact ⟨h1.1, h2⟩
        · subst h1; exact (hi h2.symm).elim
        · exact ⟨h1.1, h2⟩
/-- The numbers of a table, rising: the list's. -/
theorem HaveOk.keys {ks : List Int} (hk : SortedKeys g ks) : ks = l.map (·.id) := by
  have h1 : (l.map (·.id)).Pairwise (· < ·) := List.pairwise_map.2 h.rise
  have hm : ∀ k, k ∈ ks ↔ k ∈ l.map (·.id) := by
    intro k
    rw [hk.mem, List.mem_map]
    constructor
    · intro hs
      obtain ⟨x, hx⟩ := Option.isSome_iff_exists.1 hs
      obtain ⟨h2, h3⟩ := (h.get k x).1 hx
      exact ⟨x, h2, h3⟩
    · rintro ⟨x, h2, h3⟩
      rw [(h.get k x).2 ⟨h2, h3⟩]; rfl
  have hp : ks.Perm (l.map (·.id)) := (List.perm_ext_iff_of_nodup (hk.rise.imp fun h => by omega) (h1.imp fun h => by omega)).2 hm
  exact List.Perm.eq_of_pairwise (le := fun a b : Int => a < b) (fun a b _ _ h1 h2 => by omega) hk.rise h1 hp
theorem HaveOk.at_some {i : Int} {x : Nd} (hg : g i = some x) : ∃ j : Nat, atL l i = j ∧ l[j]? = some x ∧ j < l.length := by
  obtain ⟨hx, hi⟩ := (h.get i x).1 hg
  obtain ⟨j, hj, he⟩ := List.getElem_of_mem hx
  refine ⟨j, ?_, by rw [List.getElem?_eq_getElem hj, he], hj⟩
  refine atL_found hj (by rw [he]; exact hi) fun m y hm hy hyi => ?_
  obtain ⟨hml, hy⟩ := List.getElem?_eq_some_iff.1 hy
  have := (List.pairwise_iff_getElem.1 h.rise) m j hml hj hm
  rw [hy, he] at this
  omega
theorem HaveOk.at_none {i : Int} (hg : g i = none) : atL l i = -1 := by
  refine atL_none fun m x hm hx hxi => ?_
  have := (h.get i x).2 ⟨List.mem_of_getElem? hx, hxi⟩
  rw [hg] at this
  cases this
theorem HaveOk.del {i : Int} {j : Nat} {x : Nd} (hj : l[j]? = some x) (hi : x.id = i) : HaveOk (l.take j ++ l.drop (j + 1)) (del g i) := by
  have hjl : j < l.length := (List.getElem?_eq_some_iff.1 hj).1
  have hsplit : l = l.take j ++ x :: l.drop (j + 1) := by
    have : l.drop j = x :: l.drop (j + 1) := by
      rw [List.drop_eq_getElem_cons hjl]
      rw [List.getElem?_eq_getElem hjl] at hj
      injection hj with hj
      rw [hj]
    rw [← this, List.take_append_drop]
  have hr := h.rise
  rw [hsplit, List.pairwise_append, List.pairwise_cons] at hr
  obtain ⟨r1, ⟨r2, r3⟩, r4⟩ := hr
  refine ⟨?_, fun k y => ?_⟩
  · rw [List.pairwise_append]
    exact ⟨r1, r3, fun a ha b hb => r4 a ha b (List.mem_cons_of_mem _ hb)⟩
  · have hm : y ∈ l ↔ y ∈ l.take j ++ l.drop (j + 1) ∨ y = x := by
      conv => lhs; rw [hsplit]
      simp only [List.mem_append, List.mem_cons]
      constructor
      · rintro (h | h | h)
        · exact .inl (.inl h)
        · exact .inr h
        · exact .inl (.inr h)
      · rintro ((h | h) | h)
        · exact .inl h
        · exact .inr (.inr h)
        · exact .inr (.inl h)
    have hnx : y ∈ l.take j ++ l.drop (j + 1) → y.id ≠ i := by
      intro hy
      rcases List.mem_append.1 hy with hy | hy
      · have := r4 y hy x (by simp); omega
      · have := r2 y hy; omega
    unfold Go.Proofs.YthominkfjfnkbaaDoor.del
    by_cases hk : k = i
    · rw [if_pos hk]
      constructor
      · intro e; cases e
      · rintro ⟨h1, h2⟩
        exact (hnx h1 (by omega)).elim
    · rw [if_neg hk, h.get, hm]
      constructor
      · rintro ⟨h1 | h1, h2⟩
        · exact ⟨h1, h2⟩
        · subst h1; omega
      · rintro ⟨h1, h2⟩
        exact ⟨.inl h1, h2⟩
theorem HaveOk.put_len (n : Nd) : (putL l n).length = if (g n.id).isSome then l.length else l.length + 1 := by
  have hlow : lowN l n.id ≤ l.length := by
    unfold lowN
    exact List.Sublist.length_le (List.takeWhile_sublist _)
  have hlen : (putL l n).length = lowN l n.id + 1 + (l.length - (if (l[lowN l n.id]?.map (·.id)) = some n.id then lowN l n.id + 1 else lowN l n.id)) := by
    unfold putL
    simp only [List.length_append, List.length_take, List.length_cons, List.length_nil, List.length_drop]
    omega
  rw [hlen]
  have ha := h.ahead n.id
  have hb := h.behind n.id
  by_cases hc : (l[lowN l n.id]?.map (·.id)) = some n.id
  · rw [if_pos hc]
    obtain ⟨y, hy, hyi⟩ := Option.map_eq_some_iff.1 hc
    rw [(h.get n.id y).2 ⟨List.mem_of_getElem? hy, hyi⟩]
    have := (List.getElem?_eq_some_iff.1 hy).1
    simp only [Option.isSome_some, if_true]
    omega
  · rw [if_neg hc]
    have hn : g n.id = none := by
      cases hg : g n.id with
      | none => rfl
      | some y =>
        exfalso
        obtain ⟨h1, h2⟩ := (h.get _ _).1 hg
        rw [if_neg hc] at hb
        have h3 : y ∈ l.take (lowN l n.id) ++ l.drop (lowN l n.id) := by rw [List.take_append_drop]; exact h1
        rcases List.mem_append.1 h3 with h3 | h3
        · have := ((ha y).1 h3).2; omega
        · have := ((hb y).1 h3).2; omega
    rw [hn]
    simp only [Option.isSome_none, Bool.false_eq_true, if_false]
    omega
end
end Go.Proofs.YthominkfjfnkbaaDoor
