/- A list of entries by their names, as law 14 keeps it, against a directory's function. -/
import Derived.Test.YthominkfjfnkbaaDoorDirMore
namespace Go.Proofs.YthominkfjfnkbaaDoor
open Go
set_option maxRecDepth 100000

theorem mem_take' {α : Type} {l : List α} {x : α} {n : Nat} (h : x ∈ l.take n) : ∃ m, m < n ∧ l[m]? = some x := by
  obtain ⟨i, hi, rfl⟩ := List.getElem_of_mem h
  rw [List.length_take] at hi
  exact ⟨i, by omega, by rw [List.getElem_take, List.getElem?_eq_getElem]⟩
theorem mem_drop' {α : Type} {l : List α} {x : α} {n : Nat} (h : x ∈ l.drop n) : ∃ m, n ≤ m ∧ l[m]? = some x := by
  obtain ⟨i, hi, rfl⟩ := List.getElem_of_mem h
  rw [List.length_drop] at hi
  exact ⟨n + i, by omega, by rw [List.getElem_drop, List.getElem?_eq_getElem]⟩

/-- Law 14's list stands for a directory. -/
structure HaveD (l : List En) (g : ByteArray → Option En) : Prop where
  rise : l.Pairwise (fun a b => nmLt a.name b.name)
  get : ∀ k x, g k = some x ↔ x ∈ l ∧ x.name = k

theorem HaveD.nil : HaveD [] (fun _ => none) := ⟨List.Pairwise.nil, fun i x => by simp⟩

section
variable {l : List En} {g : ByteArray → Option En} (h : HaveD l g)
include h
theorem HaveD.sorted : SortedNames g (l.map En.name) := by
  refine ⟨List.pairwise_map.2 h.rise, fun k => ?_⟩
  rw [List.mem_map]
  constructor
  · rintro ⟨x, h1, h2⟩
    rw [(h.get k x).2 ⟨h1, h2⟩]; rfl
  · intro hs
    obtain ⟨x, hx⟩ := Option.isSome_iff_exists.1 hs
    exact ⟨x, (h.get k x).1 hx⟩
theorem HaveD.ents {ks : List ByteArray} (hk : SortedNames g ks) : entsOf g ks = l := by
  have h2 := h.sorted
  obtain rfl : ks = l.map En.name := rise_ext hk.rise h2.rise fun x => (hk.mem x).trans (h2.mem x).symm
  unfold entsOf
  rw [List.map_map]
  conv => rhs; rw [← List.map_id l]
  refine List.map_congr_left fun x hx => ?_
  simp only [Function.comp, id]
  rw [(h.get x.name x).2 ⟨hx, rfl⟩]; rfl
theorem HaveD.name {k : ByteArray} {e : En} (hg : g k = some e) : e.name = k := ((h.get k e).1 hg).2
theorem HaveD.lt {i j : Nat} {x y : En} (hx : l[i]? = some x) (hy : l[j]? = some y) (hij : i < j) : nmLt x.name y.name := by
  obtain ⟨i1, e1⟩ := List.getElem?_eq_some_iff.1 hx
  obtain ⟨j1, e2⟩ := List.getElem?_eq_some_iff.1 hy
  have := (List.pairwise_iff_getElem.1 h.rise) i j i1 j1 hij
  rwa [e1, e2] at this
theorem HaveD.find_some {s : ByteArray} {x : En} (hg : g s = some x) : ∃ j : Nat, findI l s 0 = j ∧ l[j]? = some x ∧ j < l.length := by
  obtain ⟨hx, hi⟩ := (h.get s x).1 hg
  obtain ⟨j, hj, he⟩ := List.getElem_of_mem hx
  have hjx : l[j]? = some x := by rw [List.getElem?_eq_getElem hj, he]
  refine ⟨j, ?_, hjx, hj⟩
  rw [findI_hit 0 hjx hi fun m y hm hy hyi => ?_]
  · congr 1; omega
  · have := h.lt hy hjx hm
    rw [hyi, hi] at this
    exact nmLt_irrefl _ this
theorem HaveD.find_none {s : ByteArray} (hg : g s = none) : findI l s 0 = -1 := by
  refine findI_none 0 fun m x hx hxi => ?_
  have := (h.get s x).2 ⟨List.mem_of_getElem? hx, hxi⟩
  rw [hg] at this
  cases this
theorem HaveD.del {s : ByteArray} {j : Nat} {x : En} (hj : l[j]? = some x) (hi : x.name = s) : HaveD (l.take j ++ l.drop (j + 1)) (del g s) := by
  have hjl : j < l.length := (List.getElem?_eq_some_iff.1 hj).1
  have hsplit : l = l.take j ++ x :: l.drop (j + 1) := by
    have : l.drop j = x :: l.drop (j + 1) := by
      rw [List.drop_eq_getElem_cons hjl]
      rw [List.getElem?_eq_getElem hjl] at hj
      injection hj with hj
      rw [hj]
    rw [← this, List.take_append_drop]
  have hr := h.rise
  rw [hsplit, List.pairwise_append, List.pairwise_cons] at hr
  obtain ⟨r1, ⟨r2, r3⟩, r4⟩ := hr
  refine ⟨?_, fun k y => ?_⟩
  · rw [List.pairwise_append]
    exact ⟨r1, r3, fun a ha b hb => r4 a ha b (List.mem_cons_of_mem _ hb)⟩
  · have hm : y ∈ l ↔ y ∈ l.take j ++ l.drop (j + 1) ∨ y = x := by
      conv => lhs; rw [hsplit]
      simp only [List.mem_append, List.mem_cons]
      constructor
      · rintro (h | h | h)
        · exact .inl (.inl h)
        · exact .inr h
        · exact .inl (.inr h)
      · rintro ((h | h) | h)
        · exact .inl h
        · exact .inr (.inr h)
        · exact .inr (.inl h)
    have hnx : y ∈ l.take j ++ l.drop (j + 1) → y.name ≠ s := by
      intro hy hn
      rcases List.mem_append.1 hy with hy | hy
      · have := r4 y hy x (by simp)
        rw [hn, hi] at this
        exact nmLt_irrefl _ this
      · have := r2 y hy
        rw [hn, hi] at this
        exact nmLt_irrefl _ this
    unfold Go.Proofs.YthominkfjfnkbaaDoor.del
    by_cases hk : k = s
    · rw [if_pos hk]
      constructor
      · intro e; cases e
      · rintro ⟨h1, h2⟩
        exact (hnx h1 (h2.trans hk)).elim
    · rw [if_neg hk, h.get, hm]
      constructor
      · rintro ⟨h1 | h1, h2⟩
        · exact ⟨h1, h2⟩
        · subst h1; exact (hk (h2.symm.trans hi)).elim
      · rintro ⟨h1, h2⟩
        exact ⟨.inl h1, h2⟩
theorem HaveD.set {s : ByteArray} {j : Nat} {x : En} (hj : l[j]? = some x) (hi : x.name = s) (a b : Int) : HaveD (l.set j ⟨s, a, b⟩) (upd g s ⟨s, a, b⟩) := by
  have hjl : j < l.length := (List.getElem?_eq_some_iff.1 hj).1
  have hname : ∀ (m : Nat) y, (l.set j ⟨s, a, b⟩)[m]? = some y → ∃ z, l[m]? = some z ∧ z.name = y.name ∧ (m ≠ j → z = y) ∧ (m = j → y = ⟨s, a, b⟩) := by
    intro m y hy
    by_cases hm : m = j
    · subst hm
      rw [List.getElem?_set_self hjl] at hy
      injection hy with hy
      subst hy
      exact ⟨x, hj, hi, fun h => (h rfl).elim, fun _ => rfl⟩
    · rw [List.getElem?_set_ne (Ne.symm hm)] at hy
      exact ⟨y, hy, rfl, fun _ => rfl, fun h => (hm h).elim⟩
  refine ⟨List.pairwise_iff_getElem.2 fun i m hi1 hm1 him => ?_, fun k y => ?_⟩
  · obtain ⟨z1, e1, n1, _⟩ := hname i _ (List.getElem?_eq_getElem hi1)
    obtain ⟨z2, e2, n2, _⟩ := hname m _ (List.getElem?_eq_getElem hm1)
    rw [← n1, ← n2]
    exact h.lt e1 e2 him
  · unfold upd
    by_cases hk : k = s
    · rw [if_pos hk]
      constructor
      · intro e
        injection e with e
        subst e
        refine ⟨?_, hk.symm⟩
        exact List.mem_of_getElem? (List.getElem?_set_self hjl)
      · rintro ⟨h1, h2⟩
        obtain ⟨m, hm1, hm2⟩ := List.getElem_of_mem h1
        obtain ⟨z, e1, n1, n2, n3⟩ := hname m y (by rw [List.getElem?_eq_getElem hm1, hm2])
        by_cases hm : m = j
        · rw [n3 hm]
        · exfalso
          have hz : z.name = x.name := by rw [n1, h2, hk, hi]
          rcases Nat.lt_or_gt_of_ne hm with hlt | hlt
          · have := h.lt e1 hj hlt
            rw [hz] at this
            exact nmLt_irrefl _ this
          · have := h.lt hj e1 hlt
            rw [hz] at this
            exact nmLt_irrefl _ this
    · rw [if_neg hk, h.get]
      constructor
      · rintro ⟨h1, h2⟩
        refine ⟨?_, h2⟩
        obtain ⟨m, hm1, hm2⟩ := List.getElem_of_mem h1
        have hmj : m ≠ j := by
          rintro rfl
          rw [List.getElem?_eq_getElem hm1, hm2] at hj
          injection hj with hj
          subst hj
          exact hk (h2.symm.trans hi)
        refine List.mem_of_getElem? (i := m) ?_
        rw [List.getElem?_set_ne (Ne.symm hmj), List.getElem?_eq_getElem hm1, hm2]
      · rintro ⟨h1, h2⟩
        obtain ⟨m, hm1, hm2⟩ := List.getElem_of_mem h1
        obtain ⟨z, e1, n1, n2, n3⟩ := hname m y (by rw [List.getElem?_eq_getElem hm1, hm2])
        by_cases hm : m = j
        · have := n3 hm
          subst this
          exact (hk h2.symm).elim
        · rw [← n2 hm]
          exact ⟨List.mem_of_getElem? e1, by rw [n1, h2]⟩
theorem HaveD.right {e : En} {c : Nat} (hg : g e.name = none) (he : ∀ y, l[c]? = some y → ¬ nmLt y.name e.name) : ∀ (m : Nat) y, c ≤ m → l[m]? = some y → nmLt e.name y.name := by
  intro m y hm hy
  have hc : c < l.length := by have := (List.getElem?_eq_some_iff.1 hy).1; omega
  have h0 := he _ (List.getElem?_eq_getElem hc)
  have hne : l[c].name ≠ e.name := by
    intro hn
    rw [(h.get e.name l[c]).2 ⟨List.getElem_mem hc, hn⟩] at hg
    cases hg
  have h1 : nmLt e.name l[c].name := by
    rcases nmLt_tri l[c].name e.name with k | k | k
    · exact (h0 k).elim
    · exact (hne k).elim
    · exact k
  rcases Nat.eq_or_lt_of_le hm with rfl | hlt
  · rw [List.getElem?_eq_getElem hc] at hy
    injection hy with hy
    rw [← hy]; exact h1
  · exact nmLt_trans h1 (h.lt (List.getElem?_eq_getElem hc) hy hlt)
theorem HaveD.ins {e : En} {c : Nat} (hg : g e.name = none) (hb : ∀ (m : Nat) y, m < c → l[m]? = some y → nmLt y.name e.name) (he : ∀ y, l[c]? = some y → ¬ nmLt y.name e.name) :
    HaveD (l.take c ++ [e] ++ l.drop c) (upd g e.name e) := by
  have hr := h.right hg he
  refine ⟨?_, fun k x => ?_⟩
  · rw [List.pairwise_append, List.pairwise_append]
    refine ⟨⟨List.Pairwise.sublist (List.take_sublist _ _) h.rise, List.pairwise_singleton _ _, fun a h1 b h2 => ?_⟩, List.Pairwise.sublist (List.drop_sublist _ _) h.rise, fun a h1 b h2 => ?_⟩
    · rw [List.mem_singleton] at h2
      subst h2
      obtain ⟨m, hm, hx⟩ := mem_take' h1
      exact hb m a hm hx
    · obtain ⟨m, hm, hx⟩ := mem_drop' h2
      have h3 := hr m b hm hx
      rcases List.mem_append.1 h1 with h1 | h1
      · obtain ⟨m1, hm1, hx1⟩ := mem_take' h1
        exact nmLt_trans (hb m1 a hm1 hx1) h3
      · rw [List.mem_singleton] at h1
        subst h1
        exact h3
  · have hm : x ∈ l.take c ++ [e] ++ l.drop c ↔ x ∈ l ∨ x = e := by
      conv => rhs; lhs; rw [← List.take_append_drop c l]
      simp only [List.mem_append, List.mem_singleton]
      constructor
      · rintro ((h | h) | h)
        · exact .inl (.inl h)
        · exact .inr h
        · exact .inl (.inr h)
      · rintro ((h | h) | h)
        · exact .inl (.inl h)
        · exact .inr h
        · exact .inl (.inr h)
    rw [hm]
    unfold upd
    by_cases hk : k = e.name
    · rw [if_pos hk]
      constructor
      · intro h1
        injection h1 with h1
        exact ⟨.inr h1.symm, by rw [← h1, hk]⟩
      · rintro ⟨h1 | h1, h2⟩
        · have := (h.get e.name x).2 ⟨h1, h2.trans hk⟩
          rw [hg] at this
          cases this
        · rw [h1]
    · rw [if_neg hk, h.get]
      constructor
      · rintro ⟨h1, h2⟩
        exact ⟨.inl h1, h2⟩
      · rintro ⟨h1 | h1, h2⟩
        · exact ⟨h1, h2⟩
        · subst h1; exact (hk h2.symm).elim
end
end Go.Proofs.YthominkfjfnkbaaDoor
