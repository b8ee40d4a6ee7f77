/- What the law NodePlays keeps between its rounds: the table, the list beside it, a copy. -/
import Derived.Test.YthominkfjfnkbaaDoorNodeAt
import Derived.Test.YthominkfjfnkbaaDoorNodeClone
import Derived.Test.YthominkfjfnkbaaDoorAll
namespace Go.Proofs.YthominkfjfnkbaaDoor
open Go Go.RowKit
set_option maxRecDepth 100000
set_option linter.unusedSimpArgs false
variable {E : Nat → Addr} {B : Nat}

/-- A thing that a table is told. -/
structure Do15 where
  kind : Int
  n : Int
  node : Nd
instance : Inhabited Do15 := ⟨⟨0, 0, noNd⟩⟩
def encDo (d : Do15) : List Value := [.int .i64 d.kind, .int .i64 d.n, .int .i64 d.node.id, .int .i64 d.node.kind, .int .i64 d.node.links, .int .i64 d.node.size, .string d.node.target, .int .i64 d.node.parent]
def in64 (x : Int) : Prop := -9223372036854775808 ≤ x ∧ x ≤ 9223372036854775807
def okDo (d : Do15) : Prop := in64 d.n ∧ in64 d.node.id

theorem NB.sub {L L' : List Nat} {w : World} {b n : Nat} {g : Int → Option Nd} {last : Int} (h : NB B L w b g n last) (hs : ∀ x ∈ L', x ∈ L) : NB B L' w b g n last := by
  obtain ⟨h1, h2, m, h3, h4⟩ := h
  exact ⟨h1, fun x hx => h2 x (hs x hx), m, h3, fun x hx => ⟨(h4 x hx).1, fun hl => (h4 x hx).2 (hs x hl)⟩⟩
theorem NB.add {L : List Nat} {w w' : World} {b n : Nat} {g : Int → Option Nd} {last : Int} (h : NB B L w b g n last) (hb : Below w.heap.size w w') (L2 : List Nat) (h2 : ∀ x ∈ L2, w.heap.size ≤ x ∧ x < w'.heap.size) : NB B (L2 ++ L) w' b g n last := by
  obtain ⟨a1, a2, m, a3, a4⟩ := h
  refine ⟨Nat.le_trans a1 hb.size, fun x hx => ?_, m, a3.below hb, fun x hx => ⟨(a4 x hx).1, fun hl => ?_⟩⟩
  · rcases List.mem_append.1 hx with hx | hx
    · exact (h2 x hx).2
    · exact Nat.lt_of_lt_of_le (a2 x hx) hb.size
  · rcases List.mem_append.1 hl with hl | hl
    · have := (h2 x hl).1
      have := a3.own_lt x hx
      omega
    · exact (a4 x hx).2 hl
theorem SlE.keepB {α : Type} {w w' : World} {base : Nat} {e : TypeId} {k : Nat} {enc : α → List Value} {v : Value} {xs : List α} (h : SlE w base e k enc v xs) (hk : ∀ x, v.ownBlock = some x → w'.heap[x]? = w.heap[x]?) : SlE w' base e k enc v xs := by
  obtain ⟨h1, h2⟩ := h
  refine ⟨h1, ?_⟩
  rcases h2 with h | ⟨g, cap, cur, rfl, h4, h5, h6⟩
  · exact .inl h
  · exact .inr ⟨g, cap, cur, rfl, h4, (hk g rfl).trans h5, h6⟩
theorem NodesAt.keepB {w w' : World} {b : Nat} {m : Option Nat} {g : Int → Option Nd} {n : Nat} {last : Int} (h : NodesAt w b m g n last) (hs : w.heap.size ≤ w'.heap.size) (hk : ∀ x, OwnN b m x → w'.heap[x]? = w.heap[x]?) : NodesAt w' b m g n last := by
  obtain ⟨h1, h2, h3, h4, h5, h6⟩ := h
  have hb := hk b (.inl rfl)
  refine ⟨(World.cell?_of_block (a := ⟨b, 0, none⟩) hb).trans h1, (World.cell?_of_block (a := ⟨b, 1, none⟩) hb).trans h2, (World.frozen?_of_block (a := ⟨b, 0, none⟩) hb).trans h3, (World.frozen?_of_block (a := ⟨b, 1, none⟩) hb).trans h4, Nat.lt_of_lt_of_le h5 hs, ?_⟩
  cases m with
  | none => exact h6
  | some r => exact ⟨h6.1, h6.2.keep (hk r (.inr rfl))⟩
/-- The blocks of a table, listed. -/
def ownL (b : Nat) (m : Option Nat) : List Nat := b :: m.toList
theorem ownL_mem {b : Nat} {m : Option Nat} {x : Nat} : x ∈ ownL b m ↔ OwnN b m x := by
  unfold ownL OwnN
  cases m with
  | none => simp
  | some r => simp [eq_comm]
theorem ownB_mem {v : Value} {x : Nat} : x ∈ v.ownBlock.toList ↔ v.ownBlock = some x := by
  cases v.ownBlock with
  | none => simp
  | some r => simp [eq_comm]

/-- Between two rounds. -/
structure Play (E : Nat → Addr) (B : Nat) (w0 w : World) (v : Value) (bt : Nat) (last : Int) (j : Nat) (hv : List Nd) (g : Int → Option Nd) : Prop where
  nb : NB w0.heap.size v.ownBlock.toList w bt g hv.length last
  sl : SlN w w0.heap.size v hv
  have' : HaveOk hv g
  len : hv.length ≤ j
  lo : 0 ≤ last ∧ last ≤ 16777215
  far : ∀ k, last < k → g k = none
  env : Env E B w
  bel : Below w0.heap.size w0 w
  bl : B ≤ w0.heap.size

theorem Play.start {w0 w : World} {bt : Nat} (h : NB w0.heap.size [] w bt (fun _ => none) 0 0) (hE : Env E B w) (hb : Below w0.heap.size w0 w) (hB : B ≤ w0.heap.size) : Play E B w0 w (.slice none 0 0) bt 0 0 [] (fun _ => none) :=
  ⟨h, SlE.nil _ _ _ _ _, HaveOk.nil, Nat.le_refl _, by omega, fun _ _ => rfl, hE, hb, hB⟩

section
variable {w0 w w1 w2 w' : World} {v : Value} {bt : Nat} {last : Int} {j : Nat} {hv : List Nd} {g : Int → Option Nd}
theorem Play.below (h : Play E B w0 w v bt last j hv g) (hb : Below w.heap.size w w') : Play E B w0 w' v bt last j hv g :=
  ⟨(h.nb.below hb).1, h.sl.below hb, h.have', h.len, h.lo, h.far, h.env.below hb, h.bel.trans (hb.mono h.bel.size), h.bl⟩
theorem Play.next (h : Play E B w0 w v bt last j hv g) : Play E B w0 w v bt last (j + 1) hv g :=
  ⟨h.nb, h.sl, h.have', Nat.le_succ_of_le h.len, h.lo, h.far, h.env, h.bel, h.bl⟩
/-- The table has turned; the list has not. -/
theorem Play.turn {L : List Nat} (h : Play E B w0 w v bt last j hv g) (hL : ∀ x ∈ v.ownBlock.toList, x ∈ L) {g' : Int → Option Nd} {n' : Nat} {last' : Int} (hn : NB w0.heap.size L w1 bt g' n' last') (hk : Kept w0.heap.size L w w1) :
    NB w0.heap.size v.ownBlock.toList w1 bt g' n' last' ∧ SlN w1 w0.heap.size v hv ∧ Env E B w1 ∧ Below w0.heap.size w0 w1 := by
  exact ⟨hn.sub hL, h.sl.keepB fun x hx => hk.loc x (hL x (ownB_mem.2 hx)), h.env.keep (hk.below.mono h.bl), h.bel.trans hk.below⟩
theorem Play.stay {L : List Nat} (h : Play E B w0 w v bt last j hv g) (hL : ∀ x ∈ v.ownBlock.toList, x ∈ L) (hn : NB w0.heap.size L w1 bt g hv.length last) (hk : Kept w0.heap.size L w w1) : Play E B w0 w1 v bt last j hv g := by
  obtain ⟨h1, h2, h3, h4⟩ := h.turn hL hn hk
  exact ⟨h1, h2, h.have', h.len, h.lo, h.far, h3, h4, h.bl⟩
/-- The table has turned; a list made anew. -/
theorem Play.set {L : List Nat} (h : Play E B w0 w v bt last j hv g) (hL : ∀ x ∈ v.ownBlock.toList, x ∈ L) {g' : Int → Option Nd} {n' : Nat} {last' : Int} (hn : NB w0.heap.size L w1 bt g' n' last') (hk : Kept w0.heap.size L w w1)
    (hb : Below w1.heap.size w1 w2) {u : Value} {hv' : List Nd} (hu : SlN w2 w1.heap.size u hv') (hh : HaveOk hv' g') (hlen : hv'.length = n') (hj : hv'.length ≤ j + 1) (hlo : 0 ≤ last' ∧ last' ≤ 16777215) (hfar : ∀ k, last' < k → g' k = none) :
    Play E B w0 w2 u bt last' (j + 1) hv' g' := by
  obtain ⟨h1, h2, h3, h4⟩ := h.turn hL hn hk
  have hlt := hu.lt
  have h5 := (hn.add hb u.ownBlock.toList (fun x hx => hlt x (ownB_mem.1 hx))).sub (L' := u.ownBlock.toList) (fun x hx => List.mem_append_left _ hx)
  subst hlen
  exact ⟨h5, hu.mono h4.size, hh, hj, hlo, hfar, h3.below hb, h4.trans (hb.mono h4.size), h.bl⟩
/-- The copy stays. -/
theorem cop_keep {L : List Nat} {b : Nat} {m : Option Nat} {n : Nat} (h : NodesAt w b m g n last) (hL : ∀ x ∈ ownL b m, x ∈ L) (hk : Kept w0.heap.size L w w1) : NodesAt w1 b m g n last :=
  h.keepB hk.below.size fun x hx => hk.loc x (hL x (ownL_mem.2 hx))

theorem nb_clone {L : List Nat} {b n : Nat} (h : NB B L w b g n last) :
    Calls Tryd.prog 47 #[.pointer (some ⟨b, 0, none⟩)] w fun e w' =>
      (∃ b' m', e = .returned (.pointer (some ⟨b', 0, none⟩)) ∧ NodesAt w' b' m' g n last ∧ ∀ x ∈ ownL b' m', w.heap.size ≤ x ∧ x < w'.heap.size) ∧ Below w.heap.size w w' := by
  obtain ⟨_, _, m, h3, _⟩ := h
  exact (nclone_any h3).mono fun e w' ⟨⟨b', m', he, h1, h2⟩, hb⟩ => ⟨⟨b', m', he, h1, fun x hx => ⟨h2 x (ownL_mem.1 hx), h1.own_lt x (ownL_mem.1 hx)⟩⟩, hb⟩
theorem nb_all {L : List Nat} {b n : Nat} (h : NB B L w b g n last) (hn : n ≤ 1000000000) :
    Calls Tryd.prog 51 #[.pointer (some ⟨b, 0, none⟩)] w fun e w' =>
      (∃ v ks, e = .returned v ∧ SlVals w' w.heap.size v (ks.map (Value.int .i64)) ∧ SortedKeys g ks ∧ ks.length = n) ∧ Below w.heap.size w w' := by
  obtain ⟨_, _, m, h3, _⟩ := h
  exact nall_any h3 hn
theorem nb_get' {L : List Nat} {b n : Nat} (h : NB B L w b g n last) {k : Int} (hk : in64 k) :
    Calls Tryd.prog 28 #[.pointer (some ⟨b, 0, none⟩), .int .i64 k] w fun e w' => e = .returned (.tuple #[encN ((g k).getD noNd), .bool (g k).isSome]) ∧ Below w.heap.size w w' := by
  obtain ⟨_, _, m, h3, _⟩ := h
  exact nget_any h3 hk
end
theorem valid_id {n : Nd} (h : validB n = true) : 1 ≤ n.id ∧ n.id ≤ 16777215 := by
  simp only [validB, idB, Bool.and_eq_true, decide_eq_true_eq] at h
  exact h.1
theorem del_none {g : Int → Option Nd} {i : Int} (h : g i = none) : del g i = g := by
  funext k
  unfold del
  by_cases hk : k = i
  · subst hk; rw [if_pos rfl, h]
  · rw [if_neg hk]
end Go.Proofs.YthominkfjfnkbaaDoor
