/- Merged texts: TreeAt TreeStep TreeIo TreePut TreeCnt TreeLawP DocScan DocPlain. -/
import Derived.Test.YtnkcbogikaebfaaGreatDoorBase22
import Derived.Test.YtnkcbogikaebfaaGreatDoorBase13
import Derived.Test.YtnkcbogikaebfaaGreatDoorBase04
section
/- A tree in memory: the world's block, its node table, its map of directories, each directory in blocks of its own; what each operation of tables and directories makes of it. -/
namespace Go.Proofs.YtnkcbogikaebfaaGreatDoor
open Go Go.RowKit
set_option maxRecDepth 100000
set_option linter.unusedSimpArgs false
set_option linter.unusedVariables false
variable {E : Nat → Addr} {B : Nat}

/-- Below B nothing has turned, nor have the blocks of L. -/
structure KeptP (B : Nat) (L : Nat → Prop) (w w' : World) : Prop where
  below : Below B w w'
  loc : ∀ x, L x → w'.heap[x]? = w.heap[x]?
section
variable {L L' : Nat → Prop} {a b c : World}
theorem KeptP.refl (B : Nat) (L : Nat → Prop) (w : World) : KeptP B L w w := ⟨Below.refl _ _, fun _ _ => rfl⟩
theorem KeptP.trans (h : KeptP B L a b) (k : KeptP B L b c) : KeptP B L a c := ⟨h.below.trans k.below, fun x hx => (k.loc x hx).trans (h.loc x hx)⟩
theorem KeptP.mono (h : KeptP B L a b) (hL : ∀ x, L' x → L x) : KeptP B L' a b := ⟨h.below, fun x hx => h.loc x (hL x hx)⟩
theorem KeptP.of_below (h : Below a.heap.size a b) (hB : B ≤ a.heap.size) (hL : ∀ x, L x → x < a.heap.size) : KeptP B L a b := ⟨h.mono hB, fun x hx => h.block x (hL x hx)⟩
theorem KeptP.of_touch {S : Nat → Prop} (h : Touch S a b) (hB : B ≤ a.heap.size) (hL : ∀ x, L x → x < a.heap.size) (hS : ∀ x, S x → B ≤ x ∧ ¬ L x) : KeptP B L a b :=
  ⟨h.below hB (fun x hx => (hS x hx).1), fun x hx => h.block x (hL x hx) (fun hs => (hS x hs).2 hx)⟩
theorem KeptP.cell (h : KeptP B L a b) {x : Nat} (hx : L x) (o : Nat) : b.cell? ⟨x, o, none⟩ = a.cell? ⟨x, o, none⟩ := World.cell?_of_block (w := a) (h.loc x hx)
theorem KeptP.froz (h : KeptP B L a b) {x : Nat} (hx : L x) (o : Nat) : b.frozen? ⟨x, o, none⟩ = a.frozen? ⟨x, o, none⟩ := World.frozen?_of_block (w := a) (h.loc x hx)
/-- Over a step that made new blocks only, the locals among them. -/
theorem KeptP.less (h : Below a.heap.size a b) (k : KeptP B L' b c) (hB : B ≤ a.heap.size) (hL : ∀ x, L x → x < a.heap.size) (hl : ∀ x, L x → L' x) : KeptP B L a c :=
  (KeptP.of_below h hB hL).trans (k.mono hl)
end

/-! ### the plain tree as functions -/
def St.nd (s : St) (k : Int) : Option Nd := (s.get k).map NR.nd
def St.ents (s : St) (k : Int) : List En := ((s.get k).map NR.ents).getD []
theorem St.isDir_nd (s : St) (k : Int) : s.isDir k = match s.nd k with | some n => n.kind == 2 | none => false := by
  unfold St.isDir St.nd
  cases s.get k <;> rfl
theorem nd_put {s : St} (hr : RiseN s.ns) (n : Nd) : (s.put n).nd = upd s.nd n.id n := by
  funext k
  unfold St.nd upd
  rw [get_put hr]
  split <;> simp
theorem ents_put {s : St} (hr : RiseN s.ns) (n : Nd) : (s.put n).ents = fun k => if k = n.id then keepE n (s.get n.id) else s.ents k := by
  funext k
  unfold St.ents
  rw [get_put hr]
  split <;> simp
theorem nd_addE (s : St) (d : Int) (e : En) : (s.addE d e).nd = s.nd := by
  funext k
  unfold St.nd
  rw [get_addE]
  cases s.get k with
  | none => rfl
  | some r => simp only [Option.map_some]; split <;> rfl
theorem ents_addE {s : St} {d : Int} (hd : s.isDir d = true) (e : En) : (s.addE d e).ents = fun k => if k = d then insE e (s.ents d) else s.ents k := by
  funext k
  unfold St.ents
  rw [get_addE]
  cases hk : s.get k with
  | none =>
    simp only [Option.map_none, Option.getD_none]
    split
    · rename_i h; subst h; simp [St.isDir, hk] at hd
    · rfl
  | some r =>
    have hid : r.nd.id = k := findN_id hk
    simp only [Option.map_some, Option.getD_some, hid]
    split
    · rename_i h; subst h; rw [hk]; rfl
    · rfl
theorem nd_delE (s : St) (d : Int) (n : ByteArray) : (s.delE d n).nd = s.nd := by
  funext k
  unfold St.nd
  rw [get_delE]
  cases s.get k with
  | none => rfl
  | some r => simp only [Option.map_some]; split <;> rfl
theorem ents_delE (s : St) (d : Int) (n : ByteArray) : (s.delE d n).ents = fun k => if k = d then cutE n (s.ents d) else s.ents k := by
  funext k
  unfold St.ents
  rw [get_delE]
  cases hk : s.get k with
  | none =>
    simp only [Option.map_none, Option.getD_none]
    split
    · rename_i h; subst h; rw [hk]; rfl
    · rfl
  | some r =>
    have hid : r.nd.id = k := findN_id hk
    simp only [Option.map_some, Option.getD_some, hid]
    split
    · rename_i h; subst h; rw [hk]; rfl
    · rfl
theorem nd_drop (s : St) (id : Int) : (s.drop id).nd = del s.nd id := by
  funext k
  unfold St.nd del
  rw [get_drop]
  split <;> simp
theorem ents_drop (s : St) (id : Int) : (s.drop id).ents = fun k => if k = id then [] else s.ents k := by
  funext k
  unfold St.ents
  rw [get_drop]
  split <;> simp
theorem isDir_addE (s : St) (d : Int) (e : En) (k : Int) : (s.addE d e).isDir k = s.isDir k := by rw [St.isDir_nd, St.isDir_nd, nd_addE]
theorem isDir_delE (s : St) (d : Int) (e : ByteArray) (k : Int) : (s.delE d e).isDir k = s.isDir k := by rw [St.isDir_nd, St.isDir_nd, nd_delE]
theorem entOf_ins {e : En} {l : List En} (hn : entOf l e.name = none) : entOf (insE e l) = upd (entOf l) e.name e := funext fun k => entOf_insE hn k
theorem entOf_cut (n : ByteArray) (l : List En) : entOf (cutE n l) = del (entOf l) n := funext fun k => entOf_cutE n l k
theorem dirOf_isDir {s : St} {k : Int} (h : s.isDir k = true) : s.dirOf k = some (s.ents k) := by
  unfold St.isDir at h
  unfold St.dirOf St.ents
  cases hk : s.get k with
  | none => rw [hk] at h; cases h
  | some r =>
    rw [hk] at h
    simp only [beq_iff_eq] at h
    simp [h]
theorem dirOf_not {s : St} {k : Int} (h : s.isDir k = false) : s.dirOf k = none := by
  unfold St.isDir at h
  unfold St.dirOf
  cases hk : s.get k with
  | none => rfl
  | some r =>
    rw [hk] at h
    simp only [beq_eq_false_iff_ne] at h
    simp [h]

/-! ### in memory -/
def encP (x : Nat) : Value := .pointer (some ⟨x, 0, none⟩)
abbrev PMap (w : World) (r : Nat) (g : Int → Option Nat) (n : Nat) : Prop := MapAt Tryz.prog 3 (Value.int .i64) encP w r g n

abbrev Dirs := Int → Option (Nat × Option Nat)
abbrev blocks (dirs : Dirs) : Int → Option Nat := fun k => (dirs k).map Prod.fst

structure LowAt (w : World) (b t dm : Nat) (nm : Option Nat) (dirs : Dirs) (pn : Nat) (lab : Nat → Int) (nd : Int → Option Nd) (n : Nat) (last : Int) (de : Int → List En) : Prop where
  c0 : w.cell? ⟨b, 0, none⟩ = some (.pointer (some ⟨t, 0, none⟩))
  c1 : w.cell? ⟨b, 1, none⟩ = some (.map (some dm))
  nodes : NodesAt w t nm nd n last
  map : PMap w dm (blocks dirs) pn
  own : ∀ k p, dirs k = some p → DirAt w p.1 p.2 (entOf (de k)) (de k).length
  bare : ∀ k, dirs k = none → de k = []
  labn : ∀ x, OwnN t nm x → lab x = -2
  labd : ∀ k p, dirs k = some p → 1 ≤ k ∧ ∀ x, OwnD p.1 p.2 x → lab x = k
  labb : lab b = -1
  labm : lab dm = -4
  lt : ∀ x, lab x ≠ 0 → x < w.heap.size

section
variable {w w' : World} {b t dm : Nat} {nm : Option Nat} {dirs : Dirs} {pn : Nat} {lab : Nat → Int} {nd : Int → Option Nd} {n : Nat} {last : Int} {de : Int → List En}
theorem LowAt.touch (h : LowAt w b t dm nm dirs pn lab nd n last de) {S : Nat → Prop} (ht : Touch S w w') (hn : ∀ x, lab x ≠ 0 → ¬ S x) : LowAt w' b t dm nm dirs pn lab nd n last de := by
  have hb : lab b ≠ 0 := by rw [h.labb]; decide
  have hm : lab dm ≠ 0 := by rw [h.labm]; decide
  refine ⟨(ht.cell (p := ⟨b, 0, none⟩) (h.lt b hb) (hn b hb)).trans h.c0, (ht.cell (p := ⟨b, 1, none⟩) (h.lt b hb) (hn b hb)).trans h.c1,
    h.nodes.touch ht (fun x hx => hn x (by rw [h.labn x hx]; decide)), h.map.touch ht (hn dm hm), fun k p hp => ?_, h.bare, h.labn, h.labd, h.labb, h.labm,
    fun x hx => Nat.lt_of_lt_of_le (h.lt x hx) ht.size⟩
  obtain ⟨h1, h2⟩ := h.labd k p hp
  exact (h.own k p hp).touch ht (fun x hx => hn x (by rw [h2 x hx]; omega))

open Classical in
/-- Behind an operation of the table. -/
theorem LowAt.turnN (h : LowAt w b t dm nm dirs pn lab nd n last de) {nd' : Int → Option Nd} {n' : Nat} {last' : Int} (ho : NodesOut t nm nd' n' last' w w') :
    ∃ nm' lab', LowAt w' b t dm nm' dirs pn lab' nd' n' last' de ∧ Touch (fun x => lab x ≠ 0) w w' ∧ ∀ x, lab' x ≠ 0 → lab x ≠ 0 ∨ w.heap.size ≤ x := by
  obtain ⟨m', h1, h2, h3⟩ := ho
  have hb : lab b ≠ 0 := by rw [h.labb]; decide
  have hm : lab dm ≠ 0 := by rw [h.labm]; decide
  have nb : ¬ OwnN t nm b := fun hx => by have := h.labn b hx; rw [h.labb] at this; omega
  have nm2 : ¬ OwnN t nm dm := fun hx => by have := h.labn dm hx; rw [h.labm] at this; omega
  have old : ∀ x, x < w.heap.size → (if w.heap.size ≤ x ∧ OwnN t m' x then (-2 : Int) else lab x) = lab x := fun x hx => if_neg (fun hh => by omega)
  refine ⟨m', fun x => if w.heap.size ≤ x ∧ OwnN t m' x then -2 else lab x, ⟨?_, ?_, h1, ?_, ?_, h.bare, ?_, ?_, ?_, ?_, ?_⟩, ?_, ?_⟩
  · exact (h2.cell (p := ⟨b, 0, none⟩) (h.lt b hb) nb).trans h.c0
  · exact (h2.cell (p := ⟨b, 1, none⟩) (h.lt b hb) nb).trans h.c1
  · exact h.map.touch h2 nm2
  · intro k p hp
    obtain ⟨h4, h5⟩ := h.labd k p hp
    exact (h.own k p hp).touch h2 (fun x hx hn => by have := h5 x hx; rw [h.labn x hn] at this; omega)
  · intro x hx
    show (if w.heap.size ≤ x ∧ OwnN t m' x then (-2 : Int) else lab x) = -2
    split
    · rfl
    · rename_i hc
      rcases h3 x hx with hy | hy
      · exact h.labn x hy
      · exact absurd ⟨hy, hx⟩ hc
  · intro k p hp
    obtain ⟨h4, h5⟩ := h.labd k p hp
    refine ⟨h4, fun x hx => ?_⟩
    exact (old x (h.lt x (by rw [h5 x hx]; omega))).trans (h5 x hx)
  · exact (old b (h.lt b hb)).trans h.labb
  · exact (old dm (h.lt dm hm)).trans h.labm
  · intro x hx
    try simp only at hx
    split at hx
    · rename_i hc; exact h1.own_lt x hc.2
    · exact Nat.lt_of_lt_of_le (h.lt x hx) h2.size
  · exact h2.mono (fun x hx _ => by rw [h.labn x hx]; decide)
  · intro x hx
    try simp only at hx
    split at hx
    · rename_i hc; exact .inr hc.1
    · exact .inl hx

open Classical in
/-- Behind an operation of a directory. -/
theorem LowAt.turnD (h : LowAt w b t dm nm dirs pn lab nd n last de) {k : Int} {x : Nat} {m : Option Nat} (hk : dirs k = some (x, m)) {l' : List En} {g' : ByteArray → Option En} {n' : Nat} (ho : DirOut x m g' n' w w') (hg : g' = entOf l') (hn' : n' = l'.length) :
    ∃ m' lab', LowAt w' b t dm nm (upd dirs k (x, m')) pn lab' nd n last (fun i => if i = k then l' else de i) ∧ Touch (fun x => lab x ≠ 0) w w' ∧ ∀ x, lab' x ≠ 0 → lab x ≠ 0 ∨ w.heap.size ≤ x := by
  obtain ⟨m', h1, h2, h3⟩ := ho
  subst hg hn'
  obtain ⟨k1, k2⟩ := h.labd k _ hk
  have hb : lab b ≠ 0 := by rw [h.labb]; decide
  have hm : lab dm ≠ 0 := by rw [h.labm]; decide
  have nb : ¬ OwnD x m b := fun hx => by have := k2 b hx; rw [h.labb] at this; omega
  have nm2 : ¬ OwnD x m dm := fun hx => by have := k2 dm hx; rw [h.labm] at this; omega
  have old : ∀ y, y < w.heap.size → (if w.heap.size ≤ y ∧ OwnD x m' y then k else lab y) = lab y := fun x hx => if_neg (fun hh => by omega)
  have hbl : blocks (upd dirs k (x, m')) = blocks dirs := by
    funext i
    unfold blocks upd
    split
    · rename_i he; subst he; rw [hk]; rfl
    · rfl
  refine ⟨m', fun y => if w.heap.size ≤ y ∧ OwnD x m' y then k else lab y, ⟨?_, ?_, ?_, ?_, ?_, ?_, ?_, ?_, ?_, ?_, ?_⟩, ?_, ?_⟩
  · exact (h2.cell (p := ⟨b, 0, none⟩) (h.lt b hb) nb).trans h.c0
  · exact (h2.cell (p := ⟨b, 1, none⟩) (h.lt b hb) nb).trans h.c1
  · exact h.nodes.touch h2 (fun y hy hn => by have := k2 y hn; rw [h.labn y hy] at this; omega)
  · rw [hbl]; exact h.map.touch h2 nm2
  · intro i p hp
    unfold upd at hp
    by_cases hi : i = k
    · rw [if_pos hi] at hp ⊢
      injection hp with hp
      subst hp
      exact h1
    · rw [if_neg hi] at hp ⊢
      obtain ⟨h4, h5⟩ := h.labd i p hp
      exact (h.own i p hp).touch h2 (fun y hy hn => hi (by have := h5 y hy; rw [k2 y hn] at this; exact this.symm))
  · intro i hi
    unfold upd at hi
    by_cases he : i = k
    · rw [if_pos he] at hi; cases hi
    · rw [if_neg he] at hi
      simp only [if_neg he]
      exact h.bare i hi
  · intro y hy
    exact (old y (h.lt y (by rw [h.labn y hy]; decide))).trans (h.labn y hy)
  · intro i p hp
    unfold upd at hp
    by_cases hi : i = k
    · rw [if_pos hi] at hp
      injection hp with hp
      subst hp
      rw [hi]
      refine ⟨k1, fun y hy => ?_⟩
      show (if w.heap.size ≤ y ∧ OwnD x m' y then k else lab y) = k
      split
      · rfl
      · rename_i hc
        rcases h3 y hy with hz | hz
        · exact k2 y hz
        · exact absurd ⟨hz, hy⟩ hc
    · rw [if_neg hi] at hp
      obtain ⟨h4, h5⟩ := h.labd i p hp
      exact ⟨h4, fun y hy => (old y (h.lt y (by rw [h5 y hy]; omega))).trans (h5 y hy)⟩
  · exact (old b (h.lt b hb)).trans h.labb
  · exact (old dm (h.lt dm hm)).trans h.labm
  · intro y hy
    try simp only at hy
    split at hy
    · rename_i hc; exact h1.own_lt y hc.2
    · exact Nat.lt_of_lt_of_le (h.lt y hy) h2.size
  · exact h2.mono (fun y hy _ => by rw [k2 y hy]; omega)
  · intro y hy
    try simp only at hy
    split at hy
    · rename_i hc; exact .inr hc.1
    · exact .inl hy

/-- A directory is put out of the map. -/
theorem LowAt.turnM (h : LowAt w b t dm nm dirs pn lab nd n last de) {k : Int} {pn' : Nat} (hm : PMap w' dm (del (blocks dirs) k) pn') (ht : w.mapTurned w' dm) :
    LowAt w' b t dm nm (del dirs k) pn' lab nd n last (fun i => if i = k then [] else de i) ∧ Touch (fun x => lab x ≠ 0) w w' := by
  have t1 := Touch.of_turned ht
  have hb : lab b ≠ 0 := by rw [h.labb]; decide
  have hdm : lab dm ≠ 0 := by rw [h.labm]; decide
  have nb : ¬ b = dm := fun hx => by have := h.labb; rw [hx, h.labm] at this; omega
  have hbl : blocks (del dirs k) = del (blocks dirs) k := by
    funext i
    unfold blocks del
    split <;> rfl
  refine ⟨⟨?_, ?_, ?_, by rw [hbl]; exact hm, ?_, ?_, h.labn, ?_, h.labb, h.labm, fun x hx => Nat.lt_of_lt_of_le (h.lt x hx) t1.size⟩, t1.mono (fun x hx _ => by subst hx; exact hdm)⟩
  · exact (t1.cell (p := ⟨b, 0, none⟩) (h.lt b hb) nb).trans h.c0
  · exact (t1.cell (p := ⟨b, 1, none⟩) (h.lt b hb) nb).trans h.c1
  · exact h.nodes.touch t1 (fun y hy hn => by subst hn; have := h.labn _ hy; rw [h.labm] at this; omega)
  · intro i p hp
    unfold del at hp
    by_cases hi : i = k
    · rw [if_pos hi] at hp; cases hp
    · rw [if_neg hi] at hp ⊢
      obtain ⟨h4, h5⟩ := h.labd i p hp
      exact (h.own i p hp).touch t1 (fun y hy hn => by subst hn; have := h5 _ hy; rw [h.labm] at this; omega)
  · intro i hi
    unfold del at hi
    by_cases he : i = k
    · simp only [if_pos he]
    · rw [if_neg he] at hi
      simp only [if_neg he]
      exact h.bare i hi
  · intro i p hp
    unfold del at hp
    by_cases hi : i = k
    · rw [if_pos hi] at hp; cases hp
    · rw [if_neg hi] at hp
      exact h.labd i p hp

/-- A new directory is put into the map. -/
theorem LowAt.turnA (h : LowAt w b t dm nm dirs pn lab nd n last de) {k : Int} (hk : 1 ≤ k) (hno : dirs k = none) {x pn' : Nat} (hx : w.heap.size ≤ x) (hd : DirAt w' x none (fun _ => none) 0) (hm : PMap w' dm (upd (blocks dirs) k x) pn') (t1 : Touch (fun y => y = dm) w w') :
    ∃ lab', LowAt w' b t dm nm (upd dirs k (x, none)) pn' lab' nd n last de ∧ Touch (fun x => lab x ≠ 0) w w' ∧ ∀ x, lab' x ≠ 0 → lab x ≠ 0 ∨ w.heap.size ≤ x := by
  have hb : lab b ≠ 0 := by rw [h.labb]; decide
  have hdm : lab dm ≠ 0 := by rw [h.labm]; decide
  have nb : ¬ b = dm := fun hx => by have := h.labb; rw [hx, h.labm] at this; omega
  have hbl : blocks (upd dirs k (x, none)) = upd (blocks dirs) k x := by
    funext i
    unfold blocks upd
    split <;> rfl
  have old : ∀ y, y < w.heap.size → (if y = x then k else lab y) = lab y := fun y hy => if_neg (fun hh => by omega)
  have hle := t1.size
  refine ⟨fun y => if y = x then k else lab y, ⟨?_, ?_, ?_, by rw [hbl]; exact hm, ?_, ?_, ?_, ?_, ?_, ?_, ?_⟩, t1.mono (fun x hx _ => by subst hx; exact hdm), ?_⟩
  · exact (t1.cell (p := ⟨b, 0, none⟩) (h.lt b hb) nb).trans h.c0
  · exact (t1.cell (p := ⟨b, 1, none⟩) (h.lt b hb) nb).trans h.c1
  · exact h.nodes.touch t1 (fun y hy hn => by subst hn; have := h.labn _ hy; rw [h.labm] at this; omega)
  · intro i p hp
    unfold upd at hp
    by_cases hi : i = k
    · rw [if_pos hi] at hp
      injection hp with hp
      subst hp
      rw [hi, h.bare k hno]
      exact hd
    · rw [if_neg hi] at hp
      obtain ⟨h4, h5⟩ := h.labd i p hp
      exact (h.own i p hp).touch t1 (fun y hy hn => by subst hn; have := h5 _ hy; rw [h.labm] at this; omega)
  · intro i hi
    unfold upd at hi
    by_cases he : i = k
    · rw [if_pos he] at hi; cases hi
    · rw [if_neg he] at hi
      exact h.bare i hi
  · intro y hy
    exact (old y (h.lt y (by rw [h.labn y hy]; decide))).trans (h.labn y hy)
  · intro i p hp
    unfold upd at hp
    by_cases hi : i = k
    · rw [if_pos hi] at hp
      injection hp with hp
      subst hp
      rw [hi]
      refine ⟨hk, fun y hy => ?_⟩
      rcases hy with rfl | hy
      · exact if_pos rfl
      · cases hy
    · rw [if_neg hi] at hp
      obtain ⟨h4, h5⟩ := h.labd i p hp
      exact ⟨h4, fun y hy => (old y (h.lt y (by rw [h5 y hy]; omega))).trans (h5 y hy)⟩
  · exact (old b (h.lt b hb)).trans h.labb
  · exact (old dm (h.lt dm hdm)).trans h.labm
  · intro y hy
    try simp only at hy
    split at hy
    · rename_i hc; subst hc; exact hd.2.2.1
    · exact Nat.lt_of_lt_of_le (h.lt y hy) hle
  · intro y hy
    try simp only at hy
    split at hy
    · rename_i hc; subst hc; exact .inr hx
    · exact .inl hy
end

/-- A law's own tree: its blocks are from B on and not among L. -/
def WL (B : Nat) (L : Nat → Prop) (w : World) (b t dm : Nat) (nd : Int → Option Nd) (n : Nat) (last : Int) (de : Int → List En) (Q : Dirs → Prop) : Prop :=
  B ≤ w.heap.size ∧ (∀ x, L x → x < w.heap.size) ∧ ∃ nm dirs pn lab, LowAt w b t dm nm dirs pn lab nd n last de ∧ (∀ x, lab x ≠ 0 → B ≤ x ∧ ¬ L x) ∧ Q dirs

section
variable {L L' : Nat → Prop} {w w' : World} {b t dm : Nat} {nd : Int → Option Nd} {n : Nat} {last : Int} {de : Int → List En} {Q Q' : Dirs → Prop}
theorem WL.weak (h : WL B L w b t dm nd n last de Q) (hq : ∀ d, Q d → Q' d) : WL B L w b t dm nd n last de Q' := by
  obtain ⟨h1, h2, nm, dirs, pn, lab, h3, h4, h5⟩ := h
  exact ⟨h1, h2, nm, dirs, pn, lab, h3, h4, hq _ h5⟩
theorem WL.less (h : WL B L w b t dm nd n last de Q) (hL : ∀ x, L' x → L x) : WL B L' w b t dm nd n last de Q := by
  obtain ⟨h1, h2, nm, dirs, pn, lab, h3, h4, h5⟩ := h
  exact ⟨h1, fun x hx => h2 x (hL x hx), nm, dirs, pn, lab, h3, fun x hx => ⟨(h4 x hx).1, fun hl => (h4 x hx).2 (hL x hl)⟩, h5⟩
theorem WL.kept (h : WL B L w b t dm nd n last de Q) (hb : Below w.heap.size w w') : KeptP B L w w' := KeptP.of_below hb h.1 h.2.1
theorem WL.below (h : WL B L w b t dm nd n last de Q) (hb : Below w.heap.size w w') : WL B L w' b t dm nd n last de Q := by
  obtain ⟨h1, h2, nm, dirs, pn, lab, h3, h4, h5⟩ := h
  exact ⟨Nat.le_trans h1 hb.size, fun x hx => Nat.lt_of_lt_of_le (h2 x hx) hb.size, nm, dirs, pn, lab, h3.touch (Touch.of_below hb NoB) (fun _ _ h => h), h4, h5⟩
/-- New blocks of a law's own beside it. -/
theorem WL.loc' (h : WL B L w b t dm nd n last de Q) (hb : Below w.heap.size w w') (hl : ∀ x, L' x → L x ∨ (w.heap.size ≤ x ∧ x < w'.heap.size)) : WL B L' w' b t dm nd n last de Q := by
  have h' := h.below hb
  obtain ⟨h1, h2, nm, dirs, pn, lab, h3, h4, h5⟩ := h
  refine ⟨h'.1, fun x hx => ?_, nm, dirs, pn, lab, h3.touch (Touch.of_below hb NoB) (fun _ _ h => h), fun x hx => ⟨(h4 x hx).1, fun hx' => ?_⟩, h5⟩
  · rcases hl x hx with h | h
    · exact h'.2.1 x h
    · exact h.2
  · rcases hl x hx' with h | h
    · exact (h4 x hx).2 h
    · have := h3.lt x hx; omega
theorem WL.loc (h : WL B L w b t dm nd n last de Q) (o : Obj) : WL B (fun x => x = w.heap.size ∨ L x) (w.alloc o) b t dm nd n last de Q :=
  h.loc' (bl_alloc (Below.refl _ _) _) (fun x hx => by
    rcases hx with rfl | hx
    · right; simp
    · exact .inl hx)
/-- A block of the law's own is written. -/
theorem WL.set (h : WL B L w b t dm nd n last de Q) {p : Addr} (hp : L p.block) (u : Value) : WL B L (w.setCell p u) b t dm nd n last de Q := by
  obtain ⟨h1, h2, nm, dirs, pn, lab, h3, h4, h5⟩ := h
  refine ⟨by simpa using h1, fun x hx => by simpa using h2 x hx, nm, dirs, pn, lab, h3.touch (S := fun x => x = p.block) (Touch.setCell (S := fun x => x = p.block) (Touch.refl _ _) (.inl rfl) _) ?_, h4, h5⟩
  rintro x hx rfl
  exact (h4 _ hx).2 hp
theorem WL.c0 (h : WL B L w b t dm nd n last de Q) : w.cell? ⟨b, 0, none⟩ = some (.pointer (some ⟨t, 0, none⟩)) := by
  obtain ⟨h1, h2, nm, dirs, pn, lab, h3, h4, h5⟩ := h; exact h3.c0
theorem WL.c1 (h : WL B L w b t dm nd n last de Q) : w.cell? ⟨b, 1, none⟩ = some (.map (some dm)) := by
  obtain ⟨h1, h2, nm, dirs, pn, lab, h3, h4, h5⟩ := h; exact h3.c1
theorem WL.lt (h : WL B L w b t dm nd n last de Q) : b < w.heap.size ∧ t < w.heap.size ∧ dm < w.heap.size := by
  obtain ⟨h1, h2, nm, dirs, pn, lab, h3, h4, h5⟩ := h
  exact ⟨h3.lt b (by rw [h3.labb]; decide), h3.nodes.lt, h3.lt dm (by rw [h3.labm]; decide)⟩
theorem WL.out (h : B ≤ w.heap.size) (hl : ∀ x, L x → x < w.heap.size) {lab : Nat → Int} (h4 : ∀ x, lab x ≠ 0 → B ≤ x ∧ ¬ L x) {nm' : Option Nat} {dirs' : Dirs} {pn' : Nat} {lab' : Nat → Int} (h5 : LowAt w' b t dm nm' dirs' pn' lab' nd n last de)
    (ht : Touch (fun x => lab x ≠ 0) w w') (hn : ∀ x, lab' x ≠ 0 → lab x ≠ 0 ∨ w.heap.size ≤ x) (hq : Q dirs') : WL B L w' b t dm nd n last de Q ∧ KeptP B L w w' := by
  refine ⟨⟨Nat.le_trans h ht.size, fun x hx => Nat.lt_of_lt_of_le (hl x hx) ht.size, nm', dirs', pn', lab', h5, fun x hx => ?_, hq⟩, KeptP.of_touch ht h hl h4⟩
  rcases hn x hx with h | h'
  · exact h4 x h
  · exact ⟨Nat.le_trans h h', fun hx => by have := hl x hx; omega⟩

theorem wl_len (h : WL B L w b t dm nd n last de Q) : Calls Tryz.prog 78 #[.pointer (some ⟨t, 0, none⟩)] w fun e w' => e = .returned (.int .i64 n) ∧ w = w' := by
  obtain ⟨h1, h2, nm, dirs, pn, lab, h3, h4, h5⟩ := h
  exact nlen_any h3.nodes
theorem wl_get (h : WL B L w b t dm nd n last de Q) {k : Int} (hk : -9223372036854775808 ≤ k ∧ k ≤ 9223372036854775807) :
    Calls Tryz.prog 11 #[.pointer (some ⟨t, 0, none⟩), .int .i64 k] w fun e w' => e = .returned (.tuple #[encN ((nd k).getD noNd), .bool (nd k).isSome]) ∧ Below w.heap.size w w' := by
  obtain ⟨h1, h2, nm, dirs, pn, lab, h3, h4, h5⟩ := h
  exact nget_any h3.nodes hk
theorem wl_put (h : WL B L w b t dm nd n last de Q) (x : Nd) (hx : validB x = true) (hn : (nd x.id).isSome = false → n < 512) (hE : Env E B w) :
    Calls Tryz.prog 107 #[.pointer (some ⟨t, 0, none⟩), encN x] w fun e w' => e = .returned .nilIface ∧
      WL B L w' b t dm (upd nd x.id x) (if (nd x.id).isSome then n else n + 1) (max last x.id) de Q ∧ KeptP B L w w' := by
  obtain ⟨h1, h2, nm, dirs, pn, lab, h3, h4, h5⟩ := h
  refine (nput_ok h3.nodes x hx hn hE).mono fun e w' ⟨he, ho⟩ => ⟨he, ?_⟩
  obtain ⟨nm', lab', h6, h7, h8⟩ := h3.turnN ho
  exact WL.out h1 h2 h4 h6 h7 h8 h5
theorem wl_new (h : WL B L w b t dm nd n last de Q) {k : Int} (hk : kindB k = true) (hn : n < 512) (hl : 0 ≤ last ∧ last < 16777215) (hg : nd (last + 1) = none) (hE : Env E B w) :
    Calls Tryz.prog 72 #[.pointer (some ⟨t, 0, none⟩), .int .i64 k] w fun e w' => e = .returned (.tuple #[.int .i64 (last + 1), .nilIface]) ∧
      WL B L w' b t dm (upd nd (last + 1) (newNd (last + 1) k)) (n + 1) (last + 1) de Q ∧ KeptP B L w w' := by
  obtain ⟨h1, h2, nm, dirs, pn, lab, h3, h4, h5⟩ := h
  refine (nnew_ok h3.nodes hk hn hl hg hE (fun x hx => (h4 x (by rw [h3.labn x hx]; decide)).1)).mono fun e w' ⟨he, ho⟩ => ⟨he, ?_⟩
  obtain ⟨nm', lab', h6, h7, h8⟩ := h3.turnN ho
  exact WL.out h1 h2 h4 h6 h7 h8 h5
theorem wl_new_full (h : WL B L w b t dm nd n last de Q) {k : Int} (hk : kindB k = true) (hf : 512 ≤ n ∨ 16777215 ≤ last) (hE : Env E B w) :
    Calls Tryz.prog 72 #[.pointer (some ⟨t, 0, none⟩), .int .i64 k] w fun e w' => e = .returned (.tuple #[.int .i64 0, errV E 9]) ∧ Below w.heap.size w w' := by
  obtain ⟨h1, h2, nm, dirs, pn, lab, h3, h4, h5⟩ := h
  exact nnew_full h3.nodes hk hf hE
theorem wl_ndel (h : WL B L w b t dm nd n last de Q) {k : Int} (hk : -9223372036854775808 ≤ k ∧ k ≤ 9223372036854775807) :
    Calls Tryz.prog 123 #[.pointer (some ⟨t, 0, none⟩), .int .i64 k] w fun e w' => e = .returned (.bool (nd k).isSome) ∧
      WL B L w' b t dm (del nd k) (if (nd k).isSome then n - 1 else n) last de Q ∧ KeptP B L w w' := by
  obtain ⟨h1, h2, nm, dirs, pn, lab, h3, h4, h5⟩ := h
  refine (ndel_any h3.nodes hk).mono fun e w' ⟨he, ho⟩ => ⟨he, ?_⟩
  obtain ⟨nm', lab', h6, h7, h8⟩ := h3.turnN ho
  exact WL.out h1 h2 h4 h6 h7 h8 h5

/-- A directory is put out of the map. -/
theorem wl_mdel (h : WL B L w b t dm nd n last de Q) {k : Int} (hk : -9223372036854775808 ≤ k ∧ k ≤ 9223372036854775807) (ty : TypeId) :
    ∃ w', (Builtin.delete_ #[34, 3] ty #[.map (some dm), .int .i64 k]).run Tryz.prog w = .ok (.tuple #[]) w' ∧
      WL B L w' b t dm nd n last (fun i => if i = k then [] else de i) (fun d => ∃ d0, Q d0 ∧ d = del d0 k) ∧ KeptP B L w w' := by
  obtain ⟨h1, h2, nm, dirs, pn, lab, h3, h4, h5⟩ := h
  obtain ⟨w', hr, hm, ht⟩ := h3.map.drop kdInt Tryz.underlying34 inj64 (keyI hk) ty
  obtain ⟨h6, h7⟩ := h3.turnM hm ht
  exact ⟨w', hr, WL.out h1 h2 h4 h6 h7 (fun x hx => .inl hx) ⟨dirs, h5, rfl⟩⟩
/-- A directory's block, by its number. -/
def HasD (k : Int) (x : Nat) : Dirs → Prop := fun d => ∃ m, d k = some (x, m)
def NoD (k : Int) : Dirs → Prop := fun d => d k = none
theorem WL.split (h : WL B L w b t dm nd n last de Q) (k : Int) : WL B L w b t dm nd n last de (fun d => Q d ∧ NoD k d) ∨ ∃ x, WL B L w b t dm nd n last de (fun d => Q d ∧ HasD k x d) := by
  obtain ⟨h1, h2, nm, dirs, pn, lab, h3, h4, h5⟩ := h
  cases hk : dirs k with
  | none => exact .inl ⟨h1, h2, nm, dirs, pn, lab, h3, h4, h5, hk⟩
  | some p => exact .inr ⟨p.1, h1, h2, nm, dirs, pn, lab, h3, h4, h5, p.2, hk⟩
theorem zeroP (w : World) : (zeroValue 42).run Tryz.prog w = .ok (.pointer none) w := by kernel_rfl
theorem wl_look_no (h : WL B L w b t dm nd n last de Q) {k : Int} (hk : -9223372036854775808 ≤ k ∧ k ≤ 9223372036854775807) (hq : ∀ d, Q d → NoD k d) :
    (Instr.lookup 34 (.map (some dm)) (.int .i64 k) false).run Tryz.prog w = .ok (.pointer none) w := by
  obtain ⟨h1, h2, nm, dirs, pn, lab, h3, h4, h5⟩ := h
  have hg : blocks dirs k = none := by unfold blocks; rw [hq _ h5]; rfl
  have := h3.map.look_none kdInt Tryz.underlying34 inj64 (zeroP w) (keyI hk) hg false
  simpa using this
theorem wl_look (h : WL B L w b t dm nd n last de Q) {k : Int} (hk : -9223372036854775808 ≤ k ∧ k ≤ 9223372036854775807) {x : Nat} (hq : ∀ d, Q d → HasD k x d) :
    (Instr.lookup 34 (.map (some dm)) (.int .i64 k) false).run Tryz.prog w = .ok (.pointer (some ⟨x, 0, none⟩)) w := by
  obtain ⟨h1, h2, nm, dirs, pn, lab, h3, h4, h5⟩ := h
  obtain ⟨m, hm⟩ := hq _ h5
  have hg : blocks dirs k = some x := by unfold blocks; rw [hm]; rfl
  have := h3.map.look_some kdInt Tryz.underlying34 inj64 (keyI hk) hg false
  simpa [encP] using this
/-- A new directory is put into the map. -/
theorem wl_madd {w1 : World} {x : Nat} (h : WL B L w b t dm nd n last de Q) (h1' : w1 = w.alloc (.cells #[.map none] 87)) (hx : x = w.heap.size) {k : Int} (hk : 1 ≤ k ∧ k ≤ 9223372036854775807) (hq : ∀ d, Q d → NoD k d) :
    ∃ w', (Instr.mapUpdate 34 (.map (some dm)) (.int .i64 k) (.pointer (some ⟨x, 0, none⟩))).run Tryz.prog w1 = .ok () w' ∧
      WL B L w' b t dm nd n last de (fun d => ∃ d0, Q d0 ∧ d = upd d0 k (x, none)) ∧ KeptP B L w w' := by
  subst h1'
  subst hx
  obtain ⟨h1, h2, nm, dirs, pn, lab, h3, h4, h5⟩ := h
  obtain ⟨w', hr, hm, ht⟩ := (h3.map.alloc (.cells #[.map none] 87)).put kdInt Tryz.underlying34 inj64 (keyI (a := k) ⟨by omega, hk.2⟩) w.heap.size
  have hdm : dm < w.heap.size := h3.lt dm (by rw [h3.labm]; decide)
  have ht2 : Touch (fun y => y = dm) w w' := (Touch.alloc (Touch.refl _ _) _).trans (Touch.of_turned ht) (fun x hx _ => hx)
  have hd : DirAt w' w.heap.size none (fun _ => none) 0 := by
    have hd0 : DirAt (w.alloc (.cells #[.map none] 87)) w.heap.size none (fun _ => none) 0 := ⟨by simp, by simp, by simp, rfl, fun _ => rfl⟩
    refine hd0.touch (Touch.of_turned ht) (fun y hy => ?_)
    rcases hy with rfl | hy
    · omega
    · cases hy
  obtain ⟨lab', h6, h7, h8⟩ := h3.turnA hk.1 (hq _ h5) (Nat.le_refl _) hd hm ht2
  exact ⟨w', hr, WL.out h1 h2 h4 h6 h7 h8 ⟨dirs, h5, rfl⟩⟩

theorem wl_dlen (h : WL B L w b t dm nd n last de Q) {k : Int} {x : Nat} (hq : ∀ d, Q d → HasD k x d) : Calls Tryz.prog 38 #[.pointer (some ⟨x, 0, none⟩)] w fun e w' => e = .returned (.int .i64 (de k).length) ∧ w = w' := by
  obtain ⟨h1, h2, nm, dirs, pn, lab, h3, h4, h5⟩ := h
  obtain ⟨m, hm⟩ := hq _ h5
  exact dlen_any (h3.own k _ hm)
theorem wl_dget (h : WL B L w b t dm nd n last de Q) {k : Int} {x : Nat} (hq : ∀ d, Q d → HasD k x d) {s : ByteArray} (hs : s.size ≤ maxLen) :
    Calls Tryz.prog 122 #[.pointer (some ⟨x, 0, none⟩), .string s] w fun e w' => e = .returned (.tuple #[encE ((entOf (de k) s).getD noEn), .bool (entOf (de k) s).isSome]) ∧ Below w.heap.size w w' := by
  obtain ⟨h1, h2, nm, dirs, pn, lab, h3, h4, h5⟩ := h
  obtain ⟨m, hm⟩ := hq _ h5
  exact dget_any (h3.own k _ hm) hs
theorem wl_dadd (h : WL B L w b t dm nd n last de Q) {k : Int} {x : Nat} (hq : ∀ d, Q d → HasD k x d) (hQ : ∀ d m, Q d → Q (upd d k (x, m))) (e : En) (hyes : addCode (entOf (de k)) e = 0) (hE : Env E B w) :
    Calls Tryz.prog 103 #[.pointer (some ⟨x, 0, none⟩), encE e] w fun v w' => v = .returned .nilIface ∧
      WL B L w' b t dm nd n last (fun i => if i = k then insE e (de k) else de i) Q ∧ KeptP B L w w' := by
  obtain ⟨h1, h2, nm, dirs, pn, lab, h3, h4, h5⟩ := h
  obtain ⟨m, hm⟩ := hq _ h5
  have hno : entOf (de k) e.name = none := by
    have := (addCode_zero hyes).2.2.2
    cases he : entOf (de k) e.name with
    | none => rfl
    | some y => rw [he] at this; cases this
  refine (dadd_ok (h3.own k _ hm) e hyes hE).mono fun v w' ⟨he, ho⟩ => ⟨he, ?_⟩
  obtain ⟨m', lab', h6, h7, h8⟩ := h3.turnD hm ho (entOf_ins hno).symm (insE_length e _).symm
  exact WL.out h1 h2 h4 h6 h7 h8 (hQ _ _ h5)
theorem wl_ddel (h : WL B L w b t dm nd n last de Q) {k : Int} {x : Nat} (hq : ∀ d, Q d → HasD k x d) (hQ : ∀ d m, Q d → Q (upd d k (x, m))) {s : ByteArray} (hs : s.size ≤ maxLen) (hr : RiseE (de k)) :
    Calls Tryz.prog 101 #[.pointer (some ⟨x, 0, none⟩), .string s] w fun v w' => v = .returned (.tuple #[encE ((entOf (de k) s).getD noEn), .bool (entOf (de k) s).isSome]) ∧
      WL B L w' b t dm nd n last (fun i => if i = k then cutE s (de k) else de i) Q ∧ KeptP B L w w' := by
  obtain ⟨h1, h2, nm, dirs, pn, lab, h3, h4, h5⟩ := h
  obtain ⟨m, hm⟩ := hq _ h5
  refine (ddel_any (h3.own k _ hm) hs).mono fun v w' ⟨he, ho⟩ => ⟨he, ?_⟩
  obtain ⟨m', lab', h6, h7, h8⟩ := h3.turnD hm ho (entOf_cut s _).symm (cutE_length hr).symm
  exact WL.out h1 h2 h4 h6 h7 h8 (hQ _ _ h5)
end

/-! ### a tree of the plain kind in memory -/
/-- Who has a directory's block is a directory. -/
def Fit (st : St) (d : Dirs) : Prop := ∀ k, d k ≠ none → st.isDir k = true
abbrev WB (B : Nat) (L : Nat → Prop) (w : World) (b t dm : Nat) (st : St) : Prop := WL B L w b t dm st.nd st.ns.length st.last st.ents (Fit st)
/-- .. and the directory k has the block x. -/
abbrev WD (B : Nat) (L : Nat → Prop) (w : World) (b t dm : Nat) (st : St) (k : Int) (x : Nat) : Prop := WL B L w b t dm st.nd st.ns.length st.last st.ents (fun d => Fit st d ∧ HasD k x d)
section
variable {L L' : Nat → Prop} {w w' : World} {b t dm x : Nat} {st : St} {k : Int}
theorem WL.wb (h : WD B L w b t dm st k x) : WB B L w b t dm st := h.weak fun _ hd => hd.1
theorem Fit.upd {d : Dirs} (h : Fit st d) {m : Option Nat} (hk : HasD k x d) : Fit st (upd d k (x, m)) := by
  obtain ⟨m0, hm⟩ := hk
  intro i hi
  unfold Go.Proofs.YtnkcbogikaebfaaGreatDoor.upd at hi
  split at hi
  · rename_i he; subst he; exact h i (by rw [hm]; simp)
  · exact h i hi
theorem fitD {d : Dirs} (h : Fit st d ∧ HasD k x d) (m : Option Nat) : Fit st (Go.Proofs.YtnkcbogikaebfaaGreatDoor.upd d k (x, m)) ∧ HasD k x (Go.Proofs.YtnkcbogikaebfaaGreatDoor.upd d k (x, m)) :=
  ⟨h.1.upd h.2, m, by unfold Go.Proofs.YtnkcbogikaebfaaGreatDoor.upd; rw [if_pos rfl]⟩
theorem Fit.addE {d : Dirs} (h : Fit st d) (i : Int) (e : En) : Fit (st.addE i e) d := fun k hk => by rw [isDir_addE]; exact h k hk
theorem Fit.delE {d : Dirs} (h : Fit st d) (i : Int) (e : ByteArray) : Fit (st.delE i e) d := fun k hk => by rw [isDir_delE]; exact h k hk
theorem WD.isDir (h : WD B L w b t dm st k x) : st.isDir k = true := by
  obtain ⟨h1, h2, nm, dirs, pn, lab, h3, h4, h5, m, h6⟩ := h
  exact h5 k (by rw [h6]; simp)
/-- An entry is added to a directory. -/
theorem wb_dadd (h : WD B L w b t dm st k x) (e : En) (hyes : addCode (entOf (st.ents k)) e = 0) (hE : Env E B w) :
    Calls Tryz.prog 103 #[.pointer (some ⟨x, 0, none⟩), encE e] w fun v w' => v = .returned .nilIface ∧
      WB B L w' b t dm (st.addE k e) ∧ KeptP B L w w' := by
  have hd := WD.isDir h
  refine (wl_dadd h (fun d hd => hd.2) (fun d m hd => fitD hd m) e hyes hE).mono fun v w' ⟨he, h1, h2⟩ => ⟨he, ?_, h2⟩
  unfold WB
  rw [nd_addE, ents_addE hd, show (st.addE k e).ns.length = st.ns.length from onR_length _ _ _, show (st.addE k e).last = st.last from rfl]
  exact h1.weak fun d hd => hd.1.addE _ _
theorem wb_ddel (h : WD B L w b t dm st k x) {s : ByteArray} (hs : s.size ≤ maxLen) (hr : RiseE (st.ents k)) :
    Calls Tryz.prog 101 #[.pointer (some ⟨x, 0, none⟩), .string s] w fun v w' => v = .returned (.tuple #[encE ((entOf (st.ents k) s).getD noEn), .bool (entOf (st.ents k) s).isSome]) ∧
      WB B L w' b t dm (st.delE k s) ∧ KeptP B L w w' := by
  refine (wl_ddel h (fun d hd => hd.2) (fun d m hd => fitD hd m) hs hr).mono fun v w' ⟨he, h1, h2⟩ => ⟨he, ?_, h2⟩
  unfold WB
  rw [nd_delE, ents_delE, show (st.delE k s).ns.length = st.ns.length from onR_length _ _ _, show (st.delE k s).last = st.last from rfl]
  exact h1.weak fun d hd => hd.1.delE _ _
end
end Go.Proofs.YtnkcbogikaebfaaGreatDoor
end

section
/- Trees in plain words: a walk's steps one by one; how many parts a path has. -/
namespace Go.Proofs.YtnkcbogikaebfaaGreatDoor
set_option maxRecDepth 100000
set_option linter.unusedSimpArgs false
set_option linter.unusedVariables false

theorem partsOf_len : ∀ {l : List (List UInt8)} {ps : List ByteArray}, partsOf l = some ps → ps.length ≤ l.length
  | [], ps, h => by cases h; simp
  | x :: l, ps, h => by
    unfold partsOf at h
    split at h
    · have := partsOf_len h; simp; omega
    · split at h
      · cases h
      · cases hp : partsOf l with
        | none => rw [hp] at h; cases h
        | some r =>
          rw [hp] at h
          cases h
          have := partsOf_len hp
          simp
          omega
theorem cuts_len : ∀ l : List UInt8, (cuts l).length ≤ l.length + 1
  | [] => by simp [cuts]
  | c :: l => by
    have := cuts_len l
    unfold cuts
    split
    · simp; omega
    · split
      · simp
      · rename_i h; rw [h] at this; simp at this ⊢; omega
theorem parse_len (s : ByteArray) : (parseP s).2.parts.length ≤ 257 := by
  unfold parseP
  split
  · simp [noPth]
  · split
    · simp [noPth]
    · split
      · simp [noPth]
      · split
        · simp [noPth]
        · rename_i h1 h2 h3 ps h
          have := partsOf_len h
          have h4 := cuts_len s.data.toList
          have h5 : s.data.toList.length = s.size := Array.length_toList
          simp only
          omega
theorem parse_code (s : ByteArray) : (parseP s).1 = 0 ∨ (parseP s).1 = 109 ∨ (parseP s).1 = 114 ∨ (parseP s).1 = 115 := by
  unfold parseP
  split
  · simp
  · split
    · simp
    · split
      · simp
      · split <;> simp

/-! ### a walk's steps -/
def nextH (s : St) (follow slash : Bool) : Nat → ByteArray → Int → List ByteArray → Int × Int
  | 0 => fun _ _ _ => (116, 0)
  | h + 1 => fun t at' ps =>
    let q := tgtOf t at'
    if q.1.1 ≠ 0 then (q.1.1, 0) else goH s follow slash h (q.1.2.parts ++ ps) q.2
theorem goH_eq (s : St) (follow slash : Bool) (h : Nat) : goH s follow slash h = goParts s follow slash (nextH s follow slash h) := by cases h <;> rfl
section
variable {s : St} {follow slash : Bool} {h : Nat} {p : ByteArray} {ps : List ByteArray} {at' : Int}
theorem go_nil : goH s follow slash h [] at' = if slash && !s.isDir at' then (111, 0) else (0, at') := by
  rw [goH_eq]; rfl
theorem nd_get {k : Int} {d : Nd} (hd : s.nd k = some d) : ∃ r, s.get k = some r ∧ r.nd = d ∧ r.ents = s.ents k := by
  unfold St.nd at hd
  unfold St.ents
  cases hr : s.get k with
  | none => rw [hr] at hd; cases hd
  | some r => rw [hr] at hd; cases hd; exact ⟨r, rfl, rfl, rfl⟩
theorem nd_none {k : Int} (hd : s.nd k = none) : s.get k = none := by
  unfold St.nd at hd
  cases hr : s.get k with
  | none => rfl
  | some r => rw [hr] at hd; cases hd
theorem go_nodir (hd : s.isDir at' = false) : goH s follow slash h (p :: ps) at' = (111, 0) := by
  rw [goH_eq, goParts]
  unfold St.isDir at hd
  cases hr : s.get at' with
  | none => rfl
  | some r =>
    rw [hr] at hd
    simp only [beq_eq_false_iff_ne] at hd
    simp only
    rw [if_pos hd]
theorem go_up {d : Nd} (hd : s.nd at' = some d) (hk : d.kind = 2) (hu : isUp p = true) : goH s follow slash h (p :: ps) at' = goH s follow slash h ps (upOf d) := by
  obtain ⟨r, h1, h2, h3⟩ := nd_get hd
  subst h2
  rw [goH_eq, goParts, h1]
  simp only
  rw [if_neg (by simp [hk]), if_pos hu]
theorem go_noent {d : Nd} (hd : s.nd at' = some d) (hk : d.kind = 2) (hu : isUp p = false) (he : entOf (s.ents at') p = none) : goH s follow slash h (p :: ps) at' = (109, 0) := by
  obtain ⟨r, h1, h2, h3⟩ := nd_get hd
  subst h2
  rw [goH_eq, goParts, h1]
  simp only
  rw [if_neg (by simp [hk]), if_neg (by simp [hu]), h3, he]
theorem go_on {d x : Nd} {e : En} (hd : s.nd at' = some d) (hk : d.kind = 2) (hu : isUp p = false) (he : entOf (s.ents at') p = some e) (hn : s.nd e.node = some x) (hx : x.kind ≠ 3 ∨ (ps = [] ∧ follow = false ∧ slash = false)) :
    goH s follow slash h (p :: ps) at' = goH s follow slash h ps e.node := by
  obtain ⟨r, h1, h2, h3⟩ := nd_get hd
  obtain ⟨y, h4, h5, h6⟩ := nd_get hn
  subst h2 h5
  rw [goH_eq, goParts, h1]
  simp only
  rw [if_neg (by simp [hk]), if_neg (by simp [hu]), h3, he]
  simp only
  rw [h4]
  simp only
  rw [if_pos hx]
theorem go_ln {d x : Nd} {e : En} (hd : s.nd at' = some d) (hk : d.kind = 2) (hu : isUp p = false) (he : entOf (s.ents at') p = some e) (hn : s.nd e.node = some x) (hx : ¬ (x.kind ≠ 3 ∨ (ps = [] ∧ follow = false ∧ slash = false))) :
    goH s follow slash h (p :: ps) at' = nextH s follow slash h x.target at' ps := by
  obtain ⟨r, h1, h2, h3⟩ := nd_get hd
  obtain ⟨y, h4, h5, h6⟩ := nd_get hn
  subst h2 h5
  rw [goH_eq, goParts, h1]
  simp only
  rw [if_neg (by simp [hk]), if_neg (by simp [hu]), h3, he]
  simp only
  rw [h4]
  simp only
  rw [if_neg hx]
theorem next_bad {t : ByteArray} (hq : (tgtOf t at').1.1 ≠ 0) : nextH s follow slash (h + 1) t at' ps = ((tgtOf t at').1.1, 0) := by
  unfold nextH
  simp only
  rw [if_pos hq]
theorem next_ok {t : ByteArray} (hq : (tgtOf t at').1.1 = 0) : nextH s follow slash (h + 1) t at' ps = goH s follow slash h ((tgtOf t at').1.2.parts ++ ps) (tgtOf t at').2 := by
  unfold nextH
  simp only
  rw [if_neg (by simp [hq])]
end
theorem isDir_some {s : St} {k : Int} (h : s.isDir k = true) : ∃ d, s.nd k = some d ∧ d.kind = 2 := by
  rw [St.isDir_nd] at h
  cases hd : s.nd k with
  | none => rw [hd] at h; cases h
  | some d => rw [hd] at h; exact ⟨d, rfl, by simpa using h⟩
theorem isDir_no {s : St} {k : Int} (h : s.nd k = none) : s.isDir k = false := by rw [St.isDir_nd, h]
end Go.Proofs.YtnkcbogikaebfaaGreatDoor
end

section
/- The walks of package walk: a world's nodes and directories: dir, Dir, entry, up, Put, Drop, Empty, New. -/
namespace Go.Proofs.YtnkcbogikaebfaaGreatDoor
open Go Go.RowKit
set_option maxRecDepth 100000
set_option linter.unusedSimpArgs false
set_option linter.unusedVariables false
attribute [local go_sem] giv
variable {E : Nat → Addr} {B : Nat}

section
variable {L : Nat → Prop} {w : World} {b t dm : Nat} {st : St}

/-- A new block, and what other blocks made behind it leave of it. -/
theorem new_kept {w w1 : World} {o : Obj} (hb : Below (w.alloc o).heap.size (w.alloc o) w1) : (∀ i, w1.cell? ⟨w.heap.size, i, none⟩ = (w.alloc o).cell? ⟨w.heap.size, i, none⟩) ∧ (∀ i, w1.frozen? ⟨w.heap.size, i, none⟩ = (w.alloc o).frozen? ⟨w.heap.size, i, none⟩) ∧
    w.heap.size < w1.heap.size ∧ Below w.heap.size w w1 := by
  have h1 : (w.alloc o).heap.size = w.heap.size + 1 := by simp
  have h2 := hb.size
  refine ⟨fun i => hb.cell (p := ⟨w.heap.size, i, none⟩) (by simp), fun i => hb.frozen (p := ⟨w.heap.size, i, none⟩) (by simp), by omega, ?_⟩
  exact (bl_alloc (Below.refl _ _) _).trans (hb.mono (by omega))

/-- A block's cells written, all new. -/
theorem bel6 {w w1 : World} (h : Below w.heap.size w w1) {a : Nat} (ha : w.heap.size ≤ a) (u0 u1 u2 u3 u4 u5 : Value) (o : Obj) :
    Below w.heap.size w (((((((w1.setCell ⟨a, 0, none⟩ u0).setCell ⟨a, 1, none⟩ u1).setCell ⟨a, 2, none⟩ u2).setCell ⟨a, 3, none⟩ u3).setCell ⟨a, 4, none⟩ u4).setCell ⟨a, 5, none⟩ u5).alloc o).drew :=
  Below.drew (bl_alloc (Below.setCell (Below.setCell (Below.setCell (Below.setCell (Below.setCell (Below.setCell h ha u0) ha u1) ha u2) ha u3) ha u4) ha u5) o)
set_option maxHeartbeats 1000000 in
theorem wdir_any (h : WB B L w b t dm st) {k : Int} (hk : -9223372036854775808 ≤ k ∧ k ≤ 9223372036854775807) :
    Calls Tryz.prog 35 #[.pointer (some ⟨b, 0, none⟩), .int .i64 k] w fun e w' => e = .returned (.tuple #[encN ((st.nd k).getD noNd), .bool (st.isDir k)]) ∧ Below w.heap.size w w' := by
  have hc := h.c0
  have hlt := h.lt.1
  have H := Lib.hid h
  clear h
  have hd : st.isDir k = ((st.nd k).isSome && (((st.nd k).getD noNd).kind == 2)) := by
    rw [St.isDir_nd]
    cases st.nd k <;> rfl
  generalize hP : (fun (e : Ending) (w' : World) => e = .returned (.tuple #[encN ((st.nd k).getD noNd), .bool (st.isDir k)]) ∧ Below w.heap.size w w') = Post
  rw [hd] at hP
  have HP := Lib.hid hP
  clear hP hd
  go_enter Tryz.func35, Tryz.ntmps35
  go_wp2_with fail
  refine (wl_get (H.out.below (bl_alloc (Below.refl _ _) _)) hk).mono ?_
  rintro e w1 ⟨rfl, hb⟩
  obtain ⟨k1, k2, k3, k4⟩ := new_kept hb
  have x0 : w1.cell? ⟨w.heap.size, 0, none⟩ = some (.int .i64 0) := (k1 0).trans (by simp)
  have x1 : w1.cell? ⟨w.heap.size, 1, none⟩ = some (.int .i64 0) := (k1 1).trans (by simp)
  have x2 : w1.cell? ⟨w.heap.size, 2, none⟩ = some (.int .i64 0) := (k1 2).trans (by simp)
  have x3 : w1.cell? ⟨w.heap.size, 3, none⟩ = some (.int .i64 0) := (k1 3).trans (by simp)
  have x4 : w1.cell? ⟨w.heap.size, 4, none⟩ = some (.string { data := #[] }) := (k1 4).trans (by simp)
  have x5 : w1.cell? ⟨w.heap.size, 5, none⟩ = some (.int .i64 0) := (k1 5).trans (by simp)
  have xf : ∀ i, w1.frozen? ⟨w.heap.size, i, none⟩ = false := fun i => (k2 i).trans (by simp)
  have HB := Lib.hid k4
  clear k1 k2 k4 hb H hc
  obtain ⟨n, hn⟩ : ∃ n, n = (st.nd k).getD noNd := ⟨_, rfl⟩
  rw [← hn] at HP ⊢
  generalize (st.nd k).isSome = is at *
  clear hn
  obtain ⟨n1, n2, n3, n4, n5, n6⟩ := n
  simp only [encN] at HP ⊢
  cases is with
  | false =>
    go_wp2
    go_region
    go_wp2
    rw [← HP.out]
    refine bodyPost_ret (v := .tuple #[.agg #[.int .i64 n1, .int .i64 n2, .int .i64 n3, .int .i64 n4, .string n5, .int .i64 n6], .bool false]) (by simp [results, Tryz.results35, go_sem, x0, x1, x2, x3, x4, x5, k3]) rfl ⟨rfl, bel6 HB.out (Nat.le_refl _) _ _ _ _ _ _ _⟩
  | true =>
    go_wp2
    go_region
    go_wp2
    rw [← HP.out]
    refine bodyPost_ret (v := .tuple #[.agg #[.int .i64 n1, .int .i64 n2, .int .i64 n3, .int .i64 n4, .string n5, .int .i64 n6], .bool (n2 == 2)]) (by simp [results, Tryz.results35, go_sem, x0, x1, x2, x3, x4, x5, k3]) rfl ⟨by simp, bel6 HB.out (Nat.le_refl _) _ _ _ _ _ _ _⟩

/-- Dir of what is none. -/
theorem wDir_no (h : WB B L w b t dm st) {k : Int} (hk : -9223372036854775808 ≤ k ∧ k ≤ 9223372036854775807) (hd : st.isDir k = false) :
    Calls Tryz.prog 12 #[.pointer (some ⟨b, 0, none⟩), .int .i64 k] w fun e w' => e = .returned (.tuple #[.pointer none, .bool false]) ∧ Below w.heap.size w w' := by
  have H := Lib.hid h
  have HD := Lib.hid hd
  clear h hd
  generalize (st.nd k).getD noNd = n at *
  go_enter Tryz.func12, Tryz.ntmps12
  go_wp2_with fail
  refine (wdir_any H.out hk).mono ?_
  rintro e w1 ⟨rfl, hb⟩
  rw [HD.out]
  generalize (st.nd k).getD noNd = n at *
  obtain ⟨n1, n2, n3, n4, n5, n6⟩ := n
  simp only [encN]
  go_wp2
  go_ret2
  exact ⟨rfl, bl_alloc hb _⟩
/-- Dir of a directory. -/
theorem wDir_yes (h : WB B L w b t dm st) {k : Int} (hk : 1 ≤ k ∧ k ≤ 9223372036854775807) (hd : st.isDir k = true) :
    Calls Tryz.prog 12 #[.pointer (some ⟨b, 0, none⟩), .int .i64 k] w fun e w' => ∃ x, e = .returned (.tuple #[.pointer (some ⟨x, 0, none⟩), .bool true]) ∧ WD B L w' b t dm st k x ∧ KeptP B L w w' := by
  have H := Lib.hid h
  have HD := Lib.hid hd
  clear h hd
  go_enter Tryz.func12, Tryz.ntmps12
  go_wp2_with fail
  refine (wdir_any H.out (by omega)).mono ?_
  rintro e w1 ⟨rfl, hb⟩
  rw [HD.out]
  generalize (st.nd k).getD noNd = n at *
  obtain ⟨n1, n2, n3, n4, n5, n6⟩ := n
  simp only [encN]
  have h1 : WB B L w1 b t dm st := H.out.below hb
  have hc1 := h1.c1
  have hlt1 := h1.lt.1
  have hl2 := h1.lt.2.2
  have K1 : KeptP B L w w1 := H.out.kept hb
  rcases h1.split k with h2 | ⟨x, h2⟩
  · have H1 := Lib.hid h2
    have K := Lib.hid K1
    clear h1 h2 hb H K1
    have hb2 : Below w1.heap.size w1 (w1.alloc (.cells #[.int .i64 n1, .int .i64 n2, .int .i64 n3, .int .i64 n4, .string n5, .int .i64 n6] 39)) := bl_alloc (Below.refl _ _) _
    have H2 := Lib.hid (H1.out.below hb2)
    have K2 := Lib.hid (K.out.trans (H1.out.kept hb2))
    have C2 := Lib.hid ((hb2.cell (p := ⟨b, 1, none⟩) hlt1).trans hc1)
    clear hb2
    go_wp2_with (first
      | (at_lookup; refine wpList_look rfl _ _ _ _ rfl (wl_look_no H2.out (by omega) (fun d hd => hd.2)) ?_))
    obtain ⟨w2, hr, h3, k3⟩ := wl_madd (x := w1.heap.size + 1) H2.out rfl (by simp) hk (fun d hd => hd.2)
    rw [hr]
    have h4 : WD B L w2 b t dm st k (w1.heap.size + 1) := h3.weak (by
      rintro d ⟨d0, ⟨h1, h2⟩, rfl⟩
      refine ⟨fun i hi => ?_, none, by unfold upd; rw [if_pos rfl]⟩
      unfold upd at hi
      split at hi
      · rename_i he; rw [he]; exact HD.out
      · exact h1 i hi)
    have H4 := Lib.hid h4
    have K4 := Lib.hid (K2.out.trans k3)
    have hc4 := h4.c1
    have hlt4 := h4.lt.1
    clear h3 k3 h4 hr C2 H2 K2
    go_wp2_with (at_lookup; refine wpList_look rfl _ _ _ _ rfl (wl_look H4.out (by omega) (fun d hd => hd.2)) ?_)
    go_ret2
    exact ⟨_, rfl, H4.out, K4.out⟩
  · have H1 := Lib.hid h2
    have K := Lib.hid K1
    clear h1 h2 hb H HD K1
    have hb2 : Below w1.heap.size w1 (w1.alloc (.cells #[.int .i64 n1, .int .i64 n2, .int .i64 n3, .int .i64 n4, .string n5, .int .i64 n6] 39)) := bl_alloc (Below.refl _ _) _
    have H2 := Lib.hid (H1.out.below hb2)
    have K2 := Lib.hid (K.out.trans (H1.out.kept hb2))
    clear hb2
    go_wp2_with (at_lookup; refine wpList_look rfl _ _ _ _ rfl (wl_look H2.out (by omega) (fun d hd => hd.2)) ?_)
    go_ret2
    exact ⟨x, rfl, H2.out, K2.out⟩
end
end Go.Proofs.YtnkcbogikaebfaaGreatDoor
end

section
/- The walks of package walk: entry, up, Put, Drop, Empty, New. -/
namespace Go.Proofs.YtnkcbogikaebfaaGreatDoor
open Go Go.RowKit
set_option maxRecDepth 100000
set_option linter.unusedSimpArgs false
set_option linter.unusedVariables false
attribute [local go_sem] giv
variable {E : Nat → Addr} {B : Nat}

section
variable {L : Nat → Prop} {w : World} {b t dm : Nat} {st : St}

theorem KeptP.set {a c : World} (h : KeptP B L a c) {p : Addr} (hp : B ≤ p.block) (hn : ¬ L p.block) (u : Value) : KeptP B L a (c.setCell p u) :=
  ⟨h.below.setCell hp u, fun x hx => (Below.heap_setCell _ _ _ _ (fun he => hn (he ▸ hx))).trans (h.loc x hx)⟩
theorem KeptP.then {a c d : World} (h : KeptP B L a c) (k : Below c.heap.size c d) (hB : B ≤ c.heap.size) (hL : ∀ x, L x → x < c.heap.size) : KeptP B L a d := h.trans (KeptP.of_below k hB hL)
/-- One new block of the law's own, then what the tree does: what stays. -/
theorem WL.out1 {nd : Int → Option Nd} {n : Nat} {last : Int} {de : Int → List En} {Q : Dirs → Prop} (h : WL B L w b t dm nd n last de Q) {o : Obj} {w' : World} (k : KeptP B (fun x => x = w.heap.size ∨ L x) (w.alloc o) w') :
    (∀ i, w'.cell? ⟨w.heap.size, i, none⟩ = (w.alloc o).cell? ⟨w.heap.size, i, none⟩) ∧ (∀ i, w'.frozen? ⟨w.heap.size, i, none⟩ = (w.alloc o).frozen? ⟨w.heap.size, i, none⟩) ∧ KeptP B L w w' :=
  ⟨fun i => k.cell (.inl rfl) i, fun i => k.froz (.inl rfl) i, KeptP.less (bl_alloc (Below.refl _ _) o) k h.1 h.2.1 (fun x hx => .inr hx)⟩
theorem WL.notL {nd : Int → Option Nd} {n : Nat} {last : Int} {de : Int → List En} {Q : Dirs → Prop} (h : WL B L w b t dm nd n last de Q) {x : Nat} (hx : w.heap.size ≤ x) : ¬ L x := fun hl => by have := h.2.1 x hl; omega

/-- A node's cells. -/
def ndC (n : Nd) : List Value := [.int .i64 n.id, .int .i64 n.kind, .int .i64 n.links, .int .i64 n.size, .string n.target, .int .i64 n.parent]
theorem wup_any (n : Nd) (w : World) : Calls Tryz.prog 119 #[encN n] w fun e w' => e = .returned (.int .i64 (upOf n)) ∧ Below w.heap.size w w' := by
  obtain ⟨n1, n2, n3, n4, n5, n6⟩ := n
  unfold encN upOf
  simp only
  by_cases h : n1 = 1
  · subst h
    go_enter Tryz.func119, Tryz.ntmps119
    go_wp2
    go_ret
    exact ⟨rfl, bl_alloc (Below.refl _ _) _⟩
  · have h2 : (n1 == 1) = false := by rw [beq_eq_false_iff_ne]; exact h
    rw [if_neg h]
    go_enter Tryz.func119, Tryz.ntmps119
    go_wp2
    go_ret
    exact ⟨rfl, bl_alloc (Below.refl _ _) _⟩

theorem wentry_no (h : WB B L w b t dm st) {k : Int} (hk : -9223372036854775808 ≤ k ∧ k ≤ 9223372036854775807) (hd : st.isDir k = false) (s : ByteArray) :
    Calls Tryz.prog 100 #[.pointer (some ⟨b, 0, none⟩), .int .i64 k, .string s] w fun e w' => e = .returned (.tuple #[encE noEn, .bool false]) ∧ Below w.heap.size w w' := by
  have H := Lib.hid h
  have HD := Lib.hid hd
  clear h hd
  go_enter Tryz.func100, Tryz.ntmps100
  go_wp2_with fail
  refine (wDir_no (H.out.below (bl_alloc (Below.refl _ _) _)) hk HD.out).mono ?_
  rintro e w1 ⟨rfl, hb⟩
  obtain ⟨k1, k2, k3, k4⟩ := new_kept hb
  have x0 : w1.cell? ⟨w.heap.size, 0, none⟩ = some (.string { data := #[] }) := (k1 0).trans (by simp)
  have x1 : w1.cell? ⟨w.heap.size, 1, none⟩ = some (.int .i64 0) := (k1 1).trans (by simp)
  have x2 : w1.cell? ⟨w.heap.size, 2, none⟩ = some (.int .i64 0) := (k1 2).trans (by simp)
  have xf : ∀ i, w1.frozen? ⟨w.heap.size, i, none⟩ = false := fun i => (k2 i).trans (by simp)
  have HB := Lib.hid k4
  clear k1 k2 k4 hb H HD
  go_wp2
  refine bodyPost_ret (v := .tuple #[encE noEn, .bool false]) (by simp [results, Tryz.results100, go_sem, x0, x1, x2, encE, noEn]) rfl ⟨rfl, ?_⟩
  exact ((HB.out.setCell (Nat.le_refl _) _).setCell (Nat.le_refl _) _).setCell (Nat.le_refl _) _
theorem entry_dir {k : Int} (hd : st.isDir k = true) (s : ByteArray) : st.entry k s = entOf (st.ents k) s := by
  unfold St.entry
  rw [dirOf_isDir hd]
  rfl
theorem entry_not {k : Int} (hd : st.isDir k = false) (s : ByteArray) : st.entry k s = none := by
  unfold St.entry
  rw [dirOf_not hd]
  rfl
theorem wentry_yes (h : WB B L w b t dm st) {k : Int} (hk : 1 ≤ k ∧ k ≤ 9223372036854775807) (hd : st.isDir k = true) {s : ByteArray} (hs : s.size ≤ maxLen) :
    Calls Tryz.prog 100 #[.pointer (some ⟨b, 0, none⟩), .int .i64 k, .string s] w fun e w' =>
      e = .returned (.tuple #[encE ((entOf (st.ents k) s).getD noEn), .bool (entOf (st.ents k) s).isSome]) ∧ WB B L w' b t dm st ∧ KeptP B L w w' := by
  have H := Lib.hid h
  have HD := Lib.hid hd
  have HS := Lib.hid hs
  obtain ⟨q, hq⟩ : ∃ q, (entOf (st.ents k) s).getD noEn = q := ⟨_, rfl⟩
  obtain ⟨is, his⟩ : ∃ is, (entOf (st.ents k) s).isSome = is := ⟨_, rfl⟩
  rw [hq, his]
  have HQ := Lib.hid hq
  have HI := Lib.hid his
  obtain ⟨q1, q2, q3⟩ := q
  simp only [encE]
  clear h hd hs hq his
  go_enter Tryz.func100, Tryz.ntmps100
  go_wp2_with fail
  refine (wDir_yes (WL.loc H.out _) hk HD.out).mono ?_
  rintro e w1 ⟨x, rfl, h1, k1⟩
  have H1 := Lib.hid h1
  have K1 := Lib.hid k1
  clear h1 k1
  go_wp2_with fail
  refine (wl_dget H1.out (fun d hd => hd.2) HS.out).mono ?_
  rintro e w2 ⟨rfl, hb⟩
  rw [HQ.out, HI.out]
  have h2 : WD B _ w2 b t dm st k x := H1.out.below hb
  have k2 := K1.out.trans (H1.out.kept hb)
  obtain ⟨c1, c2, c3⟩ := WL.out1 H.out k2
  have x0 : w2.cell? ⟨w.heap.size, 0, none⟩ = some (.string { data := #[] }) := (c1 0).trans (by simp)
  have x1 : w2.cell? ⟨w.heap.size, 1, none⟩ = some (.int .i64 0) := (c1 1).trans (by simp)
  have x2 : w2.cell? ⟨w.heap.size, 2, none⟩ = some (.int .i64 0) := (c1 2).trans (by simp)
  have xf : ∀ i, w2.frozen? ⟨w.heap.size, i, none⟩ = false := fun i => (c2 i).trans (by simp)
  have lx : w.heap.size < w2.heap.size := h2.2.1 _ (.inl rfl)
  have H2 := Lib.hid h2
  have K2 := Lib.hid c3
  clear c1 c2 c3 hb h2 k2 H1 K1
  simp only [encE]
  go_wp2
  refine bodyPost_ret (v := .tuple #[.agg #[.string q1, .int .i64 q2, .int .i64 q3], .bool is]) (by simp [results, Tryz.results100, go_sem, x0, x1, x2]) rfl ⟨rfl, ?_, ?_⟩
  · exact (((H2.out.wb.set (p := ⟨w.heap.size, 0, none⟩) (.inl rfl) _).set (p := ⟨w.heap.size, 1, none⟩) (.inl rfl) _).set (p := ⟨w.heap.size, 2, none⟩) (.inl rfl) _).less (fun x hx => .inr hx)
  · exact ((K2.out.set (H.out.1) (H.out.notL (Nat.le_refl _)) _).set (H.out.1) (H.out.notL (Nat.le_refl _)) _).set (H.out.1) (H.out.notL (Nat.le_refl _)) _
theorem wentry_any (h : WB B L w b t dm st) {k : Int} (hk : -9223372036854775808 ≤ k ∧ k ≤ 9223372036854775807) (h1 : st.isDir k = true → 1 ≤ k) {s : ByteArray} (hs : s.size ≤ maxLen) :
    Calls Tryz.prog 100 #[.pointer (some ⟨b, 0, none⟩), .int .i64 k, .string s] w fun e w' =>
      e = .returned (.tuple #[encE ((st.entry k s).getD noEn), .bool (st.entry k s).isSome]) ∧ WB B L w' b t dm st ∧ KeptP B L w w' := by
  cases hd : st.isDir k with
  | true => rw [entry_dir hd]; exact wentry_yes h ⟨h1 hd, hk.2⟩ hd hs
  | false =>
    rw [entry_not hd]
    exact (wentry_no h hk hd s).mono fun e w' ⟨he, hb⟩ => ⟨he, WL.below h hb, WL.kept h hb⟩

theorem put_ends {st : St} (hr : RiseN st.ns) (n : Nd) : (st.put n).ns.length = (if (st.nd n.id).isSome then st.ns.length else st.ns.length + 1) ∧ (st.put n).last = max st.last n.id := by
  refine ⟨?_, rfl⟩
  show (putN n st.ns).length = _
  rw [putN_length hr]
  unfold St.nd
  rw [St.get_eq]
  cases findN st.ns n.id <;> rfl
/-- A node put, its directory's block put out. -/
theorem WL.put_del {st : St} {n : Nd} (hr : RiseN st.ns) (hk : ¬ (n.kind = 2 ∧ ∃ q, st.nd n.id = some q ∧ q.kind = 2)) {w : World}
    (h : WL B L w b t dm (upd st.nd n.id n) (if (st.nd n.id).isSome then st.ns.length else st.ns.length + 1) (max st.last n.id) (fun i => if i = n.id then [] else st.ents i) (fun d => ∃ d0, Fit st d0 ∧ d = del d0 n.id)) : WB B L w b t dm (st.put n) := by
  unfold WB
  have hke : keepE n (st.get n.id) = [] := by
    unfold keepE
    cases hg : st.get n.id with
    | none => rfl
    | some r =>
      simp only
      rw [if_neg]
      intro h2
      exact hk ⟨h2.1, r.nd, by unfold St.nd; rw [hg]; rfl, h2.2⟩
  rw [nd_put hr, ents_put hr, (put_ends hr n).1, (put_ends hr n).2, hke]
  refine h.weak ?_
  rintro d ⟨d0, h1, rfl⟩ k hk2
  unfold del at hk2
  split at hk2
  · exact absurd rfl hk2
  · rename_i hne
    rw [St.isDir_nd, nd_put hr]
    unfold upd
    rw [if_neg hne, ← St.isDir_nd]
    exact h1 k hk2
/-- A directory put in place of one. -/
theorem WL.put_keep {st : St} {n : Nd} (hr : RiseN st.ns) (hk : n.kind = 2) {q : Nd} (hq : st.nd n.id = some q) (hq2 : q.kind = 2) {w : World}
    (h : WL B L w b t dm (upd st.nd n.id n) (if (st.nd n.id).isSome then st.ns.length else st.ns.length + 1) (max st.last n.id) st.ents (Fit st)) : WB B L w b t dm (st.put n) := by
  unfold WB
  have he : (fun k => if k = n.id then keepE n (st.get n.id) else st.ents k) = st.ents := by
    funext k
    by_cases hkn : k = n.id
    · subst hkn
      rw [if_pos rfl]
      unfold St.nd at hq
      unfold St.ents
      cases hg : st.get n.id with
      | none => rw [hg] at hq; cases hq
      | some r =>
        rw [hg] at hq
        cases hq
        exact keepE_both hk hq2
    · rw [if_neg hkn]
  rw [nd_put hr, ents_put hr, (put_ends hr n).1, (put_ends hr n).2, he]
  refine h.weak ?_
  intro d h1 k hk2
  have h3 := h1 k hk2
  rw [St.isDir_nd, nd_put hr]
  unfold upd
  by_cases hkn : k = n.id
  · rw [if_pos hkn]; simp [hk]
  · rw [if_neg hkn, ← St.isDir_nd]; exact h3
set_option maxHeartbeats 1000000 in
theorem wput_ok (h : WB B L w b t dm st) (hr : RiseN st.ns) (n : Nd) (hv : validB n = true) (hn : st.get n.id = none → st.ns.length < 512) (hE : Env E B w) :
    Calls Tryz.prog 86 #[.pointer (some ⟨b, 0, none⟩), encN n] w fun e w' => e = .returned .nilIface ∧ WB B L w' b t dm (st.put n) ∧ KeptP B L w w' := by
  have hid := valid_ids hv
  obtain ⟨is, his⟩ : ∃ is, (st.nd n.id).isSome = is := ⟨_, rfl⟩
  obtain ⟨q, hq⟩ : ∃ q, (st.nd n.id).getD noNd = q := ⟨_, rfl⟩
  generalize hP : (fun (e : Ending) (w' : World) => e = .returned .nilIface ∧ WB B L w' b t dm (st.put n) ∧ KeptP B L w w') = Post
  have HP := Lib.hid hP
  have H := Lib.hid h
  have HV := Lib.hid hv
  have HN := Lib.hid hn
  have HR := Lib.hid hr
  have HE := Lib.hid hE
  have HQ := Lib.hid hq
  have HI := Lib.hid his
  have HID := Lib.hid hid
  obtain ⟨n1, n2, n3, n4, n5, n6⟩ := n
  obtain ⟨q1, q2, q3, q4, q5, q6⟩ := q
  simp only [encN]
  simp only at his hq hid
  clear hP hv hn hr hE hq h
  go_enter Tryz.func86, Tryz.ntmps86
  go_wp2_with fail
  obtain ⟨w1, hw1⟩ : ∃ w1, w1 = w.alloc (.cells #[.int .i64 n1, .int .i64 n2, .int .i64 n3, .int .i64 n4, .string n5, .int .i64 n6] 39) := ⟨_, rfl⟩
  have h1 : WB B (fun x => x = w.heap.size ∨ L x) w1 b t dm st := hw1 ▸ WL.loc H.out _
  have s0 := h1.c0
  have R1 : Hid (Row w1 w.heap.size 39 (ndC ⟨n1, n2, n3, n4, n5, n6⟩)) := Lib.hid (hw1 ▸ Row.new w 39 (ndC ⟨n1, n2, n3, n4, n5, n6⟩))
  have hlt := h1.lt.1
  have hlt2 : w.heap.size < w1.heap.size := by rw [hw1]; simp
  rw [← hw1]
  have H1 := Lib.hid h1
  have B1 := Lib.hid (show Below w.heap.size w w1 by rw [hw1]; exact bl_alloc (Below.refl _ _) _)
  have S : ∀ w', ShH w1.heap.size (ndC ⟨q1, q2, q3, q4, q5, q6⟩) 39 w1 w' → w'.cell? ⟨b, 0, none⟩ = some (.pointer (some ⟨t, 0, none⟩)) ∧ w'.cell? ⟨w.heap.size, 0, none⟩ = some (.int .i64 n1) := fun w' hs => ⟨(hs.bel.cell (p := ⟨b, 0, none⟩) hlt).trans s0, (hs.bel.cell (p := ⟨w.heap.size, 0, none⟩) hlt2).trans ((R1.out.cell 0).trans rfl)⟩
  have HG : Hid (∀ w', ShH w1.heap.size (ndC ⟨q1, q2, q3, q4, q5, q6⟩) 39 w1 w' → Calls Tryz.prog 11 #[.pointer (some ⟨t, 0, none⟩), .int .i64 n1] w' fun e w'' => e = .returned (.tuple #[.agg #[.int .i64 q1, .int .i64 q2, .int .i64 q3, .int .i64 q4, .string q5, .int .i64 q6], .bool is]) ∧ Below w'.heap.size w' w'') := Lib.hid fun w' hs => by
    have := wl_get (H1.out.below hs.bel) (k := n1) (by omega)
    rw [HQ.out, HI.out] at this
    exact this
  clear hw1 h1
  apply wp_region_rel _ (by kernel_rfl) (by kernel_rfl) (fun w' => ShH w1.heap.size (ndC ⟨q1, q2, q3, q4, q5, q6⟩) 39 w1 w') (fun w' w'' => ShH w1.heap.size (ndC ⟨q1, q2, q3, q4, q5, q6⟩) 39 w' w'') (fun w' w'' h1 h2 => h1.trans h2) (ShH.refl _ _ _ _).drew
  repeat (first
    | (apply wpRel_fix (by rfl)
       · intro w' hC hf R hR
         have hS := S w' hC
         go_simp
         exact hR _ (ShH.refl _ _ _ _)
       simp only [Act.put, List.setIfInBounds_toArray, List.set_cons_zero, List.set_cons_succ])
    | (apply wpRel_fix (by rfl)
       · intro w' hC hf R hR
         have hS := S w' hC
         go_simp
         refine (HG.out w' hC).mono ?_
         rintro e w'' ⟨rfl, hb⟩
         exact ⟨_, rfl, hR _ (ShH.of_below hb (Nat.le_trans hC.bel.size (Nat.le_refl _)))⟩
       simp only [Act.put, List.setIfInBounds_toArray, List.set_cons_zero, List.set_cons_succ]))
  apply wpRel_rel (PtTy w1.heap.size ((ndC ⟨q1, q2, q3, q4, q5, q6⟩) : List Value).length 39) (by rfl) ptTy_keep
  · intro w' hC hf R hR
    go_simp
    exact hR _ _ ⟨_, rfl, hC.bel.size, TyB.new _ _ _ rfl⟩ (ShH.of_below (bl_alloc (Below.refl _ _) _) hC.bel.size)
  intro vptr
  simp only [Act.put, List.setIfInBounds_toArray, List.set_cons_zero, List.set_cons_succ]
  apply wpRel_dep 5 (PtRow w1.heap.size (ndC ⟨q1, q2, q3, q4, q5, q6⟩) 39) (by rfl) (by rfl) ptRow_keep
  · intro w' hC hf R hR
    obtain ⟨c, rfl, hc, hk⟩ := hf _ (List.mem_cons_self ..) (by kernel_rfl)
    obtain ⟨u0, e0⟩ := hk.cell (i := 0) (Nat.lt_of_lt_of_eq (by decide : 0 < 6) rfl)
    have f0 := hk.froz 0
    obtain ⟨u1, e1⟩ := hk.cell (i := 1) (Nat.lt_of_lt_of_eq (by decide : 1 < 6) rfl)
    have f1 := hk.froz 1
    obtain ⟨u2, e2⟩ := hk.cell (i := 2) (Nat.lt_of_lt_of_eq (by decide : 2 < 6) rfl)
    have f2 := hk.froz 2
    obtain ⟨u3, e3⟩ := hk.cell (i := 3) (Nat.lt_of_lt_of_eq (by decide : 3 < 6) rfl)
    have f3 := hk.froz 3
    obtain ⟨u4, e4⟩ := hk.cell (i := 4) (Nat.lt_of_lt_of_eq (by decide : 4 < 6) rfl)
    have f4 := hk.froz 4
    obtain ⟨u5, e5⟩ := hk.cell (i := 5) (Nat.lt_of_lt_of_eq (by decide : 5 < 6) rfl)
    have f5 := hk.froz 5
    have hN := Lib.hid hk
    clear hk
    go_simp
    exact hR _ _ (ptRow_mk hN.out hc) (ShH.setAll hN.out hc)
  intro vst
  simp only [Act.put, List.setIfInBounds_toArray, List.set_cons_zero, List.set_cons_succ]
  repeat (first
    | (apply wpRel_fix (by rfl)
       · intro w' hC hf R hR
         have hS := S w' hC
         go_simp
         exact hR _ (ShH.refl _ _ _ _)
       simp only [Act.put, List.setIfInBounds_toArray, List.set_cons_zero, List.set_cons_succ]))
  refine wpRel_nil (fun w2 hC hf => ?_)
  obtain ⟨c, rfl, hc0, rw2⟩ : PtRow w1.heap.size (ndC ⟨q1, q2, q3, q4, q5, q6⟩) 39 vptr w2 := hf _ (List.mem_cons_self ..)
  have B2 := Lib.hid (B1.out.trans (hC.bel.mono B1.out.size))
  have h2 := H1.out.loc' (L' := fun x => x = c ∨ x = w.heap.size ∨ L x) hC.bel (fun x hx => by
    rcases hx with rfl | hx
    · exact .inr ⟨hc0, rw2.lt⟩
    · exact .inl hx)
  have R2 := Lib.hid (R1.out.below hC.bel)
  have R3 := Lib.hid rw2
  have H2 := Lib.hid h2
  clear hf hC S HG rw2 h2 H1 R1 B1
  go_wp2_with fail
  have S : ∀ w', Below w2.heap.size w2 w' → w'.cell? ⟨b, 0, none⟩ = some (.pointer (some ⟨t, 0, none⟩)) ∧ w'.cell? ⟨w.heap.size, 0, none⟩ = some (.int .i64 n1) ∧ w'.cell? ⟨w.heap.size, 1, none⟩ = some (.int .i64 n2) ∧ w'.cell? ⟨w.heap.size, 2, none⟩ = some (.int .i64 n3) ∧
      w'.cell? ⟨w.heap.size, 3, none⟩ = some (.int .i64 n4) ∧ w'.cell? ⟨w.heap.size, 4, none⟩ = some (.string n5) ∧ w'.cell? ⟨w.heap.size, 5, none⟩ = some (.int .i64 n6) := by
    intro w' hb
    have r := R2.out.below hb
    exact ⟨(H2.out.below hb).c0, (r.cell 0).trans rfl, (r.cell 1).trans rfl, (r.cell 2).trans rfl, (r.cell 3).trans rfl, (r.cell 4).trans rfl, (r.cell 5).trans rfl⟩
  apply wp_region_tail 5 _ (by kernel_rfl) (by kernel_rfl) (by kernel_rfl) (by decide) (fun w' => Below w2.heap.size w2 w') (fun w' w'' => Below w'.heap.size w' w'') (fun w' w'' h1 h2 => bl_trans h1 h2) (Below.refl _ _).drew
  simp only [List.take_succ_cons, List.take_zero, List.drop_succ_cons, List.drop_zero]
  repeat (first
    | (apply wpRel_skip (by rfl)
       simp only [Act.put, List.setIfInBounds_toArray, List.set_cons_zero, List.set_cons_succ])
    | (apply wpRel_fix (by rfl)
       · intro w' hC hf R hR
         have hS := S w' hC
         go_simp
         exact hR _ (Below.refl _ _)
       simp only [Act.put, List.setIfInBounds_toArray, List.set_cons_zero, List.set_cons_succ]))
  refine wpRel_nil (fun w3 hC hf => ?_)
  clear S hf
  have H3 := Lib.hid (H2.out.below hC)
  have R3' := Lib.hid (R3.out.below hC)
  have R2' := Lib.hid (R2.out.below hC)
  have B3 := Lib.hid (B2.out.trans (hC.mono B2.out.size))
  clear hC H2 R3 R2 B2
  go_wp2_with fail
  refine (wl_put H3.out ⟨n1, n2, n3, n4, n5, n6⟩ HV.out (fun hh => HN.out (by
    have h0 : st.nd n1 = none := by simpa using hh
    exact nd_none h0)) (HE.out.below B3.out)).mono ?_
  rintro e w4 ⟨rfl, h4, k4⟩
  have H4 := Lib.hid h4
  have K4 := Lib.hid k4
  have R4 := Lib.hid (R2'.out.keep (k4.loc _ (.inr (.inl rfl))))
  have R5 := Lib.hid (R3'.out.keep (k4.loc _ (.inl rfl)))
  have KB := Lib.hid (H.out.kept B3.out)
  clear h4 k4 H3 R2' R3'
  have y0 : w4.cell? ⟨w.heap.size, 0, none⟩ = some (.int .i64 n1) := (R4.out.cell 0).trans rfl
  have y1 : w4.cell? ⟨w.heap.size, 1, none⟩ = some (.int .i64 n2) := (R4.out.cell 1).trans rfl
  have z1 : w4.cell? ⟨c, 1, none⟩ = some (.int .i64 q2) := (R5.out.cell 1).trans rfl
  clear s0
  by_cases hn2 : n2 = 2
  case' neg =>
    have hb1 : (n2 == 2) = false := by rw [beq_eq_false_iff_ne]; exact hn2
    have hb2 : (n2 != 2) = true := by simp [bne, hb1]
    have HNK : Hid (¬ (n2 = 2 ∧ ∃ q, st.nd n1 = some q ∧ q.kind = 2)) := Lib.hid (fun h => hn2 h.1)
  case' pos =>
    subst hn2
    cases is
    case' false =>
      have HNK : Hid (¬ ((2 : Int) = 2 ∧ ∃ q, st.nd n1 = some q ∧ q.kind = 2)) := Lib.hid (by
        rintro ⟨h1, q, h2, h3⟩
        have h4 := HI.out
        rw [h2] at h4
        cases h4)
    case' true =>
      by_cases hq2 : q2 = 2
      case' neg =>
        have hb1 : (q2 == 2) = false := by rw [beq_eq_false_iff_ne]; exact hq2
        have hb2 : (q2 != 2) = true := by simp [bne, hb1]
        have HNK : Hid (¬ ((2 : Int) = 2 ∧ ∃ q, st.nd n1 = some q ∧ q.kind = 2)) := Lib.hid (by
          rintro ⟨h1, q, h2, h3⟩
          have h4 := HQ.out
          rw [h2] at h4
          have h5 : q = _ := h4
          rw [h5] at h3
          exact hq2 h3)
      case' pos =>
        subst hq2
  all_goals
    go_wp2_with fail
  · rw [← HP.out]
    refine ⟨rfl, ?_, KB.out.trans (K4.out.mono (fun x hx => .inr (.inr hx)))⟩
    have hs : ∃ q, st.nd n1 = some q ∧ q.kind = 2 := by
      have h1 := HQ.out
      cases hh : st.nd n1 with
      | none => have := HI.out; rw [hh] at this; cases this
      | some q => rw [hh] at h1; exact ⟨q, rfl, by rw [show q = _ from h1]⟩
    obtain ⟨q, h1, h2⟩ := hs
    exact WL.put_keep HR.out rfl h1 h2 (H4.out.less (fun x hx => .inr (.inr hx)))
  all_goals
    have S : ∀ w', Below w4.heap.size w4 w' → w'.cell? ⟨b, 1, none⟩ = some (.map (some dm)) ∧ w'.cell? ⟨w.heap.size, 0, none⟩ = some (.int .i64 n1) := by
      intro w' hb
      exact ⟨(H4.out.below hb).c1, ((R4.out.below hb).cell 0).trans rfl⟩
    have hlt4 := H4.out.lt.1
    apply wp_region_tail 6 _ (by kernel_rfl) (by kernel_rfl) (by kernel_rfl) (by decide) (fun w' => Below w4.heap.size w4 w') (fun w' w'' => Below w'.heap.size w' w'') (fun w' w'' h1 h2 => bl_trans h1 h2) (Below.refl _ _).drew
    simp only [List.take_succ_cons, List.take_zero, List.drop_succ_cons, List.drop_zero]
    repeat (first
      | (apply wpRel_skip (by rfl)
         simp only [Act.put, List.setIfInBounds_toArray, List.set_cons_zero, List.set_cons_succ])
      | (apply wpRel_fix (by rfl)
         · intro w' hC hf R hR
           have hS := S w' hC
           go_simp
           exact hR _ (Below.refl _ _)
         simp only [Act.put, List.setIfInBounds_toArray, List.set_cons_zero, List.set_cons_succ]))
    refine wpRel_nil (fun w5 hC hf => ?_)
    clear S hf
    apply wpList_drop rfl _ _ _ _ rfl
    · exact wl_mdel (H4.out.below hC) (k := n1) (by omega) _
    rintro w6 ⟨h6, k6⟩
    have H6 := Lib.hid h6
    have K6 := Lib.hid ((K4.out.trans (H4.out.kept hC)).trans k6)
    clear h6 k6 hC
    go_wp2
    rw [← HP.out]
    exact ⟨rfl, WL.put_del HR.out (fun h => HNK.out ⟨by first | trivial | exact h.1, h.2⟩) (H6.out.less (fun x hx => .inr (.inr hx))), KB.out.trans (K6.out.mono (fun x hx => .inr (.inr hx)))⟩
theorem WL.drop_del {st : St} {k : Int} {n : Nat} (hn : n = (st.drop k).ns.length) {w : World}
    (h : WL B L w b t dm (del st.nd k) n st.last (fun i => if i = k then [] else st.ents i) (fun d => ∃ d0, Fit st d0 ∧ d = del d0 k)) : WB B L w b t dm (st.drop k) := by
  unfold WB
  rw [nd_drop, ents_drop, ← hn]
  refine h.weak ?_
  rintro d ⟨d0, h1, rfl⟩ i hi
  unfold del at hi
  split at hi
  · exact absurd rfl hi
  · rename_i hne
    rw [St.isDir_nd, nd_drop]
    unfold del
    rw [if_neg hne, ← St.isDir_nd]
    exact h1 i hi
theorem drop_len {st : St} (hr : RiseN st.ns) (k : Int) : (st.drop k).ns.length = if (st.nd k).isSome then st.ns.length - 1 else st.ns.length := by
  have h1 : ∀ l : List NR, RiseN l → (l.filter fun r => r.nd.id != k).length = if (findN l k).isSome then l.length - 1 else l.length := by
    intro l
    induction l with
    | nil => intro _; rfl
    | cons x l ih =>
      intro hr
      obtain ⟨h1, h2⟩ := List.pairwise_cons.1 hr
      have ih := ih h2
      rw [List.filter_cons, findN_cons]
      by_cases hx : x.nd.id = k
      · rw [if_neg (by simp [hx]), if_pos hx, ih, if_neg]
        · simp
        · rw [findN_none_of_lt (fun r hr => by have := h1 r hr; omega)]; simp
      · rw [if_pos (by simp [hx]), if_neg hx, List.length_cons, ih, List.length_cons]
        cases hf : findN l k with
        | none => simp
        | some r =>
          have : 0 < l.length := List.length_pos_of_mem (findN_mem hf)
          simp
          omega
  show (st.ns.filter fun r => r.nd.id != k).length = _
  rw [h1 _ hr]
  unfold St.nd
  rw [St.get_eq]
  cases findN st.ns k <;> rfl
theorem wdrop_any (h : WB B L w b t dm st) (hr : RiseN st.ns) {k : Int} (hk : -9223372036854775808 ≤ k ∧ k ≤ 9223372036854775807) :
    Calls Tryz.prog 102 #[.pointer (some ⟨b, 0, none⟩), .int .i64 k] w fun e w' => e = .returned (.bool (st.nd k).isSome) ∧ WB B L w' b t dm (st.drop k) ∧ KeptP B L w w' := by
  have HR := Lib.hid hr
  have H := Lib.hid h
  have hc1 := h.c1
  have hlt := h.lt.1
  clear hr h
  go_enter Tryz.func102, Tryz.ntmps102
  go_wp2_with (at_delete; refine wpList_drop rfl _ _ _ _ rfl (wl_mdel H.out (k := k) hk _) ?_; rintro w1 ⟨h1, k1⟩; have c0 := h1.c0; have lt1 := h1.lt.1; have H1 := Lib.hid h1; have K1 := Lib.hid k1; clear h1 k1)
  refine (wl_ndel H1.out hk).mono ?_
  rintro e w2 ⟨rfl, h2, k2⟩
  have H2 := Lib.hid h2
  have K2 := Lib.hid (K1.out.trans k2)
  clear h2 k2
  go_wp2
  go_ret
  exact ⟨rfl, WL.drop_del (drop_len HR.out k).symm H2.out, K2.out⟩
/-- Without any node. -/
def empSt : St := ⟨0, []⟩
theorem wempty_any (w : World) (hB : B ≤ w.heap.size) (hL : ∀ x, L x → x < w.heap.size) : Calls Tryz.prog 85 #[] w fun e w' =>
    e = .returned (.pointer (some ⟨w.heap.size + 2, 0, none⟩)) ∧ WB B L w' (w.heap.size + 2) w.heap.size (w.heap.size + 1) empSt ∧ Below w.heap.size w w' := by
  have hmm := @run_makeMap Tryz.prog
  go_enter Tryz.func85, Tryz.ntmps85
  go_wp2
  go_ret
  refine ⟨rfl, ?_, by repeat (first | exact Below.refl _ _ | refine bl_alloc ?_ _)⟩
  have s1 : (w.alloc (.cells #[.map none, .int .i64 0] 84)).heap.size = w.heap.size + 1 := by simp
  have s2 : ((w.alloc (.cells #[.map none, .int .i64 0] 84)).alloc (.map #[] 0)).heap.size = w.heap.size + 2 := by simp
  have r := Row.new ((w.alloc (.cells #[.map none, .int .i64 0] 84)).alloc (.map #[] 0)) 36 [.pointer (some ⟨w.heap.size, 0, none⟩), .map (some (w.heap.size + 1))]
  rw [s2] at r
  have rt := ((Row.new w 84 [.map none, .int .i64 0]).alloc (.map #[] 0)).alloc (.cells #[.pointer (some ⟨w.heap.size, 0, none⟩), .map (some (w.heap.size + 1))] 36)
  have rm : PMap (((w.alloc (.cells #[.map none, .int .i64 0] 84)).alloc (.map #[] 0)).alloc (.cells #[.pointer (some ⟨w.heap.size, 0, none⟩), .map (some (w.heap.size + 1))] 36)) (w.heap.size + 1) (fun _ => none) 0 :=
    (mapAt_new' _ _ _ _ (w.alloc (.cells #[.map none, .int .i64 0] 84)) s1.symm).alloc _
  have hsz : (((w.alloc (.cells #[.map none, .int .i64 0] 84)).alloc (.map #[] 0)).alloc (.cells #[.pointer (some ⟨w.heap.size, 0, none⟩), .map (some (w.heap.size + 1))] 36)).heap.size = w.heap.size + 3 := by simp
  refine ⟨by omega, fun x hx => by have := hL x hx; omega, none, fun _ => none, 0, fun x => if x = w.heap.size + 2 then -1 else if x = w.heap.size then -2 else if x = w.heap.size + 1 then -4 else 0, ?_, ?_, ?_⟩
  · refine ⟨r.cell 0, r.cell 1, ?_, rm, fun k p hp => (by cases hp), fun _ _ => rfl, ?_, fun k p hp => (by cases hp), ?_, ?_, ?_⟩
    · exact ⟨rt.cell 0, rt.cell 1, rt.froz 0, rt.froz 1, rt.lt, rfl, fun _ => rfl⟩
    · rintro x (rfl | hx)
      · simp
      · cases hx
    · simp
    · simp
    · intro x hx
      rw [hsz]
      split at hx
      · omega
      · split at hx
        · omega
        · split at hx
          · omega
          · exact absurd rfl hx
  · intro x hx
    replace hx : (if x = w.heap.size + 2 then (-1 : Int) else if x = w.heap.size then -2 else if x = w.heap.size + 1 then -4 else 0) ≠ 0 := hx
    refine ⟨?_, fun hl => ?_⟩
    · split at hx
      · omega
      · split at hx
        · omega
        · split at hx
          · omega
          · exact absurd rfl hx
    · have := hL x hl
      rw [if_neg (by omega), if_neg (by omega), if_neg (by omega)] at hx
      exact absurd rfl hx
  · intro k hk
    exact absurd rfl hk
theorem wnew_any (w : World) (hB : B ≤ w.heap.size) (hL : ∀ x, L x → x < w.heap.size) (hE : Env E B w) : Calls Tryz.prog 39 #[] w fun e w' =>
    e = .returned (.pointer (some ⟨w.heap.size + 2, 0, none⟩)) ∧ WB B L w' (w.heap.size + 2) w.heap.size (w.heap.size + 1) newSt ∧ KeptP B L w w' := by
  have HE := Lib.hid hE
  have HB := Lib.hid hB
  have HL := Lib.hid hL
  clear hE hB hL
  go_enter Tryz.func39, Tryz.ntmps39
  go_wp2_with fail
  refine (wempty_any w HB.out HL.out).mono ?_
  rintro e w1 ⟨rfl, h1, b1⟩
  have H1 := Lib.hid h1
  have B1 := Lib.hid b1
  clear h1 b1
  go_wp2_with fail
  refine (wput_ok H1.out List.Pairwise.nil ⟨1, 2, 1, 0, ⟨#[]⟩, 1⟩ newNd_valid' (fun _ => by decide) (HE.out.below B1.out)).mono ?_
  rintro e w2 ⟨rfl, h2, k2⟩
  have H2 := Lib.hid h2
  have K2 := Lib.hid ((KeptP.of_below B1.out HB.out HL.out).trans k2)
  clear h2 k2
  go_wp2
  go_ret
  exact ⟨rfl, H2.out, K2.out⟩
end
end Go.Proofs.YtnkcbogikaebfaaGreatDoor
end

section
/- Trees in plain words: how many entries there are: as many as names. -/
namespace Go.Proofs.YtnkcbogikaebfaaGreatDoor
set_option maxRecDepth 100000
set_option linter.unusedSimpArgs false
set_option linter.unusedVariables false

theorem sum_zero' {ids : List Int} {k : Int} (h : k ∉ ids) : (ids.map fun i => if k = i then 1 else 0).sum = 0 := by
  induction ids with
  | nil => rfl
  | cons i l ih =>
    rw [List.map_cons, List.sum_cons, ih (fun hm => h (List.mem_cons_of_mem _ hm)), if_neg (fun e => h (by rw [e]; exact List.mem_cons_self ..))]
theorem sum_one {ids : List Int} (hn : ids.Nodup) {k : Int} (h : k ∈ ids) : (ids.map fun i => if k = i then 1 else 0).sum = 1 := by
  induction ids with
  | nil => cases h
  | cons i l ih =>
    obtain ⟨h1, h2⟩ := List.nodup_cons.1 hn
    rw [List.map_cons, List.sum_cons]
    rcases List.mem_cons.1 h with rfl | h
    · rw [if_pos rfl, sum_zero' h1]
    · rw [if_neg (fun e => h1 (by rw [← e]; exact h)), ih h2 h]
theorem sum_add (ids : List Int) (f g : Int → Nat) : (ids.map fun i => f i + g i).sum = (ids.map f).sum + (ids.map g).sum := by
  induction ids with
  | nil => rfl
  | cons i l ih => rw [List.map_cons, List.sum_cons, List.map_cons, List.sum_cons, List.map_cons, List.sum_cons, ih]; omega
theorem sum_nil (ids : List Int) : (ids.map fun _ => 0).sum = 0 := by
  induction ids with
  | nil => rfl
  | cons i l ih => rw [List.map_cons, List.sum_cons, ih]
theorem len_names {ids : List Int} (hn : ids.Nodup) : ∀ {l : List En}, (∀ e ∈ l, e.node ∈ ids) → l.length = (ids.map fun k => namesL k l).sum
  | [], _ => by
    have : (ids.map fun k => namesL k ([] : List En)) = ids.map fun _ => 0 := rfl
    rw [this, sum_nil]
    rfl
  | e :: l, h => by
    have ih := len_names hn (l := l) (fun x hx => h x (List.mem_cons_of_mem _ hx))
    have h1 : (ids.map fun k => namesL k (e :: l)) = ids.map fun k => namesL k l + if e.node = k then 1 else 0 := by
      refine List.map_congr_left fun k _ => ?_
      unfold namesL
      rw [List.countP_cons]
      by_cases hk : e.node = k <;> simp [hk]
    rw [h1, sum_add, sum_one hn (h e (List.mem_cons_self ..)), List.length_cons, ← ih]
def cntL (l : List NR) : Nat := (l.map fun r => r.ents.length).sum
theorem cntL_names {ids : List Int} (hn : ids.Nodup) : ∀ {l : List NR}, (∀ r ∈ l, ∀ e ∈ r.ents, e.node ∈ ids) → cntL l = (ids.map fun k => namesN k l).sum
  | [], _ => by
    have : (ids.map fun k => namesN k ([] : List NR)) = ids.map fun _ => 0 := rfl
    rw [this, sum_nil]
    rfl
  | r :: l, h => by
    have ih := cntL_names hn (l := l) (fun x hx => h x (List.mem_cons_of_mem _ hx))
    have h1 : (ids.map fun k => namesN k (r :: l)) = ids.map fun k => namesL k r.ents + namesN k l := rfl
    rw [h1, sum_add, ← ih, ← len_names hn (h r (List.mem_cons_self ..))]
    rfl
theorem rise_nodup {l : List NR} (h : RiseN l) : (l.map fun r => r.nd.id).Nodup := by
  unfold List.Nodup
  rw [List.pairwise_map]
  exact h.imp fun {a b} h => by omega
theorem cnt_names {st : St} (f : Full st) : cntL st.ns = ((st.ns.map fun r => r.nd.id).map fun k => st.names k).sum :=
  cntL_names (rise_nodup f.rise) fun r hr e he => by
    obtain ⟨x, hx, _⟩ := (f.ent r hr e he).node
    exact List.mem_map.2 ⟨x, findN_mem hx, findN_id hx⟩
theorem sum_le {l : List Int} {g : Int → Nat} (h : ∀ k ∈ l, g k ≤ 16) : (l.map g).sum ≤ l.length * 16 := by
  induction l with
  | nil => simp
  | cons a l ih =>
    have h1 := ih fun k hk => h k (List.mem_cons_of_mem _ hk)
    have h2 := h a (List.mem_cons_self ..)
    rw [List.map_cons, List.sum_cons, List.length_cons]
    omega
theorem cnt_le {st : St} (f : Full st) : cntL st.ns ≤ 8192 := by
  rw [cnt_names f]
  refine Nat.le_trans (sum_le fun k hk => ?_) ?_
  · obtain ⟨r, hr, rfl⟩ := List.mem_map.1 hk
    have h1 := f.cnt _ r (f.get_mem hr)
    have h2 := valid_lk (f.val r hr)
    omega
  · rw [List.length_map]
    have := f.len
    omega
theorem cntL_take (l : List NR) (j : Nat) (h : j < l.length) : cntL (l.take (j + 1)) = cntL (l.take j) + l[j].ents.length := by
  unfold cntL
  rw [List.take_succ_eq_append_getElem h, List.map_append, List.sum_append]
  simp
theorem cntL_take_le (l : List NR) (j : Nat) : cntL (l.take j) ≤ cntL l := by
  conv => rhs; rw [← List.take_append_drop j l]
  unfold cntL
  rw [List.map_append, List.sum_append]
  omega
theorem count_cntL (st : St) : st.count = (cntL st.ns : Int) := by
  unfold St.count cntL
  generalize st.ns = l
  induction l with
  | nil => rfl
  | cons r l ih => rw [List.map_cons, List.sum_cons, List.map_cons, List.sum_cons, ih]; omega
end Go.Proofs.YtnkcbogikaebfaaGreatDoor
end

section
/- The plain laws TreeOver, TreeRings, TreeSlash, TreeMany, TreeDeep on the plain tree. -/
namespace Go.Proofs.YtnkcbogikaebfaaGreatDoor
open Go
set_option maxRecDepth 100000
/-- TreeOver -/
def nmA (l : List UInt8) : ByteArray := ⟨l.toArray⟩
def overL : List ByteArray := [nmA [47,102], nmA [47,103], nmA [47,100], nmA [47,101], nmA [47,104]]
def overS : St :=
  let s1 := (makeT newSt (overL.getD 0 noText) 1 noText).2.2
  let s2 := (makeT s1 (overL.getD 1 noText) 1 noText).2.2
  let s3 := (makeT s2 (overL.getD 2 noText) 2 noText).2.2
  let s4 := (makeT s3 (overL.getD 3 noText) 2 noText).2.2
  let s5 := (hardT s4 (overL.getD 0 noText) (overL.getD 4 noText)).2
  (makeT s5 (nmA [47,101,47,120]) 1 noText).2.2
def overOk (from' to' : Nat) : Bool :=
  let r := renameT overS (overL.getD from' noText) (overL.getD to' noText)
  let a := from' == 2 || from' == 3
  let b := to' == 2 || to' == 3
  let ids : List Int := [2, 3, 4, 5, 2]
  let s := r.2.2
  if ids.getD from' 0 = ids.getD to' 0 then r.1 == 0 && r.2.1 == 0 && s.count == 6 else
  if a && !b then r.1 == 111 && s.count == 6 else
  if !a && b then r.1 == 112 && s.count == 6 else
  if to' = 3 then r.1 == 113 && s.count == 6 else
  let x := lookT s (overL.getD to' noText) false
  let y := lookT s (overL.getD from' noText) false
  r.1 == 0 && r.2.1 == ids.getD to' 0 && x.1 == 0 && x.2.id == ids.getD from' 0 && y.1 == 109 && s.count == 5 &&
   (if b then (s.get (ids.getD to' 0)).isNone else match s.get (ids.getD to' 0) with | some n => n.nd.links == (if ids.getD to' 0 = 2 then 1 else 0) | none => false)
def ringS : Nat → ByteArray × St
  | 0 => (noText, newSt)
  | k + 1 => let r := ringS k; let s := nmA (r.1.data.toList ++ [47, 100]); (s, (makeT r.2 s 2 noText).2.2)
def ringOk (deep a b : Nat) : Bool :=
  let s := (ringS deep).2
  let pa := (ringS a).1
  let pb := nmA ((ringS b).1.data.toList ++ [47, 120])
  let r := renameT s pa pb
  if a ≤ b then r.1 == 114 && r.2.2.within (b+1) (a+1) else
  let x := lookT r.2.2 pb false
  r.1 == 0 && x.1 == 0 && x.2.id == a + 1 && x.2.parent == b+1 && r.2.2.within (a+1) (b+1) && !r.2.2.within (b+1) (a+1) && r.2.2.count == deep
/-- TreeSlash -/
def slashOk (kind : Int) : Bool :=
  let none' := nmA [47,110,111,110,101]
  let a := makeT newSt (nmA [47,97]) kind none'
  let b := makeT a.2.2 (nmA [47,110,47]) kind none'
  let c := hardT b.2.2 (nmA [47,97]) (nmA [47,104,47])
  let d := unlinkT c.2 (nmA [47,97,47])
  let e := renameT d.2.2 (nmA [47,97]) (nmA [47,98,47])
  a.1 == 0 && (if kind = 2 then b.1 == 0 && c.1 == 114 && d.1 == 112 && e.1 == 0 else b.1 == 109 && c.1 == 109 && d.1 == 111 && e.1 == 111)
def decT (i : Nat) : List UInt8 := if i < 10 then [48 + i.toUInt8] else [49, 48 + (i - 10).toUInt8]
/-- TreeMany -/
def gNm (i : Nat) : ByteArray := nmA ([47,103] ++ decT i)
def fNm : ByteArray := nmA [47,102]
def manyS : Nat → St
  | 0 => (makeT newSt fNm 1 noText).2.2
  | k + 1 => (hardT (manyS k) fNm (gNm (k+1))).2
def manyCode (k : Nat) : Int := (hardT (manyS k) fNm (gNm (k+1))).1
def manyU (n : Nat) : Nat → St
  | 0 => manyS n
  | k + 1 => (unlinkT (manyU n k) (gNm (k + 1))).2.2
def manyOk (n : Nat) : Bool :=
  ((List.range n).all fun k => manyCode k == (if k + 1 < 16 then 0 else 117)) && !(freeT (manyS n) 2).1 &&
  ((List.range (min n 15)).all fun k => let r := unlinkT (manyU n k) (gNm (k + 1)); r.1 == 0 && r.2.1 == 2) &&
  (let s := manyU n (min n 15); let r := unlinkT s fNm; r.1 == 0 && r.2.1 == 2 && (r.2.2.get 2).isSome && r.2.2.count == 0 && (freeT r.2.2 2).1 && !(freeT (freeT r.2.2 2).2 2).1 && (freeT r.2.2 2).2.ns.length == 1)
/-- TreeDeep -/
def deepP : Nat → ByteArray
  | 0 => noText
  | k + 1 => nmA ((deepP k).data.toList ++ [47,100] ++ decT k)
def deepS : Nat → St
  | 0 => newSt
  | k + 1 => (makeT (deepS k) (deepP (k+1)) 2 noText).2.2
def deepUp (deep : Nat) : Nat → ByteArray
  | 0 => deepP deep
  | k + 1 => nmA ((deepUp deep k).data.toList ++ [47,46,46])
def deepOk (deep up : Nat) : Bool :=
  let s := deepS deep
  let p := deepUp deep up
  let x := lookT s p true
  let f := rmdirT s (nmA (p.data.toList ++ [47,46]))
  x.1 == 0 && x.2.id == (deep : Int) + 1 - up && x.2.parent == max 1 ((deep : Int) - up) && (if up > 0 then f.1 != 0 else f.1 == 0)
/-- .. and from the deepest on -/
def deepD (deep : Nat) (s : St) : Nat → St
  | 0 => s
  | k + 1 => (rmdirT (deepD deep s k) (deepP (deep - k))).2.2
def deepDown (deep up : Nat) : Bool :=
  let f := rmdirT (deepS deep) (nmA ((deepUp deep up).data.toList ++ [47,46]))
  let from' := if up = 0 then deep - 1 else deep
  ((List.range from').all fun j =>
    let s := deepD from' f.2.2 j
    let k := from' - j
    (if k > 1 then (rmdirT s (deepP (k - 1))).1 == 113 else true) && (let r := rmdirT s (deepP k); r.1 == 0 && r.2.1 == (k : Int) + 1)) &&
  (deepD from' f.2.2 from').count == 0 && (deepD from' f.2.2 from').ns.length == 1
end Go.Proofs.YtnkcbogikaebfaaGreatDoor
end

section
/- The document's way to cut a path, byte by byte, in plain words: it is the plain tree's. -/
namespace Go.Proofs.YtnkcbogikaebfaaGreatDoor
set_option maxRecDepth 100000
set_option linter.unusedSimpArgs false
set_option linter.unusedVariables false
def finD (cur : List UInt8) : List ByteArray × Bool := if cur = [] ∨ cur = [46] then ([], false) else ([⟨cur.toArray⟩], decide (24 < cur.length))
def scanD : List UInt8 → List UInt8 → List ByteArray × Bool
  | [], cur => finD cur
  | c :: l, cur => if c = 47 then ((finD cur).1 ++ (scanD l []).1, (finD cur).2 || (scanD l []).2) else scanD l (cur ++ [c])
def piecesD : List (List UInt8) → List ByteArray × Bool
  | [] => ([], false)
  | x :: r => ((finD x).1 ++ (piecesD r).1, (finD x).2 || (piecesD r).2)
theorem scan_cuts : ∀ (l cur : List UInt8), ∃ x r, cuts l = x :: r ∧ scanD l cur = piecesD ((cur ++ x) :: r)
  | [], cur => ⟨[], [], rfl, by simp [scanD, piecesD]⟩
  | c :: l, cur => by
    by_cases hc : c = 47
    · obtain ⟨x, r, h1, h2⟩ := scan_cuts l []
      refine ⟨[], x :: r, by rw [cuts, if_pos hc, h1], ?_⟩
      rw [scanD, if_pos hc, h2, List.append_nil]
      rfl
    · obtain ⟨x, r, h1, h2⟩ := scan_cuts l (cur ++ [c])
      refine ⟨c :: x, r, by rw [cuts, if_neg hc, h1], ?_⟩
      rw [scanD, if_neg hc, h2, List.append_assoc]
      rfl
theorem parts_pieces : ∀ ls : List (List UInt8), partsOf ls = if (piecesD ls).2 = true then none else some (piecesD ls).1
  | [] => rfl
  | x :: l => by
    have ih := parts_pieces l
    unfold partsOf piecesD finD
    by_cases h : x = [] ∨ x = [46]
    · rw [if_pos h, if_pos h, ih]
      simp
    · rw [if_neg h, if_neg h]
      by_cases h2 : 24 < x.length
      · rw [if_pos h2]
        simp [h2]
      · rw [if_neg h2, ih]
        cases h3 : (piecesD l).2 <;> simp [h2]
theorem parts_scan (l : List UInt8) : partsOf (cuts (47 :: l)) = if (scanD l []).2 = true then none else some (scanD l []).1 := by
  obtain ⟨x, r, h1, h2⟩ := scan_cuts l []
  rw [cuts, if_pos rfl, partsOf, if_pos (.inl rfl), h1, h2, List.nil_append, parts_pieces]
theorem parse_scan {s : ByteArray} {l : List UInt8} (h : s.data.toList = 47 :: l) (h2 : s.size ≤ 256) (h4 : s.data.toList.contains 0 = false) :
    parseP s = if (scanD l []).2 = true then (115, noPth) else (0, ⟨(scanD l []).1, !(scanD l []).1.isEmpty && lastSlash s.data.toList⟩) := by
  unfold parseP
  rw [if_neg (by rw [h]; simp), if_neg (by omega), if_neg (by rw [h4, h]; simp), h, parts_scan]
  cases (scanD l []).2 <;> rfl
/-- A step of the cutting. -/
theorem scan_slash {l cur : List UInt8} : scanD (47 :: l) cur = ((finD cur).1 ++ (scanD l []).1, (finD cur).2 || (scanD l []).2) := by rw [scanD, if_pos rfl]
theorem scan_byte {c : UInt8} {l cur : List UInt8} (h : c ≠ 47) : scanD (c :: l) cur = scanD l (cur ++ [c]) := by rw [scanD, if_neg h]
end Go.Proofs.YtnkcbogikaebfaaGreatDoor
end

section
/- The document's tree, plain: its writes as the plain tree has them: places in place of names and numbers. -/
namespace Go.Proofs.YtnkcbogikaebfaaGreatDoor
set_option maxRecDepth 100000
set_option linter.unusedSimpArgs false
set_option linter.unusedVariables false
/-- Where a new entry is to be. -/
def posE (n : ByteArray) : List En → Nat
  | [] => 0
  | x :: l => if nmLt x.name n then posE n l + 1 else 0
theorem posE_le (n : ByteArray) : ∀ l : List En, posE n l ≤ l.length
  | [] => Nat.le_refl _
  | x :: l => by
    have := posE_le n l
    unfold posE
    split
    · simp; omega
    · exact Nat.zero_le _
theorem insE_pos {e : En} : ∀ {l : List En}, entOf l e.name = none → insE e l = l.take (posE e.name l) ++ [e] ++ l.drop (posE e.name l)
  | [], _ => rfl
  | x :: l, h => by
    have hx : x.name ≠ e.name := entOf_none_iff.1 h x (by simp)
    have hl : entOf l e.name = none := entOf_none_iff.2 fun y hy => entOf_none_iff.1 h y (by simp [hy])
    unfold insE posE
    by_cases hlt : nmLt x.name e.name
    · have hn : ¬ nmLt e.name x.name := fun h2 => nmLt_irr _ (nmLt_tr hlt h2)
      rw [if_pos hlt, if_neg hn, insE_pos hl]
      simp
    · rw [if_neg hlt, if_pos (nmLt_of_not hlt hx)]
      simp
theorem posE_drop {n : ByteArray} : ∀ {l : List En} {k : Nat}, (∀ x ∈ l.take k, nmLt x.name n) → k ≤ l.length → posE n l = k + posE n (l.drop k)
  | [], 0, _, _ => rfl
  | [], k + 1, _, h => by simp at h
  | x :: l, 0, _, _ => by simp
  | x :: l, k + 1, h, hk => by
    have hx : nmLt x.name n := h x (by simp)
    have h2 := posE_drop (l := l) (k := k) (n := n) (fun y hy => h y (by simp [hy])) (by simpa using hk)
    show (if nmLt x.name n then posE n l + 1 else 0) = _
    rw [if_pos hx, h2, List.drop_succ_cons]
    omega
theorem posE_stop {n : ByteArray} {l : List En} {k : Nat} (h : ∀ x ∈ l.take k, nmLt x.name n) (hk : k < l.length) (hx : ¬ nmLt l[k].name n) : posE n l = k := by
  rw [posE_drop h (Nat.le_of_lt hk), List.drop_eq_getElem_cons hk]
  unfold posE
  rw [if_neg hx]
  rfl
theorem posE_end {n : ByteArray} {l : List En} (h : ∀ x ∈ l, nmLt x.name n) : posE n l = l.length := by
  rw [posE_drop (k := l.length) (by rw [List.take_length]; exact h) (Nat.le_refl _), List.drop_length]
  rfl
theorem cutE_none {n : ByteArray} {l : List En} (h : ∀ x ∈ l, x.name.data.toList ≠ n.data.toList) : cutE n l = l := by
  unfold cutE
  rw [List.filter_eq_self]
  intro x hx
  simpa using h x hx
theorem cutE_at {n : ByteArray} {l : List En} (hr : RiseE l) {k : Nat} {x : En} (hk : l[k]? = some x) (hx : x.name.data.toList = n.data.toList) : cutE n l = l.take k ++ l.drop (k + 1) := by
  obtain ⟨hk1, hk2⟩ := List.getElem?_eq_some_iff.1 hk
  have hsplit : l = l.take k ++ x :: l.drop (k + 1) := by rw [← hk2, ← List.drop_eq_getElem_cons hk1, List.take_append_drop]
  have hn : x.name = n := nm_ext' hx
  unfold RiseE at hr
  rw [hsplit] at hr
  rw [List.pairwise_append] at hr
  obtain ⟨_, h2, h3⟩ := hr
  rw [List.pairwise_cons] at h2
  have e1 : cutE n (l.take k) = l.take k := cutE_none fun y hy he => nmLt_irr n (by have := h3 y hy x (by simp); rwa [nm_ext' he, hn] at this)
  have e2 : cutE n (l.drop (k + 1)) = l.drop (k + 1) := cutE_none fun y hy he => nmLt_irr n (by have := h2.1 y hy; rwa [nm_ext' he, hn] at this)
  have e3 : cutE n l = cutE n (l.take k ++ x :: l.drop (k + 1)) := by rw [← hsplit]
  rw [e3]
  have e4 : cutE n (l.take k ++ x :: l.drop (k + 1)) = cutE n (l.take k) ++ cutE n (l.drop (k + 1)) := by
    unfold cutE
    rw [List.filter_append, List.filter_cons, if_neg (by simp [hx])]
  rw [e4, e1, e2]
section
variable {l : List NR} {k : Nat} {r : NR}
theorem rise_other (hr : RiseN l) (hk : l[k]? = some r) : (∀ y ∈ l.take k, y.nd.id < r.nd.id) ∧ ∀ y ∈ l.drop (k + 1), r.nd.id < y.nd.id := by
  obtain ⟨hk1, hk2⟩ := List.getElem?_eq_some_iff.1 hk
  have hsplit : l = l.take k ++ r :: l.drop (k + 1) := by rw [← hk2, ← List.drop_eq_getElem_cons hk1, List.take_append_drop]
  unfold RiseN at hr
  rw [hsplit, List.pairwise_append, List.pairwise_cons] at hr
  exact ⟨fun y hy => hr.2.2 y hy r (by simp), hr.2.1.1⟩
theorem set_split (hk : k < l.length) (x : NR) : l.set k x = l.take k ++ x :: l.drop (k + 1) := by rw [List.set_eq_take_append_cons_drop, if_pos hk]
theorem onR_set (hr : RiseN l) (hk : l[k]? = some r) {d : Int} (hd : r.nd.id = d) (f : List En → List En) : onR d f l = l.set k ⟨r.nd, f r.ents⟩ := by
  obtain ⟨hk1, hk2⟩ := List.getElem?_eq_some_iff.1 hk
  obtain ⟨h1, h2⟩ := rise_other hr hk
  have hsplit : l = l.take k ++ r :: l.drop (k + 1) := by rw [← hk2, ← List.drop_eq_getElem_cons hk1, List.take_append_drop]
  have same : ∀ q : List NR, (∀ y ∈ q, y.nd.id ≠ d) → onR d f q = q := fun q hq => by
    unfold onR
    exact (List.map_congr_left (g := id) (fun y hy => if_neg (hq y hy))).trans (List.map_id _)
  rw [set_split hk1]
  have e1 : onR d f l = onR d f (l.take k ++ r :: l.drop (k + 1)) := by rw [← hsplit]
  have e2 : onR d f (l.take k ++ r :: l.drop (k + 1)) = onR d f (l.take k) ++ (⟨r.nd, f r.ents⟩ : NR) :: onR d f (l.drop (k + 1)) := by
    unfold onR
    rw [List.map_append, List.map_cons, if_pos hd]
  rw [e1, e2, same _ (fun y hy => by have := h1 y hy; omega), same _ (fun y hy => by have := h2 y hy; omega)]
theorem dropN_at (hr : RiseN l) (hk : l[k]? = some r) {d : Int} (hd : r.nd.id = d) : (l.filter fun x => x.nd.id != d) = l.take k ++ l.drop (k + 1) := by
  obtain ⟨hk1, hk2⟩ := List.getElem?_eq_some_iff.1 hk
  obtain ⟨h1, h2⟩ := rise_other hr hk
  have hsplit : l = l.take k ++ r :: l.drop (k + 1) := by rw [← hk2, ← List.drop_eq_getElem_cons hk1, List.take_append_drop]
  have e1 : (l.filter fun x => x.nd.id != d) = (l.take k ++ r :: l.drop (k + 1)).filter fun x => x.nd.id != d := by rw [← hsplit]
  rw [e1, List.filter_append, List.filter_cons, if_neg (by simp [hd]), List.filter_eq_self.2 (fun y hy => by have := h1 y hy; simp; omega), List.filter_eq_self.2 (fun y hy => by have := h2 y hy; simp; omega)]
end
theorem putN_set {n : Nd} : ∀ {l : List NR} {k : Nat} {r : NR}, RiseN l → l[k]? = some r → r.nd.id = n.id → putN n l = l.set k ⟨n, if n.kind = 2 ∧ r.nd.kind = 2 then r.ents else []⟩
  | [], k, r, _, h, _ => by simp at h
  | x :: l, 0, r, _, h, hd => by
    obtain rfl : x = r := by simpa using h
    unfold putN
    rw [if_neg (by omega), if_pos hd.symm]
    rfl
  | x :: l, k + 1, r, hr, h, hd => by
    have hk : l[k]? = some r := by simpa using h
    unfold RiseN at hr
    rw [List.pairwise_cons] at hr
    have hlt := hr.1 r (List.mem_of_getElem? hk)
    unfold putN
    rw [if_neg (by omega), if_neg (by omega), putN_set hr.2 hk hd]
    rfl
theorem putN_end {n : Nd} : ∀ {l : List NR}, (∀ x ∈ l, x.nd.id < n.id) → putN n l = l ++ [⟨n, []⟩]
  | [], _ => rfl
  | x :: l, h => by
    have := h x (by simp)
    unfold putN
    rw [if_neg (by omega), if_neg (by omega), putN_end (fun y hy => h y (by simp [hy]))]
    rfl
end Go.Proofs.YtnkcbogikaebfaaGreatDoor
end
