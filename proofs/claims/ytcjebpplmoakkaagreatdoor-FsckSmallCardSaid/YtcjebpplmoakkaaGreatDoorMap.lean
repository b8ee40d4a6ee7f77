/- What a call may turn of memory (Touch), and maps as functions of their keys (MapAt): look-up, store, delete, len, copy. Over any program. -/
import Derived.Test.YtcjebpplmoakkaaGreatDoorRegion
import Derived.WalkKit
import Derived.MapKept
import Derived.Maps.OwnSet
import Derived.Below
namespace Go.Proofs.YtcjebpplmoakkaaGreatDoor
open Go Go.RowKit

/-- w' is w but for the blocks of S and new ones. -/
structure Touch (S : Nat → Prop) (w w' : World) : Prop where
  os : w'.os = w.os
  tape : w'.tape = w.tape
  output : w'.output = w.output
  size : w.heap.size ≤ w'.heap.size
  block : ∀ x, x < w.heap.size → ¬ S x → w'.heap[x]? = w.heap[x]?

def NoB : Nat → Prop := fun _ => False

theorem Touch.refl (S : Nat → Prop) (w : World) : Touch S w w := ⟨rfl, rfl, rfl, Nat.le_refl _, fun _ _ _ => rfl⟩
/-- Two steps: what the second may turn is among the first's, or new. -/
theorem Touch.trans {S S' : Nat → Prop} {a b c : World} (h : Touch S a b) (k : Touch S' b c) (hS : ∀ x, S' x → x < a.heap.size → S x) : Touch S a c :=
  ⟨k.os.trans h.os, k.tape.trans h.tape, k.output.trans h.output, Nat.le_trans h.size k.size,
    fun x hx hn => (k.block x (Nat.lt_of_lt_of_le hx h.size) (fun hs => hn (hS x hs hx))).trans (h.block x hx hn)⟩
theorem Touch.mono {S S' : Nat → Prop} {a b : World} (h : Touch S a b) (hS : ∀ x, S x → x < a.heap.size → S' x) : Touch S' a b :=
  ⟨h.os, h.tape, h.output, h.size, fun x hx hn => h.block x hx (fun hs => hn (hS x hs hx))⟩
theorem Touch.of_below {a b : World} (h : Below a.heap.size a b) (S : Nat → Prop) : Touch S a b := ⟨h.os, h.tape, h.output, h.size, fun x hx _ => h.block x hx⟩
theorem Touch.below {S : Nat → Prop} {a b : World} (h : Touch S a b) {B : Nat} (hB : B ≤ a.heap.size) (hS : ∀ x, S x → B ≤ x) : Below B a b :=
  ⟨h.os, h.tape, h.output, h.size, fun x hx => h.block x (Nat.lt_of_lt_of_le hx hB) (fun hs => by have := hS x hs; omega)⟩
theorem Touch.alloc {S : Nat → Prop} {a b : World} (h : Touch S a b) (o : Obj) : Touch S a (b.alloc o) :=
  h.trans (Touch.of_below ((Below.refl _ _).alloc (Nat.le_refl _) o) NoB) (fun _ h => h.elim)
theorem Touch.drew {S : Nat → Prop} {a b : World} (h : Touch S a b) : Touch S a b.drew := ⟨h.os, h.tape, h.output, h.size, h.block⟩
theorem Touch.then {S : Nat → Prop} {a b c : World} (h : Touch S a b) (k : Below b.heap.size b c) : Touch S a c := h.trans (Touch.of_below k NoB) (fun _ h => h.elim)
theorem Touch.setCell {S : Nat → Prop} {a b : World} (h : Touch S a b) {p : Addr} (hp : S p.block ∨ a.heap.size ≤ p.block) (u : Value) : Touch S a (b.setCell p u) :=
  h.trans (S' := fun x => x = p.block) ⟨rfl, rfl, rfl, by simp [World.setCell], fun x _ hn => Below.heap_setCell _ _ _ _ hn⟩ (fun x hx hl => by subst hx; exact hp.resolve_right (by omega))
theorem Touch.cell {S : Nat → Prop} {a b : World} (h : Touch S a b) {p : Addr} (hp : p.block < a.heap.size) (hn : ¬ S p.block) : b.cell? p = a.cell? p := World.cell?_of_block (w := a) (h.block p.block hp hn)
theorem Touch.frozen {S : Nat → Prop} {a b : World} (h : Touch S a b) {p : Addr} (hp : p.block < a.heap.size) (hn : ¬ S p.block) : b.frozen? p = a.frozen? p := World.frozen?_of_block (w := a) (h.block p.block hp hn)
theorem Touch.of_turned {w w' : World} {b : Nat} (h : w.mapTurned w' b) : Touch (fun x => x = b) w w' := by
  have g := h.grown
  exact ⟨g.os, g.tape, g.output, g.size, fun x hx hn => g.block x hx (fun e => hn (by injection e))⟩

/-- Below B nothing has turned, nor have the blocks of L. -/
structure Kept (B : Nat) (L : List Nat) (w w' : World) : Prop where
  below : Below B w w'
  loc : ∀ x ∈ L, w'.heap[x]? = w.heap[x]?
theorem Kept.refl (B : Nat) (L : List Nat) (w : World) : Kept B L w w := ⟨Below.refl _ _, fun _ _ => rfl⟩
theorem Kept.trans {B : Nat} {L : List Nat} {a b c : World} (h : Kept B L a b) (k : Kept B L b c) : Kept B L a c := ⟨h.below.trans k.below, fun x hx => (k.loc x hx).trans (h.loc x hx)⟩
theorem Kept.mono {B : Nat} {L L' : List Nat} {a b : World} (h : Kept B L a b) (hL : ∀ x ∈ L', x ∈ L) : Kept B L' a b := ⟨h.below, fun x hx => h.loc x (hL x hx)⟩
theorem Kept.of_below {B : Nat} {L : List Nat} {a b : World} (h : Below a.heap.size a b) (hB : B ≤ a.heap.size) (hL : ∀ x ∈ L, x < a.heap.size) : Kept B L a b := ⟨h.mono hB, fun x hx => h.block x (hL x hx)⟩
theorem Kept.of_touch {B : Nat} {L : List Nat} {S : Nat → Prop} {a b : World} (h : Touch S a b) (hB : B ≤ a.heap.size) (hL : ∀ x ∈ L, x < a.heap.size) (hS : ∀ x, S x → B ≤ x ∧ x ∉ L) : Kept B L a b :=
  ⟨h.below hB (fun x hx => (hS x hx).1), fun x hx => h.block x (hL x hx) (fun hs => (hS x hs).2 hx)⟩
theorem Kept.cell {B : Nat} {L : List Nat} {a b : World} (h : Kept B L a b) {x : Nat} (hx : x ∈ L) (o : Nat) : b.cell? ⟨x, o, none⟩ = a.cell? ⟨x, o, none⟩ := World.cell?_of_block (w := a) (h.loc x hx)
theorem Kept.froz {B : Nat} {L : List Nat} {a b : World} (h : Kept B L a b) {x : Nat} (hx : x ∈ L) (o : Nat) : b.frozen? ⟨x, o, none⟩ = a.frozen? ⟨x, o, none⟩ := World.frozen?_of_block (w := a) (h.loc x hx)

/-- Behind a write into the map's block r: cells and marks elsewhere. -/
theorem turned_cell {w w' : World} {r : Nat} (h : w.mapTurned w' r) : (∀ b o, b ≠ r → w'.cell? ⟨b, o, none⟩ = w.cell? ⟨b, o, none⟩) ∧ (∀ b o, b ≠ r → w'.frozen? ⟨b, o, none⟩ = w.frozen? ⟨b, o, none⟩) ∧ w'.heap.size = w.heap.size := by
  obtain ⟨es, clk, es', clk', hb, rfl⟩ := h
  refine ⟨fun b o hne => World.cell?_of_block (w := w) (ChangeMaps.heap_setBlock_other hb _ hne), fun b o hne => World.frozen?_of_block (w := w) (ChangeMaps.heap_setBlock_other hb _ hne), by simp [ChangeMaps.setBlock]⟩

/-- BLOCK r IS A MAP OF n ENTRIES: key k has g k. -/
def MapAt (P : Program) (kt : TypeId) {K V : Type} (eK : K → Value) (eV : V → Value) (w : World) (r : Nat) (g : K → Option V) (n : Nat) : Prop :=
  ∃ (es : Array MapEntry) (clk : Nat), w.heap[r]? = some (.map es clk) ∧ MapKept.Stamped es clk ∧ es.size = n ∧
    (∀ e ∈ es.toList, ∃ k v, e.key = eK k ∧ e.val = eV v ∧ g k = some v ∧ ∃ l, keyOf P kt e.key = some l) ∧
    (∀ k v, g k = some v → ∃ e ∈ es.toList, e.key = eK k ∧ e.val = eV v)

/-- The map with k at v. -/
def upd {K V : Type} [DecidableEq K] (g : K → Option V) (k : K) (v : V) : K → Option V := fun x => if x = k then some v else g x
/-- The map without k. -/
def del {K V : Type} [DecidableEq K] (g : K → Option V) (k : K) : K → Option V := fun x => if x = k then none else g x

section
variable {P : Program} {kt : TypeId} {K V : Type} {eK : K → Value} {eV : V → Value} {w : World} {r n : Nat} {g : K → Option V}

theorem mapAt_new (P : Program) (kt : TypeId) (eK : K → Value) (eV : V → Value) (w : World) : MapAt P kt eK eV (w.alloc (.map #[] 0)) w.heap.size (fun _ => none) 0 :=
  ⟨#[], 0, (MapKept.heap_alloc w _).1, MapKept.stamped_empty 0, rfl, by simp, by simp⟩

theorem mapAt_new' (P : Program) (kt : TypeId) (eK : K → Value) (eV : V → Value) (w : World) (hr : r = w.heap.size) : MapAt P kt eK eV (w.alloc (.map #[] 0)) r (fun _ => none) 0 := by
  subst hr; exact mapAt_new P kt eK eV w

theorem MapAt.lt (h : MapAt P kt eK eV w r g n) : r < w.heap.size := by
  obtain ⟨es, clk, hb, _⟩ := h
  exact (Array.getElem?_eq_some_iff.1 hb).1

theorem MapAt.keep {w' : World} (h : MapAt P kt eK eV w r g n) (hb : w'.heap[r]? = w.heap[r]?) : MapAt P kt eK eV w' r g n := by
  obtain ⟨es, clk, h1, h2⟩ := h
  exact ⟨es, clk, hb.trans h1, h2⟩
theorem MapAt.touch {w' : World} {S : Nat → Prop} (h : MapAt P kt eK eV w r g n) (ht : Touch S w w') (hn : ¬ S r) : MapAt P kt eK eV w' r g n := h.keep (ht.block r h.lt hn)
theorem MapAt.below {w' : World} (h : MapAt P kt eK eV w r g n) (hb : Below w.heap.size w w') : MapAt P kt eK eV w' r g n := h.keep (hb.block r h.lt)
theorem MapAt.alloc (h : MapAt P kt eK eV w r g n) (o : Obj) : MapAt P kt eK eV (w.alloc o) r g n := h.below ((Below.refl _ _).alloc (Nat.le_refl _) o)
theorem MapAt.setCell (h : MapAt P kt eK eV w r g n) {a : Addr} (ha : r ≠ a.block) (u : Value) : MapAt P kt eK eV (w.setCell a u) r g n := h.keep (Below.heap_setCell _ _ _ _ ha)

theorem MapAt.look_some {t et : TypeId} (h : MapAt P kt eK eV w r g n) (Kd : Maps.Keyed P kt) (ht : P.underlying t = some (.map kt et)) (hinj : ∀ a b, eK a = eK b → a = b)
    {k : K} {l : Lit} (hk : keyOf P kt (eK k) = some l) {v : V} (hg : g k = some v) (c : Bool) : (Instr.lookup t (.map (some r)) (eK k) c).run P w = .ok (if c then .tuple #[eV v, .bool true] else eV v) w := by
  obtain ⟨es, clk, hb, _, _, h1, h2⟩ := h
  rcases Kd.find w hk es.toList (fun e he => by obtain ⟨_, _, _, _, _, hl⟩ := h1 e he; exact hl) with ⟨f1, f2⟩ | ⟨j, e0, f1, f2, f3⟩
  · obtain ⟨e, he, hek, _⟩ := h2 k v hg
    exact absurd hek (f2 e he)
  · have hm : e0 ∈ es.toList := List.mem_of_getElem? f2
    obtain ⟨k', v', hk', hv', hg', _⟩ := h1 e0 hm
    have : k' = k := hinj _ _ (hk'.symm.trans f3)
    subst this
    rw [hg] at hg'
    cases hg'
    simp [Instr.lookup, run_underlying ht, MapKept.run_getObj_map hb, Kd.check w _ hk, f1, hv', Result.andThen]

theorem MapAt.look_none {t et : TypeId} (h : MapAt P kt eK eV w r g n) (Kd : Maps.Keyed P kt) (ht : P.underlying t = some (.map kt et)) (hinj : ∀ a b, eK a = eK b → a = b) {z : Value} (hz : (zeroValue et).run P w = .ok z w)
    {k : K} {l : Lit} (hk : keyOf P kt (eK k) = some l) (hg : g k = none) (c : Bool) : (Instr.lookup t (.map (some r)) (eK k) c).run P w = .ok (if c then .tuple #[z, .bool false] else z) w := by
  obtain ⟨es, clk, hb, _, _, h1, h2⟩ := h
  rcases Kd.find w hk es.toList (fun e he => by obtain ⟨_, _, _, _, _, hl⟩ := h1 e he; exact hl) with ⟨f1, f2⟩ | ⟨j, e0, f1, f2, f3⟩
  · simp [Instr.lookup, run_underlying ht, MapKept.run_getObj_map hb, Kd.check w _ hk, f1, hz, Result.andThen]
  · obtain ⟨k', v', hk', hv', hg', _⟩ := h1 e0 (List.mem_of_getElem? f2)
    have : k' = k := hinj _ _ (hk'.symm.trans f3)
    subst this
    rw [hg] at hg'
    cases hg'

theorem MapAt.empty (h : MapAt P kt eK eV w r g 0) : ∀ k, g k = none := by
  obtain ⟨es, clk, _, _, hn, _, h2⟩ := h
  intro k
  cases hg : g k with
  | none => rfl
  | some v =>
    obtain ⟨e, he, _⟩ := h2 k v hg
    have : es = #[] := Array.eq_empty_of_size_eq_zero hn
    simp [this] at he

theorem MapAt.len {t et : TypeId} (h : MapAt P kt eK eV w r g n) (ht : P.underlying t = some (.map kt et)) (ty : TypeId) : (Builtin.len_ #[t] ty #[.map (some r)]).run P w = .ok (.int .i64 n) w := by
  obtain ⟨es, clk, hb, _, hn, _⟩ := h
  subst hn
  simp [Builtin.len_, run_underlying ht, MapKept.run_getObj_map hb, goInt, Result.andThen]

theorem MapAt.put [DecidableEq K] {t et : TypeId} (h : MapAt P kt eK eV w r g n) (Kd : Maps.Keyed P kt) (ht : P.underlying t = some (.map kt et)) (hinj : ∀ a b, eK a = eK b → a = b)
    {k : K} {l : Lit} (hk : keyOf P kt (eK k) = some l) (v : V) : ∃ w', (Instr.mapUpdate t (.map (some r)) (eK k) (eV v)).run P w = .ok () w' ∧
      MapAt P kt eK eV w' r (upd g k v) (if (g k).isSome then n else n + 1) ∧ w.mapTurned w' r := by
  obtain ⟨es, clk, hb, hst, hn, h1, h2⟩ := h
  rcases Kd.find w hk es.toList (fun e he => by obtain ⟨_, _, _, _, _, hl⟩ := h1 e he; exact hl) with ⟨f1, f2⟩ | ⟨j, e0, f1, f2, f3⟩
  · have hgn : g k = none := by
      cases hg : g k with
      | none => rfl
      | some v' =>
        obtain ⟨e, he, hek, _⟩ := h2 k v' hg
        exact absurd hek (f2 e he)
    refine ⟨ChangeMaps.setBlock w r (.map (es.push ⟨eK k, eV v, clk⟩) (clk + 1)), ?_, ⟨_, _, ChangeMaps.heap_setBlock_same hb _, MapKept.stamped_push hst f2, by simp [hgn, hn], ?_, ?_⟩, ⟨es, clk, _, _, hb, rfl⟩⟩
    · simp [Instr.mapUpdate, run_underlying ht, MapKept.run_getObj_map hb, Kd.check w false hk, f1, MapKept.run_setObj_map _ hb, Result.andThen, ChangeMaps.setBlock]
    · intro e he
      simp only [Array.toList_push, List.mem_append, List.mem_singleton] at he
      rcases he with he | rfl
      · obtain ⟨k', v', e1, e2, e3, e4⟩ := h1 e he
        refine ⟨k', v', e1, e2, ?_, e4⟩
        have : k' ≠ k := fun hkk => f2 e he (by rw [e1, hkk])
        simp [upd, this, e3]
      · exact ⟨k, v, rfl, rfl, by simp [upd], l, hk⟩
    · intro k' v' hg'
      simp only [Array.toList_push, List.mem_append, List.mem_singleton]
      by_cases hkk : k' = k
      · subst hkk
        simp [upd] at hg'
        subst hg'
        exact ⟨_, .inr rfl, rfl, rfl⟩
      · simp [upd, hkk] at hg'
        obtain ⟨e, he, e1, e2⟩ := h2 k' v' hg'
        exact ⟨e, .inl he, e1, e2⟩
  · have hm : e0 ∈ es.toList := List.mem_of_getElem? f2
    obtain ⟨k', v', hk', _, hg', _⟩ := h1 e0 hm
    have : k' = k := hinj _ _ (hk'.symm.trans f3)
    subst this
    have hj : es[j]? = some e0 := by simpa using f2
    have hjl : j < es.size := (Array.getElem?_eq_some_iff.1 hj).1
    have hgk : (g k').isSome = true := by rw [hg']; rfl
    have hmod : ∀ e, e ∈ (es.modify j fun e => { e with key := eK k', val := eV v }).toList ↔ (e = { e0 with key := eK k', val := eV v }) ∨ (∃ i, i ≠ j ∧ es[i]? = some e) := by
      intro e
      rw [List.mem_iff_getElem?]
      constructor
      · rintro ⟨i, hi⟩
        simp only [Array.getElem?_toList, Array.getElem?_modify] at hi
        by_cases hij : j = i
        · subst hij
          rw [if_pos rfl, hj] at hi
          exact .inl (by simpa using hi.symm)
        · rw [if_neg hij] at hi
          exact .inr ⟨i, fun h => hij h.symm, hi⟩
      · rintro (rfl | ⟨i, hij, hi⟩)
        · exact ⟨j, by simp [hj]⟩
        · exact ⟨i, by simp [Ne.symm hij, hi]⟩
    have hother : ∀ i e, i ≠ j → es[i]? = some e → e.key ≠ eK k' := by
      intro i e hij hi he
      have hnd := hst.2.2
      have h1' : (es.toList.map (·.key))[i]? = some (eK k') := by simp [hi, he]
      have h2' : (es.toList.map (·.key))[j]? = some (eK k') := by simp [hj, f3]
      have hil : i < (es.toList.map (·.key)).length := (List.getElem?_eq_some_iff.1 h1').1
      exact hij ((List.getElem?_inj hil hnd).1 (h1'.trans h2'.symm))
    refine ⟨ChangeMaps.setBlock w r (.map (es.modify j fun e => { e with key := eK k', val := eV v }) clk), ?_, ⟨_, _, ChangeMaps.heap_setBlock_same hb _, ?_, by simp [hgk, hn], ?_, ?_⟩, ⟨es, clk, _, _, hb, rfl⟩⟩
    · have hj' : es[j]'hjl = e0 := by
        have := Array.getElem?_eq_getElem hjl
        rw [hj] at this
        exact (Option.some.inj this).symm
      simp [Instr.mapUpdate, run_underlying ht, MapKept.run_getObj_map hb, Kd.check w false hk, f1, hjl, hj', f3, Kd.stays w hk, MapKept.run_setObj_map _ hb, Result.andThen, ChangeMaps.setBlock]
    · exact MapKept.stamped_modify hst j _ (fun _ _ => rfl) (fun e _ he => by rw [hj] at he; cases he; exact f3.symm)
    · intro e he
      rcases (hmod e).1 he with rfl | ⟨i, hij, hi⟩
      · exact ⟨k', v, rfl, rfl, by simp [upd], l, hk⟩
      · obtain ⟨k2, v2, e1, e2, e3, e4⟩ := h1 e (by rw [← Array.mem_def]; exact Array.mem_of_getElem? hi)
        refine ⟨k2, v2, e1, e2, ?_, e4⟩
        have : k2 ≠ k' := fun hkk => hother i e hij hi (by rw [e1, hkk])
        simp [upd, this, e3]
    · intro k2 v2 hg2
      by_cases hkk : k2 = k'
      · subst hkk
        simp [upd] at hg2
        subst hg2
        exact ⟨_, (hmod _).2 (.inl rfl), rfl, rfl⟩
      · simp [upd, hkk] at hg2
        obtain ⟨e, he, e1, e2⟩ := h2 k2 v2 hg2
        obtain ⟨i, hi⟩ := List.mem_iff_getElem?.1 he
        refine ⟨e, (hmod _).2 (.inr ⟨i, fun hij => ?_, by simpa using hi⟩), e1, e2⟩
        subst hij
        rw [f2] at hi
        cases hi
        exact hkk (hinj _ _ (e1.symm.trans f3))

theorem MapAt.drop [DecidableEq K] {t et : TypeId} (h : MapAt P kt eK eV w r g n) (Kd : Maps.Keyed P kt) (ht : P.underlying t = some (.map kt et)) (hinj : ∀ a b, eK a = eK b → a = b)
    {k : K} {l : Lit} (hk : keyOf P kt (eK k) = some l) (ty : TypeId) : ∃ w', (Builtin.delete_ #[t, kt] ty #[.map (some r), eK k]).run P w = .ok (.tuple #[]) w' ∧
      MapAt P kt eK eV w' r (del g k) (if (g k).isSome then n - 1 else n) ∧ w.mapTurned w' r := by
  obtain ⟨es, clk, hb, hst, hn, h1, h2⟩ := h
  rcases Kd.find w hk es.toList (fun e he => by obtain ⟨_, _, _, _, _, hl⟩ := h1 e he; exact hl) with ⟨f1, f2⟩ | ⟨j, e0, f1, f2, f3⟩
  · have hgn : g k = none := by
      cases hg : g k with
      | none => rfl
      | some v' =>
        obtain ⟨e, he, hek, _⟩ := h2 k v' hg
        exact absurd hek (f2 e he)
    refine ⟨ChangeMaps.setBlock w r (.map es clk), ?_, ⟨_, _, ChangeMaps.heap_setBlock_same hb _, hst, by simp [hgn, hn], ?_, ?_⟩, ⟨es, clk, _, _, hb, rfl⟩⟩
    · simp [Builtin.delete_, run_underlying ht, MapKept.run_getObj_map hb, Kd.check w _ hk, f1, MapKept.run_setObj_map _ hb, Result.andThen, ChangeMaps.setBlock]
    · intro e he
      obtain ⟨k', v', e1, e2, e3, e4⟩ := h1 e he
      have : k' ≠ k := fun hkk => f2 e he (by rw [e1, hkk])
      exact ⟨k', v', e1, e2, by simp [del, this, e3], e4⟩
    · intro k' v' hg'
      by_cases hkk : k' = k
      · simp [del, hkk] at hg'
      · simp [del, hkk] at hg'
        exact h2 k' v' hg'
  · have hm : e0 ∈ es.toList := List.mem_of_getElem? f2
    obtain ⟨k', v', hk', _, hg', _⟩ := h1 e0 hm
    have : k' = k := hinj _ _ (hk'.symm.trans f3)
    subst this
    have hj : es[j]? = some e0 := by simpa using f2
    have hjl : j < es.size := (Array.getElem?_eq_some_iff.1 hj).1
    have hgk : (g k').isSome = true := by rw [hg']; rfl
    have hother : ∀ i e, i ≠ j → es.toList[i]? = some e → e.key ≠ eK k' := by
      intro i e hij hi he
      have hnd := hst.2.2
      have h1' : (es.toList.map (·.key))[i]? = some (eK k') := by simp only [List.getElem?_map, hi, Option.map_some, he]
      have h2' : (es.toList.map (·.key))[j]? = some (eK k') := by simp only [List.getElem?_map, f2, Option.map_some, f3]
      have hil : i < (es.toList.map (·.key)).length := (List.getElem?_eq_some_iff.1 h1').1
      exact hij ((List.getElem?_inj hil hnd).1 (h1'.trans h2'.symm))
    have hl : (es.eraseIdxIfInBounds j).toList = es.toList.eraseIdx j := by simp [Array.eraseIdxIfInBounds, hjl]
    refine ⟨ChangeMaps.setBlock w r (.map (es.eraseIdxIfInBounds j) clk), ?_, ⟨_, _, ChangeMaps.heap_setBlock_same hb _, MapKept.stamped_erase hst j, ?_, ?_, ?_⟩, ⟨es, clk, _, _, hb, rfl⟩⟩
    · simp [Builtin.delete_, run_underlying ht, MapKept.run_getObj_map hb, Kd.check w _ hk, f1, MapKept.run_setObj_map _ hb, Result.andThen, ChangeMaps.setBlock]
    · have hz := congrArg List.length hl
      simp only [Array.length_toList, List.length_eraseIdx] at hz
      rw [hz, if_pos hjl, hgk, if_pos rfl, hn]
    · intro e he
      rw [hl] at he
      obtain ⟨i, hij, hi⟩ := List.mem_eraseIdx_iff_getElem?.1 he
      obtain ⟨k2, v2, e1, e2, e3, e4⟩ := h1 e (List.mem_of_getElem? hi)
      have : k2 ≠ k' := fun hkk => hother i e hij hi (by rw [e1, hkk])
      exact ⟨k2, v2, e1, e2, by simp [del, this, e3], e4⟩
    · intro k2 v2 hg2
      by_cases hkk : k2 = k'
      · simp [del, hkk] at hg2
      · simp [del, hkk] at hg2
        obtain ⟨e, he, e1, e2⟩ := h2 k2 v2 hg2
        obtain ⟨i, hi⟩ := List.mem_iff_getElem?.1 he
        refine ⟨e, ?_, e1, e2⟩
        rw [hl]
        refine List.mem_eraseIdx_iff_getElem?.2 ⟨i, fun hij => ?_, hi⟩
        subst hij
        rw [f2] at hi
        cases hi
        exact hkk (hinj _ _ (e1.symm.trans f3))

/-- A copy of the block is the same map. -/
theorem MapAt.copy (h : MapAt P kt eK eV w r g n) : ∃ es clk, (getObj r).run P w = .ok (.map es clk) w ∧ w.heap[r]? = some (.map es clk) ∧ ∀ w' : World, MapAt P kt eK eV (w'.alloc (.map es clk)) w'.heap.size g n := by
  obtain ⟨es, clk, hb, h2⟩ := h
  exact ⟨es, clk, MapKept.run_getObj_map hb, hb, fun w' => ⟨es, clk, (MapKept.heap_alloc w' _).1, h2⟩⟩

/-! ### at the operations of a walk -/
theorem wpList_look {ops : Array Oper} {rest : List Oper} {o : Oper} {a : Act} {Q : Exit → Act → World → Prop} (hg : o.guard = none) (m x : Operand) (t : TypeId) (c : Bool) (hop : o.op = Op.lookup t m x c) {v : Value}
    (hrun : (Instr.lookup t (a.eval m) (a.eval x) c).run P w = .ok v w) (hK : wpList P ops Q rest (a.put o.dst v) w) : wpList P ops Q (o :: rest) a w := by
  refine wpList_plain hg fun K' hK' => ?_
  unfold Oper.wp
  simp [execOp, hop, hrun, Result.andThen]
  exact hK' _ _ hK
theorem wpList_upd {ops : Array Oper} {rest : List Oper} {o : Oper} {a : Act} {Q : Exit → Act → World → Prop} (hg : o.guard = none) (m x y : Operand) (t : TypeId) (hop : o.op = Op.mapUpdate t m x y) {R : World → Prop}
    (hrun : ∃ w', (Instr.mapUpdate t (a.eval m) (a.eval x) (a.eval y)).run P w = .ok () w' ∧ R w') (hK : ∀ w', R w' → wpList P ops Q rest (a.put o.dst undef) w') : wpList P ops Q (o :: rest) a w := by
  refine wpList_plain hg fun K' hK' => ?_
  obtain ⟨w', hrun, hR⟩ := hrun
  unfold Oper.wp
  simp [execOp, hop, hrun, Result.andThen]
  exact hK' _ _ (hK w' hR)
theorem wpList_drop {ops : Array Oper} {rest : List Oper} {o : Oper} {a : Act} {Q : Exit → Act → World → Prop} (hg : o.guard = none) (m x : Operand) (t k : TypeId) (hop : o.op = Op.call { callee := Callee.builtin Builtin.delete, args := #[m, x], argTypes := #[t, k] }) {R : World → Prop}
    (hrun : ∃ w', (Builtin.delete_ #[t, k] o.type #[a.eval m, a.eval x]).run P w = .ok (.tuple #[]) w' ∧ R w') (hK : ∀ w', R w' → wpList P ops Q rest (a.put o.dst (.tuple #[])) w') : wpList P ops Q (o :: rest) a w := by
  refine wpList_plain hg fun K' hK' => ?_
  obtain ⟨w', hrun, hR⟩ := hrun
  unfold Oper.wp
  simp [execOp, hop, resolve, invoke, builtin, hrun, Result.andThen]
  exact hK' _ _ (hK w' hR)
theorem wpList_mlen {ops : Array Oper} {rest : List Oper} {o : Oper} {a : Act} {Q : Exit → Act → World → Prop} (hg : o.guard = none) (m : Operand) (t : TypeId) (hop : o.op = Op.call { callee := Callee.builtin Builtin.len, args := #[m], argTypes := #[t] }) {v : Value}
    (hrun : (Builtin.len_ #[t] o.type #[a.eval m]).run P w = .ok v w) (hK : wpList P ops Q rest (a.put o.dst v) w) : wpList P ops Q (o :: rest) a w := by
  refine wpList_plain hg fun K' hK' => ?_
  unfold Oper.wp
  simp [execOp, hop, resolve, invoke, builtin, hrun, Result.andThen]
  exact hK' _ _ hK
end
end Go.Proofs.YtcjebpplmoakkaaGreatDoor
