/- PROVED: Rows.TreePlaysCardSaid: for every input the law TreePlays returns true, and each argument reads as before. Conditions: none beyond the listed package variables, which the card ties to the program's text. -/
import Derived.Test.YtnkcbogikaebfaaGreatDoorBase02
import Derived.Test.YtnkcbogikaebfaaGreatDoorBase03
import Derived.Maps.RangeWalk
import Derived.Test.YtnkcbogikaebfaaGreatDoorBase30
import Derived.Test.YtnkcbogikaebfaaGreatDoorBase41
import Derived.Test.YtnkcbogikaebfaaGreatDoorBase37
import Derived.Test.YtnkcbogikaebfaaGreatDoorBase38
import Derived.Test.YtnkcbogikaebfaaGreatDoorRows
import Derived.Test.YtnkcbogikaebfaaGreatDoorCards
import Derived.Test.YtnkcbogikaebfaaGreatDoorTie
import Derived.Test.YtnkcbogikaebfaaGreatDoorBase05
import Derived.Test.YtnkcbogikaebfaaGreatDoorBase06
import Derived.Test.YtnkcbogikaebfaaGreatDoorBase35
import Derived.Test.YtnkcbogikaebfaaGreatDoorBase36
import Derived.ProofKit
import Derived.OpenShut
import Derived.ChangeOld
import Derived.LaidMore
import Derived.ChangeSame
import Derived.ChangeVars
import Derived.JoinedOf
import Derived.Lay
import Derived.MakeChecks
import Derived.SevenTiedAt
import Derived.Stop.Joined
import Derived.ChangeMaps5
import Derived.Test.YtnkcbogikaebfaaGreatDoorBase42
section
/- Ranging over a map that is a function of its keys: what is still to come, as a list of keys. -/
namespace Go.Proofs.YtnkcbogikaebfaaGreatDoor
open Go Go.Maps Go.RowKit
set_option maxRecDepth 100000

/-- Block r goes over the map of block b, which holds g: 'left' are the keys that are still to come, each once, cnt of them. -/
def Rng {K V : Type} (eK : K → Value) (eV : V → Value) (w : World) (r b : Nat) (g : K → Option V) (left : List K) (cnt : Nat) : Prop :=
  ∃ es clock since seen c0, w.heap[b]? = some (.map es clock) ∧ MapKept.Stamped es clock ∧ (∀ e ∈ es.toList, ∃ k v, e.key = eK k ∧ e.val = eV v ∧ g k = some v) ∧
    w.heap[r]? = some (.mapIter (some b) since seen c0) ∧ (∀ x ∈ es.toList, x.born < since) ∧ since ≤ c0 ∧ since ≤ clock ∧ (leftOf es seen).size = cnt ∧ left.Nodup ∧
    ∀ k, k ∈ left ↔ ∃ x ∈ es.toList, x.key = eK k ∧ seen.contains x.born = false

section
variable {P : Program} {kt : TypeId} {K V : Type} {eK : K → Value} {eV : V → Value} {w : World} {r b n cnt : Nat} {g : K → Option V} {left : List K}

theorem Rng.keep {w' : World} (h : Rng eK eV w r b g left cnt) (hr : w'.heap[r]? = w.heap[r]?) (hb : w'.heap[b]? = w.heap[b]?) : Rng eK eV w' r b g left cnt := by
  obtain ⟨es, clock, since, seen, c0, h1, h2, h3, h4, h5⟩ := h
  exact ⟨es, clock, since, seen, c0, hb.trans h1, h2, h3, hr.trans h4, h5⟩
theorem Rng.lt (h : Rng eK eV w r b g left cnt) : r < w.heap.size ∧ b < w.heap.size := by
  obtain ⟨es, clock, since, seen, c0, h1, h2, h3, h4, h5⟩ := h
  exact ⟨(Array.getElem?_eq_some_iff.1 h4).1, (Array.getElem?_eq_some_iff.1 h1).1⟩
theorem Rng.ne (h : Rng eK eV w r b g left cnt) : r ≠ b := by
  obtain ⟨es, clock, since, seen, c0, h1, h2, h3, h4, h5⟩ := h
  rintro rfl
  rw [h1] at h4
  cases h4
theorem Rng.below {w' : World} (h : Rng eK eV w r b g left cnt) (hb : Below w.heap.size w w') : Rng eK eV w' r b g left cnt := h.keep (hb.block _ h.lt.1) (hb.block _ h.lt.2)
theorem Rng.left_eq (h : Rng eK eV w r b g left cnt) : w.rangeLeft b r = cnt := by
  obtain ⟨es, clock, since, seen, c0, h1, h2, h3, h4, _, _, _, h5, _⟩ := h
  simp only [World.rangeLeft, h1, h4]
  exact h5

theorem MapAt.range {t et : TypeId} (h : MapAt P kt eK eV w b g n) (ht : P.underlying t = some (.map kt et)) (hinj : ∀ a b, eK a = eK b → a = b) :
    ∃ w' ks, (Instr.range t (.map (some b))).run P w = .ok (.pointer (some ⟨w.heap.size, 0, none⟩)) w' ∧ Rng eK eV w' w.heap.size b g ks ks.length ∧ (∀ k, k ∈ ks ↔ (g k).isSome = true) ∧ ks.length = n ∧ Below w.heap.size w w' ∧ w.heap.size < w'.heap.size := by
  have hlt := h.lt
  obtain ⟨es, clk, hb, hst, hs, h1, h2⟩ := h
  have hks : ∀ l : List MapEntry, (∀ x ∈ l, x ∈ es.toList) → ∃ ks : List K, l.map (·.key) = ks.map eK := by
    intro l
    induction l with
    | nil => intro _; exact ⟨[], rfl⟩
    | cons x l ih =>
      intro hl
      obtain ⟨ks, i1⟩ := ih fun y hy => hl y (List.mem_cons_of_mem _ hy)
      obtain ⟨k, v, e1, _⟩ := h1 x (hl x (List.mem_cons_self ..))
      exact ⟨k :: ks, by simp [e1, i1]⟩
  obtain ⟨ks, k1⟩ := hks es.toList fun _ h => h
  have hlen : ks.length = n := by
    have := congrArg List.length k1
    simp at this
    omega
  have hmem : ∀ k, k ∈ ks ↔ ∃ x ∈ es.toList, x.key = eK k := by
    intro k
    constructor
    · intro hk
      have : eK k ∈ es.toList.map (·.key) := by rw [k1]; exact List.mem_map.2 ⟨k, hk, rfl⟩
      obtain ⟨x, hx, he⟩ := List.mem_map.1 this
      exact ⟨x, hx, he⟩
    · rintro ⟨x, hx, he⟩
      have : eK k ∈ ks.map eK := by rw [← k1]; exact List.mem_map.2 ⟨x, hx, he⟩
      obtain ⟨k', hk', he'⟩ := List.mem_map.1 this
      exact hinj _ _ he' ▸ hk'
  refine ⟨_, ks, run_range_map w t kt et b es clk ht hb, ⟨es, clk, clk, #[], clk, ((MapKept.heap_alloc w _).2 b hlt).trans hb, hst, ?_, (MapKept.heap_alloc w _).1, hst.1, Nat.le_refl _, Nat.le_refl _, ?_, ?_, ?_⟩, ?_, hlen, bl_alloc (Below.refl _ _) _, by simp⟩
  · intro e he
    obtain ⟨k, v, e1, e2, e3, _⟩ := h1 e he
    exact ⟨k, v, e1, e2, e3⟩
  · rw [hlen, ← hs]
    simp [leftOf]
  · have := hst.2.2
    rw [k1] at this
    exact List.Pairwise.of_map eK (fun a b hab h => hab (by rw [h])) this
  · intro k
    rw [hmem]
    simp
  · intro k
    rw [hmem]
    constructor
    · rintro ⟨x, hx, he⟩
      obtain ⟨k', v, e1, e2, e3, _⟩ := h1 x hx
      have : k' = k := hinj _ _ (by rw [← e1, he])
      subst this
      rw [e3]; rfl
    · intro hk
      obtain ⟨v, hv⟩ := Option.isSome_iff_exists.1 hk
      obtain ⟨x, hx, he, _⟩ := h2 k v hv
      exact ⟨x, hx, he⟩

theorem Rng.next [DecidableEq K] (h : Rng eK eV w r b g left cnt) (hinj : ∀ a b, eK a = eK b → a = b) (ty : TypeId) :
    (left = [] ∧ (Instr.next (.pointer (some ⟨r, 0, none⟩)) false ty).run P w = .ok (.tuple #[.bool false]) w) ∨
    ∃ k v w' cnt', k ∈ left ∧ g k = some v ∧ (Instr.next (.pointer (some ⟨r, 0, none⟩)) false ty).run P w = .ok (.tuple #[.bool true, eK k, eV v]) w' ∧ Rng eK eV w' r b g (left.filter (fun x => decide (x ≠ k))) cnt' ∧ cnt' < cnt ∧
      Touch (fun x => x = r) w w' ∧ (Instr.entry (.pointer (some ⟨r, 0, none⟩))).run P w' = .ok (.tuple #[eK k, eV v]) w' := by
  have hne := h.ne
  obtain ⟨es, clock, since, seen, c0, hb, hst, h1, hr, hold, hsc, hsk, hcnt, hnd, hl⟩ := h
  rcases run_next_at (P := P) w ty r b since c0 seen es clock hr hb hold hsc with ⟨h0, hrun⟩ | ⟨e, he, w1, hal, hrun⟩
  · refine .inl ⟨?_, hrun⟩
    cases left with
    | nil => rfl
    | cons k l =>
      obtain ⟨x, hx, _, hs⟩ := (hl k).1 (List.mem_cons_self ..)
      rw [all_seen es seen h0 x hx] at hs
      cases hs
  · obtain ⟨hem, hes⟩ := mem_left he
    obtain ⟨k, v, e1, e2, e3⟩ := h1 e hem
    have hr1 : w1.heap[r]? = some (.mapIter (some b) since seen c0) := by rcases hal with rfl | rfl <;> exact hr
    have hb1 : w1.heap[b]? = some (.map es clock) := by rcases hal with rfl | rfl <;> exact hb
    have hset := MapKept.heap_set (o' := .mapIter (some b) since (seen.push e.born) clock) hr1
    have hb' : (ChangeMaps.setBlock w1 r (.mapIter (some b) since (seen.push e.born) clock)).heap[b]? = some (.map es clock) := (hset.2 b (fun e1 => hne e1.symm)).trans hb1
    have hent := run_entry_at (P := P) _ r b since seen es clock e hset.1 hb' hem hst.2.1
    rw [e1, e2] at hrun hent
    refine .inr ⟨k, v, _, _, (hl k).2 ⟨e, hem, e1, hes⟩, e3, hrun, ⟨es, clock, since, seen.push e.born, clock, hb', hst, h1, hset.1, hold, hsk, hsk, rfl, hnd.filter _, ?_⟩, ?_, ?_, hent⟩
    · intro k'
      rw [List.mem_filter, hl k', decide_eq_true_iff]
      constructor
      · rintro ⟨⟨x, hx, hk, hs⟩, hkk⟩
        refine ⟨x, hx, hk, ?_⟩
        rw [contains_push, hs]
        have : x.born ≠ e.born := fun hbe => hkk (hinj _ _ (by rw [← hk, born_inj hst.2.1 hx hem hbe, e1]))
        simp [this]
      · rintro ⟨x, hx, hk, hs⟩
        rw [contains_push, Bool.or_eq_false_iff] at hs
        refine ⟨⟨x, hx, hk, hs.1⟩, ?_⟩
        rintro rfl
        have : x = e := entry_eq_of_key (List.Pairwise.of_map (fun x : MapEntry => x.key) (fun a b hab h => hab h) hst.2.2) hx hem (by rw [hk, e1])
        subst this
        simp at hs
    · have := left_shrinks es seen e he
      omega
    · rcases hal with rfl | rfl <;> exact ⟨rfl, rfl, rfl, by simp [ChangeMaps.setBlock], fun i _ hi => hset.2 i hi⟩
end

section
variable {P : Program} {w : World}
/-- 'range m'. -/
theorem wpList_rng {K V : Type} {eK : K → Value} {eV : V → Value} {kt : TypeId} {b n : Nat} {g : K → Option V} {ops : Array Oper} {rest : List Oper} {o : Oper} {a : Act} {Q : Exit → Act → World → Prop} (hg : o.guard = none) (m : Operand) (t et : TypeId)
    (hop : o.op = Op.range t m) (hm : a.eval m = .map (some b)) (h : MapAt P kt eK eV w b g n) (ht : P.underlying t = some (.map kt et)) (hinj : ∀ a b, eK a = eK b → a = b)
    (hK : ∀ w' ks, Rng eK eV w' w.heap.size b g ks ks.length → (∀ k, k ∈ ks ↔ (g k).isSome = true) → ks.length = n → Below w.heap.size w w' → w.heap.size < w'.heap.size → wpList P ops Q rest (a.put o.dst (.pointer (some ⟨w.heap.size, 0, none⟩))) w') :
    wpList P ops Q (o :: rest) a w := by
  refine wpList_plain hg fun K' hK' => ?_
  obtain ⟨w', ks, hrun, r1, r2, r3, r4, r5⟩ := h.range ht hinj
  unfold Oper.wp
  simp [execOp, hop, hm, hrun, Result.andThen]
  exact hK' _ _ (hK w' ks r1 r2 r3 r4 r5)

/-- The step. -/
theorem wpList_rnext {K V : Type} [DecidableEq K] {eK : K → Value} {eV : V → Value} {r b cnt : Nat} {g : K → Option V} {left : List K} {ops : Array Oper} {rest : List Oper} {o : Oper} {a : Act} {Q : Exit → Act → World → Prop} (hg : o.guard = none) (it : Operand)
    (hop : o.op = Op.next it false) (hit : a.eval it = .pointer (some ⟨r, 0, none⟩)) (h : Rng eK eV w r b g left cnt) (hinj : ∀ a b, eK a = eK b → a = b)
    (hDone : left = [] → wpList P ops Q rest (a.put o.dst (.tuple #[.bool false])) w)
    (hMore : ∀ k v w' cnt', k ∈ left → g k = some v → Rng eK eV w' r b g (left.filter (fun x => decide (x ≠ k))) cnt' → cnt' < cnt → Touch (fun x => x = r) w w' → (Instr.entry (.pointer (some ⟨r, 0, none⟩))).run P w' = .ok (.tuple #[eK k, eV v]) w' →
      wpList P ops Q rest (a.put o.dst (.tuple #[.bool true, eK k, eV v])) w') :
    wpList P ops Q (o :: rest) a w := by
  refine wpList_plain hg fun K' hK' => ?_
  unfold Oper.wp
  rcases h.next (P := P) hinj o.type with ⟨h0, hrun⟩ | ⟨k, v, w', cnt', hk, hgk, hrun, hrg, hlt, ht, hen⟩
  · simp [execOp, hop, hit, hrun, Result.andThen]
    exact hK' _ _ (hDone h0)
  · simp [execOp, hop, hit, hrun, Result.andThen]
    exact hK' _ _ (hMore k v w' cnt' hk hgk hrg hlt ht hen)
end
end Go.Proofs.YtnkcbogikaebfaaGreatDoor
end

section
/- The walks of Clone of package walk and of package tree: a tree of one's own. -/
namespace Go.Proofs.YtnkcbogikaebfaaGreatDoor
open Go Go.RowKit
set_option maxRecDepth 100000
set_option linter.unusedSimpArgs false
set_option linter.unusedVariables false
attribute [local go_sem] giv
variable {E : Nat → Addr} {B : Nat}
section
variable {w w' : World} {b t dm : Nat} {nm : Option Nat} {dirs : Dirs} {pn : Nat} {lab : Nat → Int} {nd : Int → Option Nd} {n : Nat} {last : Int} {de : Int → List En}
open Classical in
/-- A table, and a map without directories. -/
theorem LowAt.start (c0 : w.cell? ⟨b, 0, none⟩ = some (.pointer (some ⟨t, 0, none⟩))) (c1 : w.cell? ⟨b, 1, none⟩ = some (.map (some dm))) (hN : NodesAt w t nm nd n last) (hm : PMap w dm (fun _ => none) 0)
    (h1 : ∀ x, OwnN t nm x → x ≠ b ∧ x ≠ dm) (hbd : b ≠ dm) (hb : b < w.heap.size) (hd : dm < w.heap.size) :
    ∃ lab, LowAt w b t dm nm (fun _ => none) 0 lab nd n last (fun _ => []) ∧ ∀ x, lab x ≠ 0 → x = b ∨ x = dm ∨ OwnN t nm x := by
  have key : ∀ x, (if x = b then (-1 : Int) else if x = dm then -4 else if OwnN t nm x then -2 else 0) ≠ 0 → x = b ∨ x = dm ∨ OwnN t nm x := fun x hx => by
    split at hx
    · rename_i h; exact .inl h
    · split at hx
      · rename_i h; exact .inr (.inl h)
      · split at hx
        · rename_i h; exact .inr (.inr h)
        · exact absurd rfl hx
  refine ⟨fun x => if x = b then -1 else if x = dm then -4 else if OwnN t nm x then -2 else 0, ⟨c0, c1, hN, hm, fun k p hp => (by cases hp), fun _ _ => rfl, fun x hx => ?_, fun k p hp => (by cases hp), if_pos rfl, ?_, fun x hx => ?_⟩, key⟩
  · obtain ⟨h2, h3⟩ := h1 x hx
    show (if x = b then (-1 : Int) else if x = dm then -4 else if OwnN t nm x then -2 else 0) = -2
    rw [if_neg h2, if_neg h3, if_pos hx]
  · show (if dm = b then (-1 : Int) else if dm = dm then -4 else if OwnN t nm dm then -2 else 0) = -4
    rw [if_neg (fun e => hbd e.symm), if_pos rfl]
  · rcases key x hx with rfl | rfl | h
    · exact hb
    · exact hd
    · exact hN.own_lt x h
open Classical in
/-- A directory that is there already, in blocks of its own, is put into the map. -/
theorem LowAt.turnC (h : LowAt w b t dm nm dirs pn lab nd n last de) {k : Int} (hk : 1 ≤ k) (hno : dirs k = none) {x pn' : Nat} {m' : Option Nat} {l : List En} (hx : ∀ y, OwnD x m' y → w.heap.size ≤ y) (hd : DirAt w' x m' (entOf l) l.length) (hm : PMap w' dm (upd (blocks dirs) k x) pn') (t1 : Touch (fun y => y = dm) w w') :
    ∃ lab', LowAt w' b t dm nm (upd dirs k (x, m')) pn' lab' nd n last (fun i => if i = k then l else de i) ∧ ∀ y, lab' y ≠ 0 → lab y ≠ 0 ∨ w.heap.size ≤ y := by
  have hb : lab b ≠ 0 := by rw [h.labb]; decide
  have hdm : lab dm ≠ 0 := by rw [h.labm]; decide
  have nb : ¬ b = dm := fun hx => by have := h.labb; rw [hx, h.labm] at this; omega
  have hbl : blocks (upd dirs k (x, m')) = upd (blocks dirs) k x := by
    funext i
    unfold blocks upd
    split <;> rfl
  have old : ∀ y, y < w.heap.size → (if OwnD x m' y then k else lab y) = lab y := fun y hy => if_neg (fun hh => by have := hx y hh; omega)
  have hle := t1.size
  refine ⟨fun y => if OwnD x m' y then k else lab y, ⟨?_, ?_, ?_, by rw [hbl]; exact hm, ?_, ?_, ?_, ?_, ?_, ?_, ?_⟩, ?_⟩
  · exact (t1.cell (p := ⟨b, 0, none⟩) (h.lt b hb) nb).trans h.c0
  · exact (t1.cell (p := ⟨b, 1, none⟩) (h.lt b hb) nb).trans h.c1
  · exact h.nodes.touch t1 (fun y hy hn => by subst hn; have := h.labn _ hy; rw [h.labm] at this; omega)
  · intro i p hp
    unfold upd at hp
    by_cases hi : i = k
    · rw [if_pos hi] at hp
      injection hp with hp
      subst hp
      simp only [if_pos hi]
      exact hd
    · rw [if_neg hi] at hp
      obtain ⟨h4, h5⟩ := h.labd i p hp
      simp only [if_neg hi]
      exact (h.own i p hp).touch t1 (fun y hy hn => by subst hn; have := h5 _ hy; rw [h.labm] at this; omega)
  · intro i hi
    unfold upd at hi
    by_cases he : i = k
    · rw [if_pos he] at hi; cases hi
    · rw [if_neg he] at hi
      simp only [if_neg he]
      exact h.bare i hi
  · intro y hy
    exact (old y (h.lt y (by rw [h.labn y hy]; decide))).trans (h.labn y hy)
  · intro i p hp
    unfold upd at hp
    by_cases hi : i = k
    · rw [if_pos hi] at hp
      injection hp with hp
      subst hp
      rw [hi]
      exact ⟨hk, fun y hy => if_pos hy⟩
    · rw [if_neg hi] at hp
      obtain ⟨h4, h5⟩ := h.labd i p hp
      exact ⟨h4, fun y hy => (old y (h.lt y (by rw [h5 y hy]; omega))).trans (h5 y hy)⟩
  · exact (old b (h.lt b hb)).trans h.labb
  · exact (old dm (h.lt dm hdm)).trans h.labm
  · intro y hy
    try simp only at hy
    split at hy
    · rename_i hc; exact hd.own_lt y hc
    · exact Nat.lt_of_lt_of_le (h.lt y hy) hle
  · intro y hy
    try simp only at hy
    split at hy
    · rename_i hc; exact .inr (hx y hc)
    · exact .inl hy
end
theorem rng_nodup {K V : Type} [DecidableEq K] {eK : K → Value} {eV : V → Value} {w : World} {r b cnt : Nat} {g : K → Option V} {left : List K} (h : Rng eK eV w r b g left cnt) : left.Nodup := by
  obtain ⟨es, clock, since, seen, c0, h1, h2, h3, h4, h5, h6, h7, h8, h9, h10⟩ := h
  exact h9
theorem rng_step {K : Type} [DecidableEq K] {left ss ks : List K} (hp : (ss ++ left).Perm ks) (hn : ks.Nodup) {k : K} (hk : k ∈ left) : ((ss ++ [k]) ++ left.filter (fun x => decide (x ≠ k))).Perm ks := by
  have h1 : left.Nodup := (List.nodup_append.1 (hp.nodup_iff.2 hn)).2.1
  have h2 : left.filter (fun x => decide (x ≠ k)) = left.erase k := by
    rw [h1.erase_eq_filter]
    refine List.filter_congr fun x _ => ?_
    simp [bne]
    rfl
  rw [h2, List.append_assoc]
  exact ((List.perm_cons_erase hk).symm.append_left ss).trans hp
/-- Seen from far: a tree in the blocks from W0 to W1, behind steps that have not turned these. -/
theorem WL.far {L S : Nat → Prop} {w1 w2 : World} {b t dm W0 : Nat} {nd : Int → Option Nd} {n : Nat} {last : Int} {de : Int → List En} {Q : Dirs → Prop} (h : WL W0 L w1 b t dm nd n last de Q) (hB : B ≤ W0) (ht : Touch S w1 w2) (hS : ∀ x, W0 ≤ x → x < w1.heap.size → ¬ S x) :
    WL B (fun x => L x ∨ (x < w2.heap.size ∧ ¬ (W0 ≤ x ∧ x < w1.heap.size))) w2 b t dm nd n last de Q := by
  obtain ⟨h1, h2, nm, dirs, pn, lab, h3, h4, h5⟩ := h
  refine ⟨Nat.le_trans hB (Nat.le_trans h1 ht.size), fun x hx => ?_, nm, dirs, pn, lab, h3.touch ht (fun x hx => hS x (h4 x hx).1 (h3.lt x hx)), fun x hx => ⟨Nat.le_trans hB (h4 x hx).1, ?_⟩, h5⟩
  · rcases hx with hx | hx
    · exact Nat.lt_of_lt_of_le (h2 x hx) ht.size
    · exact hx.1
  · rintro (hl | hl)
    · exact (h4 x hx).2 hl
    · exact hl.2 ⟨(h4 x hx).1, h3.lt x hx⟩
section
variable {L : Nat → Prop} {w : World} {a b t dm : Nat} {st : St}
theorem blocks_some {dirs : Dirs} {k : Int} {x : Nat} (h : blocks dirs k = some x) : ∃ m, dirs k = some (x, m) := by
  unfold blocks at h
  cases hk : dirs k with
  | none => rw [hk] at h; cases h
  | some p => rw [hk] at h; injection h with h; exact ⟨p.2, by rw [← h]⟩
set_option maxHeartbeats 4000000 in
theorem wclone_any (h : WB B L w b t dm st) (f : Full st) :
    Calls Tryz.prog 69 #[.pointer (some ⟨b, 0, none⟩)] w fun e w' => (∃ b' t' dm', e = .returned (.pointer (some ⟨b', 0, none⟩)) ∧ WB w.heap.size (fun _ => False) w' b' t' dm' st) ∧ Below w.heap.size w w' := by
  have hkeys : ∀ k, st.isDir k = true → 1 ≤ k ∧ k ≤ 16777215 := fun k hk => by
    unfold St.isDir at hk
    split at hk
    · rename_i r hr
      have := valid_ids (f.val r (findN_mem hr))
      rwa [findN_id hr] at this
    · cases hk
  have HKEY := Lib.hid hkeys
  obtain ⟨h1, h2, nm, dirs, pn, lab, h3, h4, h5⟩ := h
  have H := Lib.hid h3
  have HQ := Lib.hid h5
  have c0 := h3.c0
  have bl := h3.lt b (by rw [h3.labb]; decide)
  have hmm := @run_makeMap Tryz.prog
  generalize hP : (fun (e : Ending) (w' : World) => (∃ b' t' dm', e = .returned (.pointer (some ⟨b', 0, none⟩)) ∧ WB w.heap.size (fun _ => False) w' b' t' dm' st) ∧ Below w.heap.size w w') = Post
  have HP := Lib.hid hP
  clear hP h1 h2 h3 h4 h5 hkeys
  go_enter Tryz.func69, Tryz.ntmps69
  go_wp2_with fail
  refine (nclone_any H.out.nodes).mono ?_
  rintro e w1 ⟨⟨t', nm', rfl, hN, hown⟩, hb1⟩
  have HN := Lib.hid (And.intro hN (And.intro hown hb1))
  clear hN hown hb1 c0 bl
  go_upto_region 2 with fail
  obtain ⟨D, hD⟩ : ∃ D, w1.heap.size = D := ⟨_, rfl⟩
  obtain ⟨X, hX⟩ : ∃ X, X = D + 1 := ⟨_, rfl⟩
  have s1 : (w1.alloc (.map #[] 0)).heap.size = D + 1 := by simp [hD]
  obtain ⟨w2, hw2⟩ : ∃ w2, w2 = (w1.alloc (.map #[] 0)).alloc (.cells #[.pointer (some ⟨t', 0, none⟩), .map (some D)] 36) := ⟨_, rfl⟩
  have rX : Row w2 X 36 [.pointer (some ⟨t', 0, none⟩), .map (some D)] := by
    have := Row.new (w1.alloc (.map #[] 0)) 36 [.pointer (some ⟨t', 0, none⟩), .map (some D)]
    rw [s1, ← hX] at this
    rw [hw2]; exact this
  have hb2 : Below w1.heap.size w1 w2 := by rw [hw2]; exact bl_alloc (bl_alloc (Below.refl _ _) _) _
  have hpm : PMap w2 D (fun _ => none) 0 := by rw [hw2]; exact (mapAt_new' _ _ _ _ w1 hD.symm).alloc _
  have hz2 : w2.heap.size = D + 2 := by rw [hw2]; simp [hD]
  obtain ⟨lab0, hlow, hlab⟩ := LowAt.start (rX.cell 0) (rX.cell 1) (HN.out.1.below hb2) hpm (fun x hx => by have := HN.out.1.own_lt x hx; omega) (by omega) (by omega) (by omega)
  rw [hD, ← hX, ← hw2]
  have HB2 := Lib.hid (HN.out.2.2.trans (hb2.mono HN.out.2.2.size))
  have HSRC := Lib.hid (H.out.touch (Touch.of_below HB2.out NoB) (fun _ _ h => h))
  have HLOW := Lib.hid hlow
  have HLAB : Hid (∀ x, lab0 x ≠ 0 → w.heap.size ≤ x) := Lib.hid (fun x hx => by
    have h9 := HN.out.2.2.size
    rcases hlab x hx with h | h | h
    · omega
    · omega
    · exact HN.out.2.1 x h)
  have HLT := Lib.hid (show ∀ x, lab0 x ≠ 0 → x < w2.heap.size from hlow.lt)
  have c1 := HSRC.out.c1
  have bl := HSRC.out.lt b (by rw [HSRC.out.labb]; decide)
  have HXZ := Lib.hid (And.intro hX hz2)
  clear hw2 s1 rX hb2 hpm hz2 hlow hlab hD hX
  go_wp2_with (at_range; refine wpList_rng rfl _ _ _ rfl rfl HSRC.out.map Tryz.underlying34 inj64 ?_; intro w3 ks hr hk hkn hb hz)
  have HK : Hid (ks.Nodup ∧ ∀ k, k ∈ ks ↔ (blocks dirs k).isSome = true) := Lib.hid ⟨rng_nodup hr, hk⟩
  have HR := Lib.hid hr
  have HB3 := Lib.hid hb
  have HZ3 := Lib.hid hz
  obtain ⟨rr, hrr⟩ : ∃ rr, rr = w2.heap.size := ⟨_, rfl⟩
  rw [← hrr]
  rw [← hrr] at HR
  have HRR := Lib.hid hrr
  clear hr hk hkn hb hz hrr c1 bl
  go_frame
  go_loopw [4, 5] (fun _ _ wr => ∃ (left : List Int) (cnt : Nat) (ss : List Int) (dirs' : Dirs) (pn' : Nat) (lab' : Nat → Int), Rng (Value.int .i64) encP wr rr dm (blocks dirs) left cnt ∧ (ss ++ left).Perm ks ∧
    LowAt wr X t' D nm' dirs' pn' lab' st.nd st.ns.length st.last (fun i => if i ∈ ss then st.ents i else []) ∧ (∀ k, dirs' k ≠ none → k ∈ ss) ∧ (∀ x, lab' x ≠ 0 → w.heap.size ≤ x ∧ x ≠ rr) ∧ Below w.heap.size w wr) (fun _ _ wr => wr.rangeLeft dm rr)
  case atStart =>
    refine ⟨ks, _, [], fun _ => none, 0, lab0, HR.out, List.Perm.refl _, ?_, fun k hk => absurd rfl hk, fun x hx => ⟨HLAB.out x hx, fun e => ?_⟩, HB2.out.trans (HB3.out.mono HB2.out.size)⟩
    · have := HLOW.out.touch (Touch.of_below HB3.out NoB) (fun _ _ h => h)
      simpa using this
    · have := HLT.out x hx
      have := HRR.out
      omega
  case round =>
    obtain ⟨left, cnt, ss, dirs', pn', lab', hr, hp, hl, hd, hlb, hb⟩ := hrel
    have HRG := Lib.hid hr
    have HPM := Lib.hid hp
    have HL := Lib.hid hl
    have HD := Lib.hid hd
    have HLB := Lib.hid hlb
    have HBr := Lib.hid hb
    clear hr hp hl hd hlb hb HR HLOW HLAB HLT
    go_wp2_with (at_next; refine wpList_rnext rfl _ rfl rfl HRG.out inj64 ?_ ?_)
    · intro hl0
      have HL0 := Lib.hid hl0
      clear hl0
      go_wp2
      rw [← HP.out]
      have hp := HPM.out
      rw [HL0.out, List.append_nil] at hp
      have hmem : ∀ i, i ∈ ss ↔ (blocks dirs i).isSome = true := fun i => hp.mem_iff.trans (HK.out.2 i)
      have hde : (fun i => if i ∈ ss then st.ents i else []) = st.ents := by
        funext i
        by_cases hi : i ∈ ss
        · rw [if_pos hi]
        · rw [if_neg hi]
          have hn : dirs i = none := by
            cases hk : dirs i with
            | none => rfl
            | some p => exact absurd ((hmem i).2 (by unfold blocks; rw [hk]; rfl)) hi
          exact (H.out.bare i hn).symm
      have hlow := HL.out
      rw [hde] at hlow
      refine ⟨⟨X, t', D, rfl, HBr.out.size, fun x hx => hx.elim, nm', dirs', pn', lab', hlow, fun x hx => ⟨(HLB.out x hx).1, fun h => h⟩, fun k hk => ?_⟩, HBr.out⟩
      have h1 := (hmem k).1 (HD.out k hk)
      refine HQ.out k (fun h => ?_)
      unfold blocks at h1
      rw [h] at h1
      cases h1
    · rintro k x w4 cnt' hk m hg hr2 hlt2 ht hen
      have HG := Lib.hid hg
      have hkk := HKEY.out k (HQ.out k (by rw [hg]; simp))
      have HRR0 : Hid (w.heap.size ≤ rr) := Lib.hid (by rw [HRR.out]; exact HB2.out.size)
      have HB4 := Lib.hid (HBr.out.trans (ht.below HBr.out.size (fun y hy => by subst hy; exact HRR0.out)))
      have HL4 := Lib.hid (HL.out.touch ht (fun y hy e => (HLB.out y hy).2 e))
      have HDK := Lib.hid ((H.out.own k _ hg).touch (Touch.of_below HB4.out NoB) (fun _ _ h => h))
      have HR2 := Lib.hid hr2
      have HLT := Lib.hid hlt2
      have hnd := HPM.out.nodup_iff.2 HK.out.1
      have hnss : k ∉ ss := fun h => (List.nodup_append.1 hnd).2.2 k h k hk rfl
      have HNO : Hid (dirs' k = none) := Lib.hid (Classical.byContradiction fun h => hnss (HD.out k h))
      have HPM2 := Lib.hid (rng_step HPM.out HK.out.1 hk)
      have hlD : lab' D ≠ 0 := by rw [HL.out.labm]; decide
      have hlX : lab' X ≠ 0 := by rw [HL.out.labb]; decide
      have hX1 := HL4.out.c1
      have hXl := HL4.out.lt X hlX
      have HDL : Hid (w.heap.size ≤ D ∧ D ≠ rr ∧ D < w4.heap.size) := Lib.hid ⟨(HLB.out D hlD).1, (HLB.out D hlD).2, HL4.out.lt D hlD⟩
      have S : ∀ w', Below w4.heap.size w4 w' → w'.cell? ⟨X, 1, none⟩ = some (.map (some D)) := fun w' hb => (hb.cell (p := ⟨X, 1, none⟩) hXl).trans hX1
      clear hr2 hg hk hlt2 ht hnd hnss hlD hlX hX1
      unfold encP at hen
      go_wp2_with fail
      apply wp_region_tail 7 _ (by kernel_rfl) (by kernel_rfl) (by kernel_rfl) (by decide) (fun w' => Below w4.heap.size w4 w') (fun w' w'' => Below w'.heap.size w' w'') (fun w' w'' h1 h2 => bl_trans h1 h2) (Below.refl _ _).drew
      simp only [List.take_succ_cons, List.take_zero, List.drop_succ_cons, List.drop_zero]
      repeat (first
        | (apply wpRel_skip (by rfl)
           simp only [Act.put, List.setIfInBounds_toArray, List.set_cons_zero, List.set_cons_succ])
        | (apply wpRel_fix (by rfl)
           · intro w' hC hf R hR
             have hS := S w' hC
             go_simp
             exact hR _ (Below.refl _ _)
           simp only [Act.put, List.setIfInBounds_toArray, List.set_cons_zero, List.set_cons_succ]))
      apply wpRel_rel (fun v w' => ∃ b2 m2, v = .pointer (some ⟨b2, 0, none⟩) ∧ DirAt w' b2 m2 (entOf (st.ents k)) (st.ents k).length ∧ ∀ y, OwnD b2 m2 y → w4.heap.size ≤ y) (by rfl) (fun v w1 w2 ⟨b2, m2, h1, h2, h3⟩ hE => ⟨b2, m2, h1, h2.touch (Touch.of_below hE NoB) (fun _ _ h => h), h3⟩)
      · intro w' hC hf R hR
        go_simp
        refine (dclone_any (HDK.out.touch (Touch.of_below hC NoB) (fun _ _ h => h))).mono ?_
        rintro e w'' ⟨⟨b2, m2, rfl, h1, h2⟩, hb⟩
        exact ⟨_, rfl, hR _ _ ⟨b2, m2, rfl, h1, fun y hy => Nat.le_trans hC.size (h2 y hy)⟩ hb⟩
      intro v
      simp only [Act.put, List.setIfInBounds_toArray, List.set_cons_zero, List.set_cons_succ]
      refine wpRel_nil (fun w6 hC hf => ?_)
      obtain ⟨b2, m2, rfl, hd2, ho2⟩ := hf _ (List.mem_cons_self ..)
      have hl6 := HL4.out.touch (Touch.of_below hC NoB) (fun _ _ h => h)
      clear S hf
      apply wpList_upd rfl _ _ _ _ rfl
      · exact hl6.map.put kdInt Tryz.underlying34 inj64 (keyI (a := k) ⟨by omega, by omega⟩) b2
      rintro w7 ⟨hm7, ht7⟩
      simp only [Act.put]
      have ht7' := Touch.of_turned ht7
      have hT : Touch (fun y => y = D) w4 w7 := (Touch.of_below hC _).trans ht7' (fun x hx _ => hx)
      obtain ⟨lab2, hlow2, hlab2⟩ := HL4.out.turnC hkk.1 HNO.out ho2 (hd2.touch ht7' (fun y hy e => by have := ho2 y hy; have := HDL.out.2.2; omega)) hm7 hT
      have hde : (fun i => if i = k then st.ents k else (fun i => if i ∈ ss then st.ents i else []) i) = fun i => if i ∈ ss ++ [k] then st.ents i else [] := by
        funext i
        by_cases hi : i = k
        · rw [if_pos hi, if_pos (by simp [hi]), hi]
        · rw [if_neg hi]
          by_cases hs : i ∈ ss
          · rw [if_pos (by simp [hs])]
            exact if_pos hs
          · rw [if_neg (by simp [hs, hi])]
            exact if_neg hs
      rw [hde] at hlow2
      have hdm : dm < w.heap.size := H.out.lt dm (by rw [H.out.labm]; decide)
      have hrlt := HR2.out.lt
      have HR7 := Lib.hid (HR2.out.keep (hT.block rr hrlt.1 (fun e => HDL.out.2.1 e.symm)) (hT.block dm hrlt.2 (fun e => by have := HDL.out.1; omega)))
      have HLOW2 := Lib.hid hlow2
      have HLAB2 := Lib.hid hlab2
      have HB7 := Lib.hid (HB4.out.trans (hT.below HB4.out.size (fun y hy => by rw [hy]; exact HDL.out.1)))
      have HRL := Lib.hid hrlt.1
      clear hm7 ht7 ht7' hT hC hl6 hd2 ho2 hlow2 hlab2 hde hdm hrlt
      go_wp2
      go_roundw
      case rel =>
        refine ⟨_, _, ss ++ [k], upd dirs' k (b2, m2), _, lab2, HR7.out, (by have := HPM2.out; simpa using this), HLOW2.out, fun i hi => ?_, fun y hy => ?_, HB7.out⟩
        · unfold upd at hi
          by_cases he : i = k
          · simp [he]
          · rw [if_neg he] at hi
            simp [HD.out i hi]
        · rcases HLAB2.out y hy with h | h
          · exact HLB.out y h
          · have := HB4.out.size
            have := HRL.out
            exact ⟨by omega, by omega⟩
      case measure =>
        rw [HR7.out.left_eq, HRG.out.left_eq]
        exact HLT.out
end
end Go.Proofs.YtnkcbogikaebfaaGreatDoor
end

section
/- The document's Look, List. -/
namespace Go.Proofs.YtnkcbogikaebfaaGreatDoor
open Go Go.RowKit
set_option maxRecDepth 100000
set_option linter.unusedSimpArgs false
set_option linter.unusedVariables false
attribute [local go_sem] giv
variable {E : Nat → Addr} {B : Nat}
section
variable {T : Nat → Prop} {w : World} {m : Nat} {st : St} {v : Value} {ms : List MN}
theorem toP_bad {st : St} {p : Pth} {fo : Bool} (h : (toP st p fo).1 ≠ 0) : (toP st p fo).2 = 0 := by
  have hp : ∀ (next : ByteArray → Int → List ByteArray → Int × Int), (∀ t a ps, (next t a ps).1 ≠ 0 → (next t a ps).2 = 0) → ∀ (sl : Bool) (ps : List ByteArray) (a : Int), (goParts st fo sl next ps a).1 ≠ 0 → (goParts st fo sl next ps a).2 = 0 := by
    intro next hn sl ps
    induction ps with
    | nil =>
      intro a ha
      unfold goParts at ha ⊢
      split
      · rfl
      · rename_i hc; rw [if_neg hc] at ha; exact absurd rfl ha
    | cons p ps ih =>
      intro a ha
      unfold goParts at ha ⊢
      split
      · rfl
      · rename_i d hd
        rw [hd] at ha
        simp only at ha
        split
        · rfl
        · rename_i hk
          rw [if_neg hk] at ha
          split
          · rename_i hu
            rw [if_pos hu] at ha
            exact ih _ ha
          · rename_i hu
            rw [if_neg hu] at ha
            split
            · rfl
            · rename_i e he
              rw [he] at ha
              simp only at ha
              split
              · rfl
              · rename_i x hx
                rw [hx] at ha
                simp only at ha
                split
                · rename_i hc
                  rw [if_pos hc] at ha
                  exact ih _ ha
                · rename_i hc
                  rw [if_neg hc] at ha
                  exact hn _ _ _ ha
  have hg : ∀ (h : Nat) (sl : Bool) (ps : List ByteArray) (a : Int), (goH st fo sl h ps a).1 ≠ 0 → (goH st fo sl h ps a).2 = 0 := by
    intro h
    induction h with
    | zero =>
      intro sl ps a
      unfold goH
      exact hp _ (fun _ _ _ _ => rfl) sl ps a
    | succ h ih =>
      intro sl ps a
      unfold goH
      refine hp _ (fun t a ps hq => ?_) sl ps a
      simp only at hq ⊢
      split
      · rfl
      · rename_i hc
        rw [if_neg hc] at hq
        exact ih _ _ _ hq
  exact hg _ _ _ _ h
/-- What M.Look answers: the error, the number. -/
def mlookT (st : St) (s : ByteArray) (fo : Bool) : Int × Int := if (parseP s).1 ≠ 0 then ((parseP s).1, 0) else toP st (parseP s).2 fo
theorem mlook_look (f : Full st) (s : ByteArray) (fo : Bool) : mlookT st s fo = ((lookT st s fo).1, (lookT st s fo).2.id) := by
  unfold mlookT lookT
  simp only
  split
  · rfl
  · split
    · rename_i hc
      exact Prod.ext rfl (toP_bad hc)
    · rename_i hc
      have hq : toP st (parseP s).2 fo = (0, (toP st (parseP s).2 fo).2) := Prod.ext (by simpa using hc) rfl
      obtain ⟨y, hy⟩ := toP_some f hq
      rw [hy]
      refine Prod.ext (by simpa using hc) ?_
      exact (findN_id hy).symm
set_option maxHeartbeats 4000000 in
theorem mlook_any (h : MW B T w m st) (f : Full st) (s : ByteArray) (fo : Bool) : Calls Tryz.prog 26 #[.pointer (some ⟨m, 0, none⟩), .string s, .bool fo] w fun e w' =>
    e = .returned (.tuple #[.int .i64 (mlookT st s fo).2, .int .i64 (mlookT st s fo).1]) ∧ Below w.heap.size w w' := by
  obtain ⟨v, ms, hD⟩ := h
  have HF := Lib.hid f
  have HD := Lib.hid hD
  obtain ⟨R, hR⟩ : ∃ R, mlookT st s fo = R := ⟨_, rfl⟩
  rw [hR]
  unfold mlookT at hR
  have HR := Lib.hid hR
  generalize hP : (fun (e : Ending) (w' : World) => e = .returned (.tuple #[.int .i64 R.2, .int .i64 R.1]) ∧ Below w.heap.size w w') = Post
  have HP := Lib.hid hP
  clear hP hD f hR
  go_enter Tryz.func26, Tryz.ntmps26
  go_wp2_with fail
  refine (dparse_any s w).mono ?_
  rintro e w2 ⟨⟨pv, rfl, hs2⟩, hb2⟩
  obtain ⟨sp2, cap2, rfl⟩ := slShape hs2
  have HS2 := Lib.hid hs2
  have HB2 := Lib.hid hb2
  obtain ⟨pc, hpc⟩ : ∃ pc, (parseP s).1 = pc := ⟨_, rfl⟩
  have hR1 := HR.out
  rw [hpc] at hR1 ⊢
  clear hs2 hb2 hpc
  by_cases hz : pc = 0
  case neg =>
    have hzb : (pc != 0) = true := by rw [bne_iff_ne]; exact hz
    rw [if_pos hz] at hR1
    have HRF := Lib.hid hR1.symm
    clear hR1 hz
    go_wp2
    rw [← HP.out, HRF.out]
    first
      | exact ⟨rfl, bl_alloc HB2.out _⟩
      | (go_ret2; exact ⟨rfl, bl_alloc HB2.out _⟩)
  subst hz
  rw [if_neg (by decide)] at hR1
  have HR1 := Lib.hid hR1
  have hba := bl_alloc (Below.refl w2.heap.size w2) (.cells #[.slice sp2 (parseP s).2.parts.length cap2, .bool (parseP s).2.slash] 116)
  have HRD := Lib.hid ((HS2.out.below hba).rd (fun _ => rfl))
  have HD2 := Lib.hid (HD.out.below (HB2.out.trans (hba.mono HB2.out.size)))
  have HBA := Lib.hid (HB2.out.trans (hba.mono HB2.out.size))
  clear hba hR1
  go_wp2_with fail
  refine (dto_any HD2.out HF.out HRD.out (Nat.le_trans (parse_len s) (by decide)) fo (parseP s).2.slash).mono ?_
  rintro e w4 ⟨⟨hops, rfl⟩, hb4⟩
  rw [show toP st ⟨(parseP s).2.parts, (parseP s).2.slash⟩ fo = R from HR1.out]
  have HB4 := Lib.hid (HBA.out.trans (hb4.mono HBA.out.size))
  clear hb4
  go_wp2
  rw [← HP.out]
  first
    | exact ⟨rfl, HB4.out⟩
    | (go_ret2; exact ⟨rfl, HB4.out⟩)
theorem mget_ents (h : MW B T w m st) (t : Tid st) {id : Int} {r : NR} (hr : st.get id = some r) :
    ∃ g o sp cap, w.cell? ⟨g, o + 1, none⟩ = some (.int .i64 r.nd.kind) ∧ w.cell? ⟨g, o + 6, none⟩ = some (.slice sp r.ents.length cap) ∧ RdEn w (.slice sp r.ents.length cap) r.ents ∧ g < w.heap.size ∧
      Calls Tryz.prog 47 #[.pointer (some ⟨m, 0, none⟩), .int .i64 id] w fun e w' => e = .returned (.tuple #[.pointer (some ⟨g, o, none⟩), .bool true]) ∧ w = w' := by
  obtain ⟨v, ms, hD⟩ := h
  obtain ⟨k, x, k1, k2, k3, k4, k5⟩ := hD.find hr
  obtain ⟨g, cap, hv, hg⟩ := hD.block (by rintro rfl; simp at k2)
  refine ⟨g, k * 199, x.sp, x.cap, ?_, ?_, ?_, hg, dget_some hD (by have := hD.small t; omega) id k1 k2 hv⟩
  · have := hD.cell hv (j := 1) k3 (by omega)
    rw [(encM_get x).2.1, k4] at this
    exact this
  · have := hD.cell hv (j := 6) k3 (by omega)
    rw [(encM_get x).2.2.2.2.2.2] at this
    unfold MN.ev at this
    rw [k4] at this
    exact this
  · have := (hD.ents x (List.mem_of_getElem? k3)).1
    unfold MN.ev at this
    rw [k4] at this
    exact this
theorem lookT_is {s : St} {x : ByteArray} {fo : Bool} {n : Nd} (h : lookT s x fo = (0, n)) : ∃ i r, toP s (parseP x).2 fo = (0, i) ∧ s.get i = some r ∧ r.nd = n := by
  unfold lookT at h
  simp only at h
  split at h
  · rename_i hc; injection h with h; exact absurd h hc
  · split at h
    · rename_i hc; injection h with h; exact absurd h hc
    · rename_i hc
      split at h
      · cases h
      · rename_i r hr
        injection h with _ h
        exact ⟨_, r, Prod.ext (by simpa using hc) rfl, hr, h⟩
/-- What List answers: the error, the entries. -/
def listT (st : St) (s : ByteArray) : Int × List En := if (lookT st s true).1 ≠ 0 then ((lookT st s true).1, []) else if (lookT st s true).2.kind ≠ 2 then (111, []) else (0, st.ents (lookT st s true).2.id)
set_option maxHeartbeats 4000000 in
theorem mlist_any (h : MW B T w m st) (f : Full st) (s : ByteArray) : Calls Tryz.prog 28 #[.pointer (some ⟨m, 0, none⟩), .string s] w fun e w' =>
    (∃ v, e = .returned (.tuple #[v, .int .i64 (listT st s).1]) ∧ SlEn w' w.heap.size v (listT st s).2) ∧ Below w.heap.size w w' := by
  have HF := Lib.hid f
  have H := Lib.hid h
  obtain ⟨R, hR⟩ : ∃ R, listT st s = R := ⟨_, rfl⟩
  rw [hR]
  unfold listT at hR
  have HML := Lib.hid (mlook_look f s true)
  obtain ⟨lc, hlc⟩ : ∃ lc, (lookT st s true).1 = lc := ⟨_, rfl⟩
  obtain ⟨n, hn⟩ : ∃ n, (lookT st s true).2 = n := ⟨_, rfl⟩
  have hok : lc = 0 → ∃ r, st.get n.id = some r ∧ r.nd = n := fun h0 => by
    have hl : lookT st s true = (0, n) := Prod.ext (by rw [hlc, h0]) hn
    obtain ⟨i, r, _, h2, h3⟩ := lookT_is hl
    have := findN_id h2
    refine ⟨r, ?_, h3⟩
    rw [← h3, this]
    exact h2
  rw [hlc, hn] at hR HML
  have HR := Lib.hid hR
  have HOK := Lib.hid hok
  generalize hP : (fun (e : Ending) (w' : World) => (∃ v, e = .returned (.tuple #[v, .int .i64 R.1]) ∧ SlEn w' w.heap.size v R.2) ∧ Below w.heap.size w w') = Post
  have HP := Lib.hid hP
  clear hP h f hR hlc hn hok
  go_enter Tryz.func28, Tryz.ntmps28
  go_wp2_with fail
  refine (mlook_any H.out HF.out s true).mono ?_
  rw [HML.out]
  rintro e w2 ⟨rfl, hb2⟩
  have H2 := Lib.hid (H.out.below hb2)
  have HB2 := Lib.hid hb2
  have hR1 := HR.out
  clear hb2 HML
  by_cases hz : lc = 0
  case neg =>
    have hzb : (lc != 0) = true := by rw [bne_iff_ne]; exact hz
    rw [if_pos hz] at hR1
    have HRF := Lib.hid hR1.symm
    clear hR1 hz
    go_wp2
    rw [← HP.out, HRF.out]
    first
      | exact ⟨⟨_, rfl, SlE.nil _ _ _ _ _⟩, HB2.out⟩
      | (go_ret2; exact ⟨⟨_, rfl, SlE.nil _ _ _ _ _⟩, HB2.out⟩)
  subst hz
  rw [if_neg (by decide)] at hR1
  obtain ⟨r, hr, hrn⟩ := HOK.out rfl
  have hents : st.ents n.id = r.ents := by unfold St.ents; rw [hr]; rfl
  rw [hents] at hR1
  obtain ⟨g, o, sp, cap, e1, e6, hrd, hg, hget⟩ := mget_ents H2.out HF.out.tidy.toTid hr
  have hfew := HF.out.tidy.few r (findN_mem hr)
  rw [hrn] at e1
  obtain ⟨kd, hkd⟩ : ∃ kd, n.kind = kd := ⟨_, rfl⟩
  obtain ⟨es, hes⟩ : ∃ es, r.ents = es := ⟨_, rfl⟩
  rw [hkd] at hR1 e1
  rw [hes] at hR1 e6 hrd hfew
  have HRD := Lib.hid hrd
  have HGET := Lib.hid hget
  have HFEW := Lib.hid hfew
  clear hr hrn hents hkd hes hrd hget hfew
  by_cases hk : kd = 2
  case neg =>
    have hkb : (kd != 2) = true := by rw [bne_iff_ne]; exact hk
    rw [if_pos hk] at hR1
    have HRF := Lib.hid hR1.symm
    clear hR1 hk
    go_wp2_with fail
    refine HGET.out.mono ?_
    rintro e w3 ⟨rfl, rfl⟩
    go_wp2
    rw [← HP.out, HRF.out]
    first
      | exact ⟨⟨_, rfl, SlE.nil _ _ _ _ _⟩, HB2.out⟩
      | (go_ret2; exact ⟨⟨_, rfl, SlE.nil _ _ _ _ _⟩, HB2.out⟩)
  subst hk
  rw [if_neg (by decide)] at hR1
  have HRF := Lib.hid hR1.symm
  clear hR1
  go_wp2_with fail
  refine HGET.out.mono ?_
  rintro e w3 ⟨rfl, rfl⟩
  go_wp2_with fail
  refine (entrys_big HRD.out (Nat.le_trans HFEW.out (by decide))).mono ?_
  rintro e w4 ⟨⟨u, rfl, hu⟩, hb4⟩
  obtain ⟨su, cu, rfl⟩ := SlE.shape' hu
  have HU := Lib.hid (hu.mono HB2.out.size)
  have HB4 := Lib.hid (HB2.out.trans (hb4.mono HB2.out.size))
  clear hu hb4
  go_wp2
  rw [← HP.out, HRF.out]
  first
    | exact ⟨⟨_, rfl, HU.out⟩, HB4.out⟩
    | (go_ret2; exact ⟨⟨_, rfl, HU.out⟩, HB4.out⟩)
end
end Go.Proofs.YtnkcbogikaebfaaGreatDoor
end

section
/- The walks of package tree: Of, List, Clone. -/
namespace Go.Proofs.YtnkcbogikaebfaaGreatDoor
open Go Go.RowKit
set_option maxRecDepth 100000
set_option linter.unusedSimpArgs false
set_option linter.unusedVariables false
attribute [local go_sem] giv
variable {E : Nat → Addr} {B : Nat}
theorem look_code (st : St) (x : ByteArray) (fo : Bool) : CodeOk (lookT st x fo).1 := by
  unfold lookT
  simp only
  split
  · exact parseP_code _
  · split
    · exact toP_code _ _ _
    · split
      · exact .inr (by simp)
      · exact .inl rfl
theorem err_split {c : Int} (h : CodeOk c) : (c = 0 ∧ errOf E c = .nilIface) ∨ (c ≠ 0 ∧ ∃ p, errOf E c = .iface 246 (.pointer (some p))) := by
  rcases h with rfl | h
  · exact .inl ⟨rfl, rfl⟩
  · exact .inr ⟨by omega, errOf_some h⟩
section
variable {L : Nat → Prop} {a b t dm : Nat} {w0 w : World} {st : St}
theorem tclone_any (h : TS E B L a b t dm w0 st w) : Calls Tryz.prog 23 #[.pointer (some ⟨a, 0, none⟩)] w fun e w' =>
    (∃ a' b' t' dm', e = .returned (.pointer (some ⟨a', 0, none⟩)) ∧ w.heap.size ≤ a' ∧ TA w' a' b' ∧ WB w.heap.size (fun x => x = a') w' b' t' dm' st) ∧ Below w.heap.size w w' := by
  have H := Lib.hid h
  obtain ⟨a0, al⟩ := h.ta
  generalize hP : (fun (e : Ending) (w' : World) => (∃ a' b' t' dm', e = .returned (.pointer (some ⟨a', 0, none⟩)) ∧ w.heap.size ≤ a' ∧ TA w' a' b' ∧ WB w.heap.size (fun x => x = a') w' b' t' dm' st) ∧ Below w.heap.size w w') = Post
  have HP := Lib.hid hP
  clear h hP
  go_enter Tryz.func23, Tryz.ntmps23
  go_wp2_with fail
  refine (wclone_any H.out.wb H.out.full).mono ?_
  rintro e w1 ⟨⟨b', t', dm', rfl, hw⟩, hb1⟩
  have HW := Lib.hid hw
  have HB := Lib.hid hb1
  clear hw hb1 a0 al
  go_wp2
  rw [← HP.out]
  refine ⟨⟨w1.heap.size, b', t', dm', rfl, HB.out.size, ⟨by simp, by simp⟩, HW.out.loc' (bl_alloc (Below.refl _ _) _) (fun x hx => ?_)⟩, bl_alloc HB.out _⟩
  right
  subst hx
  simp
/-- The directory of a path: none. -/
theorem tof_bad (h : TS E B L a b t dm w0 st w) (s : ByteArray) (hc : (listT st s).1 ≠ 0) : Calls Tryz.prog 74 #[.pointer (some ⟨a, 0, none⟩), .string s] w fun e w' =>
    e = .returned (.tuple #[.pointer none, errOf E (listT st s).1]) ∧ TS E B L a b t dm w0 st w' ∧ KeptP B L w w' := by
  obtain ⟨R, hR⟩ : ∃ R, listT st s = R := ⟨_, rfl⟩
  rw [hR] at hc ⊢
  unfold listT at hR
  obtain ⟨⟨lc, n⟩, hl⟩ : ∃ r, lookT st s true = r := ⟨_, rfl⟩
  rw [hl] at hR
  simp only at hR
  have hlc := look_code st s true
  rw [hl] at hlc
  simp only at hlc
  have hok : lc = 0 → ∃ r, st.get n.id = some r ∧ r.nd = n := fun h0 => by
    obtain ⟨i, r, _, h2, h3⟩ := lookT_is (show lookT st s true = (0, n) by rw [hl, h0])
    have := findN_id h2
    refine ⟨r, ?_, h3⟩
    rw [← h3, this]
    exact h2
  have VL := Lib.hid (err_split (E := E) hlc)
  have HOK := Lib.hid hok
  have HR := Lib.hid hR
  have HC := Lib.hid hc
  have H := Lib.hid h
  have K1 := Lib.hid (ts_look h s true (c := lc) (n := n) (v := errOf E lc) (by rw [hl]) (by rw [hl]) rfl)
  generalize hP : (fun (e : Ending) (w' : World) => e = .returned (.tuple #[.pointer none, errOf E R.1]) ∧ TS E B L a b t dm w0 st w' ∧ KeptP B L w w') = Post
  have HP := Lib.hid hP
  clear h hP hl hR hlc hok hc
  obtain ⟨n1, n2, n3, n4, n5, n6⟩ := n
  unfold encN at K1
  simp only at K1
  go_enter Tryz.func74, Tryz.ntmps74
  go_wp2_with fail
  refine K1.out.mono ?_
  rintro e w1 ⟨rfl, ht, hk⟩
  have H1 := Lib.hid ht
  have HK1 := Lib.hid hk
  obtain ⟨w2, hw2⟩ : ∃ w2, w2 = w1.alloc (.cells #[.int .i64 n1, .int .i64 n2, .int .i64 n3, .int .i64 n4, .string n5, .int .i64 n6] 39) := ⟨_, rfl⟩
  have HW2 := Lib.hid hw2
  have bb : Below w1.heap.size w1 w2 := by rw [hw2]; exact bl_alloc (Below.refl w1.heap.size w1) _
  have HN := Lib.hid (show Row w2 w1.heap.size 39 [.int .i64 n1, .int .i64 n2, .int .i64 n3, .int .i64 n4, .string n5, .int .i64 n6] by rw [hw2]; exact Row.new _ _ _)
  have H2 := Lib.hid (ht.below bb)
  have HK2 := Lib.hid (hk.trans (ht.wb.kept bb))
  have hR1 := HR.out
  clear ht hk K1 bb hw2
  rcases VL.out with ⟨rfl, el⟩ | ⟨hlc, p, el⟩
  case inr =>
    rw [if_pos hlc] at hR1
    have HRF := Lib.hid hR1.symm
    have HEL := Lib.hid el
    rw [el]
    clear el hR1 hlc
    go_wp2
    rw [← HP.out, HRF.out]
    try rw [← HW2.out]
    simp only
    rw [HEL.out]
    first
      | exact ⟨rfl, H2.out, HK2.out⟩
      | (go_ret2; exact ⟨rfl, H2.out, HK2.out⟩)
  rw [el]
  rw [if_neg (by decide)] at hR1
  have hk2 : n2 ≠ 2 := fun e => by rw [if_neg (by rw [e]; decide)] at hR1; exact HC.out (by rw [← hR1])
  rw [if_pos hk2] at hR1
  have HRF := Lib.hid hR1.symm
  obtain ⟨r, hr, hrn⟩ := HOK.out rfl
  have hval := valid_ids (H2.out.full.val r (findN_mem hr))
  rw [hrn] at hval
  simp only at hval hr
  have HD : Hid (st.isDir n1 = false) := Lib.hid (by unfold St.isDir; rw [hr]; simp [hrn, hk2])
  clear hr hrn hk2 hR1 el VL HOK
  go_wp2_with fail
  rw [← HW2.out]
  obtain ⟨C, hC⟩ : ∃ C, w1.heap.size = C := ⟨_, rfl⟩
  rw [hC] at HN ⊢
  clear hC HW2
  have x0 := HN.out.cell' (i := 0) rfl
  have xl := HN.out.lt
  obtain ⟨a0, al⟩ := H2.out.ta
  have S : ∀ w', Below w2.heap.size w2 w' → w'.cell? ⟨a, 0, none⟩ = some (.pointer (some ⟨b, 0, none⟩)) ∧ w'.cell? ⟨C, 0, none⟩ = some (.int .i64 n1) := fun w' hb => ⟨(hb.cell (p := ⟨a, 0, none⟩) al).trans a0, (hb.cell (p := ⟨C, 0, none⟩) xl).trans x0⟩
  clear x0 a0 al
  have HV := Lib.hid hval
  apply wp_region_rel _ (by kernel_rfl) (by kernel_rfl) (fun w' => Below w2.heap.size w2 w') (fun w' w'' => Below w'.heap.size w' w'') (fun w' w'' h1 h2 => bl_trans h1 h2) (Below.refl _ _).drew
  repeat (first
    | (apply wpRel_skip (by rfl)
       simp only [Act.put, List.setIfInBounds_toArray, List.set_cons_zero, List.set_cons_succ])
    | (apply wpRel_fix (by rfl)
       · intro w' hC hf R hR
         have hS := S w' hC
         go_simp
         exact hR _ (Below.refl _ _)
       simp only [Act.put, List.setIfInBounds_toArray, List.set_cons_zero, List.set_cons_succ])
    | (apply wpRel_fix (by rfl)
       · intro w' hC hf R hR
         have hS := S w' hC
         go_simp
         refine (wDir_no (H2.out.wb.below hC) (by omega) HD.out).mono ?_
         rintro e w'' ⟨rfl, hb⟩
         exact ⟨_, rfl, hR _ hb⟩
       simp only [Act.put, List.setIfInBounds_toArray, List.set_cons_zero, List.set_cons_succ]))
  refine wpRel_nil (fun w3 hC hf => ?_)
  have H3 := Lib.hid (H2.out.below hC)
  have HK3 := Lib.hid (HK2.out.trans (H2.out.wb.kept hC))
  clear hC hf S
  have CE := Lib.hid (show errOf E 111 = errV E 2 from errOf_code (g := 2) (by decide))
  have e1 := H3.out.env.toEnv.cell 2 (by decide)
  have l1 : 2 < w3.heap.size := Nat.lt_of_lt_of_le (H3.out.env.toEnv.glt _ (by decide)) H3.out.env.toEnv.size
  go_wp2_with fail
  go_region
  go_wp2
  rw [← HP.out, HRF.out]
  simp only
  rw [CE.out]
  first
    | exact ⟨rfl, H3.out.below (Below.refl _ _).drew, HK3.out.trans (H3.out.wb.kept (Below.refl _ _).drew)⟩
    | (go_ret2; exact ⟨rfl, H3.out.below (Below.refl _ _).drew, HK3.out.trans (H3.out.wb.kept (Below.refl _ _).drew)⟩)
/-- The directory of a path. -/
theorem tof_ok (h : TS E B L a b t dm w0 st w) (s : ByteArray) (hc : (listT st s).1 = 0) : Calls Tryz.prog 74 #[.pointer (some ⟨a, 0, none⟩), .string s] w fun e w' =>
    (∃ k x, e = .returned (.tuple #[.pointer (some ⟨x, 0, none⟩), .nilIface]) ∧ WD B L w' b t dm st k x ∧ st.isDir k = true ∧ (listT st s).2 = st.ents k) ∧ TS E B L a b t dm w0 st w' ∧ KeptP B L w w' := by
  obtain ⟨R, hR⟩ : ∃ R, listT st s = R := ⟨_, rfl⟩
  rw [hR] at hc ⊢
  unfold listT at hR
  obtain ⟨⟨lc, n⟩, hl⟩ : ∃ r, lookT st s true = r := ⟨_, rfl⟩
  rw [hl] at hR
  simp only at hR
  have hlc := look_code st s true
  rw [hl] at hlc
  simp only at hlc
  have hok : lc = 0 → ∃ r, st.get n.id = some r ∧ r.nd = n := fun h0 => by
    obtain ⟨i, r, _, h2, h3⟩ := lookT_is (show lookT st s true = (0, n) by rw [hl, h0])
    have := findN_id h2
    refine ⟨r, ?_, h3⟩
    rw [← h3, this]
    exact h2
  have VL := Lib.hid (err_split (E := E) hlc)
  have HOK := Lib.hid hok
  have HR := Lib.hid hR
  have HC := Lib.hid hc
  have H := Lib.hid h
  have K1 := Lib.hid (ts_look h s true (c := lc) (n := n) (v := errOf E lc) (by rw [hl]) (by rw [hl]) rfl)
  generalize hP : (fun (e : Ending) (w' : World) => (∃ k x, e = .returned (.tuple #[.pointer (some ⟨x, 0, none⟩), .nilIface]) ∧ WD B L w' b t dm st k x ∧ st.isDir k = true ∧ R.2 = st.ents k) ∧ TS E B L a b t dm w0 st w' ∧ KeptP B L w w') = Post
  have HP := Lib.hid hP
  clear h hP hl hR hlc hok hc
  obtain ⟨n1, n2, n3, n4, n5, n6⟩ := n
  unfold encN at K1
  simp only at K1
  go_enter Tryz.func74, Tryz.ntmps74
  go_wp2_with fail
  refine K1.out.mono ?_
  rintro e w1 ⟨rfl, ht, hk⟩
  have H1 := Lib.hid ht
  have HK1 := Lib.hid hk
  obtain ⟨w2, hw2⟩ : ∃ w2, w2 = w1.alloc (.cells #[.int .i64 n1, .int .i64 n2, .int .i64 n3, .int .i64 n4, .string n5, .int .i64 n6] 39) := ⟨_, rfl⟩
  have HW2 := Lib.hid hw2
  have bb : Below w1.heap.size w1 w2 := by rw [hw2]; exact bl_alloc (Below.refl w1.heap.size w1) _
  have HBB := Lib.hid bb
  have HN := Lib.hid (show Row w2 w1.heap.size 39 [.int .i64 n1, .int .i64 n2, .int .i64 n3, .int .i64 n4, .string n5, .int .i64 n6] by rw [hw2]; exact Row.new _ _ _)
  have H2 := Lib.hid (ht.below bb)
  have HK2 := Lib.hid (hk.trans (ht.wb.kept bb))
  have hR1 := HR.out
  clear ht hk K1 bb hw2
  rcases VL.out with ⟨rfl, el⟩ | ⟨hlc, p, el⟩
  case inr =>
    rw [if_pos hlc] at hR1
    have h9 := HC.out
    rw [← hR1] at h9
    exact absurd h9 hlc
  rw [el]
  rw [if_neg (by decide)] at hR1
  have hk2 : n2 = 2 := Classical.byContradiction fun e => by
    rw [if_pos e] at hR1
    have h9 := HC.out
    rw [← hR1] at h9
    exact absurd h9 (by decide)
  rw [if_neg (fun e => e hk2)] at hR1
  have HRF := Lib.hid hR1.symm
  obtain ⟨r, hr, hrn⟩ := HOK.out rfl
  have hval := valid_ids (H2.out.full.val r (findN_mem hr))
  rw [hrn] at hval
  simp only at hval hr
  have HD : Hid (st.isDir n1 = true) := Lib.hid (by unfold St.isDir; rw [hr]; simp [hrn, hk2])
  clear hr hrn hk2 hR1 el VL HOK
  go_wp2_with fail
  rw [← HW2.out]
  have HCC0 := HN.out.lt
  obtain ⟨C, hC⟩ : ∃ C, w1.heap.size = C := ⟨_, rfl⟩
  have HCC : Hid (w1.heap.size ≤ C ∧ C < w2.heap.size) := Lib.hid ⟨Nat.le_of_eq hC, by rw [← hC]; exact HCC0⟩
  rw [hC] at HN ⊢
  clear hC HW2 HCC0
  obtain ⟨L1, hL1⟩ : ∃ L1 : Nat → Prop, L1 = fun x => x = C ∨ L x := ⟨_, rfl⟩
  have HW1 := Lib.hid (H1.out.wb.loc' (L' := L1) HBB.out (fun x hx => by
    rw [hL1] at hx
    rcases hx with hx | hx
    · right
      rw [hx]
      exact HCC.out
    · exact .inl hx))
  have HLs : Hid (L1 C ∧ ∀ x, L x → L1 x) := Lib.hid (by rw [hL1]; exact ⟨.inl rfl, fun x hx => .inr hx⟩)
  have x0 := HN.out.cell' (i := 0) rfl
  have xl := HN.out.lt
  obtain ⟨a0, al⟩ := H2.out.ta
  have HV := Lib.hid hval
  have S : ∀ w', (WB B L1 w' b t dm st ∧ KeptP B L1 w2 w') → w'.cell? ⟨a, 0, none⟩ = some (.pointer (some ⟨b, 0, none⟩)) ∧ w'.cell? ⟨C, 0, none⟩ = some (.int .i64 n1) ∧ C < w'.heap.size := fun w' hC =>
    ⟨(hC.2.cell (HLs.out.2 _ H2.out.la) 0).trans a0, (hC.2.cell HLs.out.1 0).trans x0, hC.1.2.1 C HLs.out.1⟩
  clear x0 a0 al hL1 hval
  apply wp_region_rel _ (by kernel_rfl) (by kernel_rfl) (fun w' => WB B L1 w' b t dm st ∧ KeptP B L1 w2 w') (fun w' w'' => ShD B L1 b t dm st n1 w' w'') (fun w' w'' h1 h2 => ⟨(h2.1 h1.1).1, h1.2.trans (h2.1 h1.1).2⟩) ⟨HW1.out.below (Below.refl _ _).drew, HW1.out.kept (Below.refl _ _).drew⟩
  repeat (first
    | (apply wpRel_skip (by rfl)
       simp only [Act.put, List.setIfInBounds_toArray, List.set_cons_zero, List.set_cons_succ])
    | (apply wpRel_fix (by rfl)
       · intro w' hC hf R hR
         have hS := S w' hC
         go_simp
         exact hR _ (ShD.refl _)
       simp only [Act.put, List.setIfInBounds_toArray, List.set_cons_zero, List.set_cons_succ]))
  apply wpRel_rel (DirT B L1 b t dm st n1) (by rfl) dirT_keep
  · intro w' hC hf R hR
    go_simp
    refine (wDir_keep hC.1 (by have := HV.out; omega) HD.out).mono ?_
    rintro e w'' ⟨x, rfl, h1, h2, h3⟩
    exact ⟨_, rfl, hR _ _ ⟨x, rfl, h1⟩ ⟨fun _ => ⟨h1.wb, h2⟩, h3⟩⟩
  intro v1
  simp only [Act.put, List.setIfInBounds_toArray, List.set_cons_zero, List.set_cons_succ]
  apply wpRel_rel (DirT B L1 b t dm st n1) (by rfl) dirT_keep
  · intro w' hC hf R hR
    have h1 := hf _ (List.mem_cons_self ..) (by kernel_rfl)
    go_simp
    exact hR _ _ h1 (ShD.refl _)
  intro v2
  simp only [Act.put, List.setIfInBounds_toArray, List.set_cons_zero, List.set_cons_succ]
  apply wpRel_rel (DirP B L1 b t dm st n1) (by rfl) dirP_keep
  · intro w' hC hf R hR
    obtain ⟨x, rfl, h1⟩ := hf _ (List.mem_cons_self ..) (by kernel_rfl)
    go_simp
    exact hR _ _ ⟨x, rfl, h1⟩ (ShD.refl _)
  intro v3
  simp only [Act.put, List.setIfInBounds_toArray, List.set_cons_zero, List.set_cons_succ]
  apply wpRel_fix (by rfl)
  · intro w' hC hf R hR
    obtain ⟨x, rfl, h1⟩ := hf _ (List.mem_cons_of_mem _ (List.mem_cons_self ..)) (by kernel_rfl)
    go_simp
    exact hR _ (ShD.refl _)
  simp only [Act.put, List.setIfInBounds_toArray, List.set_cons_zero, List.set_cons_succ]
  apply wpRel_rel (DirP B L1 b t dm st n1) (by rfl) dirP_keep
  · intro w' hC hf R hR
    have h1 := hf _ (List.mem_cons_self ..) (by kernel_rfl)
    go_simp
    exact hR _ _ h1 (ShD.refl _)
  intro v4
  simp only [Act.put, List.setIfInBounds_toArray, List.set_cons_zero, List.set_cons_succ]
  repeat (first
    | (apply wpRel_skip (by rfl)
       simp only [Act.put, List.setIfInBounds_toArray, List.set_cons_zero, List.set_cons_succ])
    | (apply wpRel_fix (by rfl)
       · intro w' hC hf R hR
         go_simp
         exact hR _ (ShD.refl _)
       simp only [Act.put, List.setIfInBounds_toArray, List.set_cons_zero, List.set_cons_succ]))
  refine wpRel_nil (fun w3 hC hf => ?_)
  obtain ⟨y, rfl, hwd⟩ := hf _ (List.mem_cons_self ..)
  have HWD := Lib.hid (hwd.less HLs.out.2)
  have HK3 := Lib.hid (HK2.out.trans (hC.2.mono HLs.out.2))
  have H3 := Lib.hid (H2.out.kept H2.out.full (hwd.less HLs.out.2).wb (hC.2.mono HLs.out.2))
  clear hf hC S hwd
  go_wp2
  rw [← HP.out, HRF.out]
  have hfin : (∃ k x, (Ending.returned (.tuple #[.pointer (some ⟨y, 0, none⟩), .nilIface]) : Ending) = .returned (.tuple #[.pointer (some ⟨x, 0, none⟩), .nilIface]) ∧ WD B L w3 b t dm st k x ∧ st.isDir k = true ∧ ((0, st.ents n1) : Int × List En).2 = st.ents k) ∧ TS E B L a b t dm w0 st w3 ∧ KeptP B L w w3 :=
    ⟨⟨n1, y, rfl, HWD.out, HD.out, rfl⟩, H3.out, HK3.out⟩
  first
    | exact hfin
    | (go_ret2; exact hfin)
/-- A directory's entries. -/
theorem tlist_any (h : TS E B L a b t dm w0 st w) (s : ByteArray) : Calls Tryz.prog 27 #[.pointer (some ⟨a, 0, none⟩), .string s] w fun e w' =>
    (∃ v, e = .returned (.tuple #[v, errOf E (listT st s).1]) ∧ SlEn w' w.heap.size v (listT st s).2) ∧ TS E B L a b t dm w0 st w' ∧ KeptP B L w w' := by
  have H := Lib.hid h
  obtain ⟨R, hR⟩ : ∃ R, listT st s = R := ⟨_, rfl⟩
  have hcode : CodeOk R.1 := by
    have h1 := look_code st s true
    rw [← hR]
    unfold listT
    split
    · exact h1
    · split
      · exact .inr (by simp)
      · exact .inl rfl
  have hnil : R.1 ≠ 0 → R.2 = [] := fun hc => by
    rw [← hR] at hc ⊢
    unfold listT at hc ⊢
    split
    · rfl
    · split
      · rfl
      · rename_i h1 h2
        rw [if_neg h1, if_neg h2] at hc
        exact absurd rfl hc
  have HNIL := Lib.hid hnil
  generalize hP : (fun (e : Ending) (w' : World) => (∃ v, e = .returned (.tuple #[v, errOf E (listT st s).1]) ∧ SlEn w' w.heap.size v (listT st s).2) ∧ TS E B L a b t dm w0 st w' ∧ KeptP B L w w') = Post
  rw [hR] at hP
  have HP := Lib.hid hP
  rcases err_split (E := E) hcode with ⟨hc, el⟩ | ⟨hc, p, el⟩
  · have HO := Lib.hid (tof_ok h s (by rw [hR]; exact hc))
    rw [hR] at HO
    rw [hc] at el
    have HC0 := Lib.hid hc
    clear h hP hR hcode hnil el hc
    go_enter Tryz.func27, Tryz.ntmps27
    go_wp2_with fail
    refine HO.out.mono ?_
    rintro e w1 ⟨⟨k, x, rfl, hwd, hd, he⟩, ht, hk⟩
    have HF := Lib.hid ht.full
    have HT := Lib.hid ht
    have HK := Lib.hid hk
    have HE := Lib.hid he
    obtain ⟨d, hd1, hd2⟩ := isDir_some hd
    obtain ⟨r, hr, hrn, hre⟩ := nd_get hd1
    have hmem := findN_mem hr
    have HALL := Lib.hid (wl_dall hwd (by rw [← hre]; exact ht.full.erise r hmem) (by rw [← hre]; exact Nat.le_trans (ht.full.tidy.few r hmem) (by decide)) (by rw [← hre]; exact fun e he => Nat.le_trans (nmCode_size (ht.full.ent r hmem e he).code) (by decide)))
    clear hwd hd he ht hk hd1 hd2 hr hrn hre hmem
    go_wp2_with fail
    refine HALL.out.mono ?_
    rintro e w2 ⟨⟨v, rfl, hs⟩, hb⟩
    obtain ⟨sp, cap, rfl⟩ := SlE.shape' hs
    have HS := Lib.hid (hs.mono HK.out.below.size)
    have HT2 := Lib.hid (HT.out.below hb)
    have HK2 := Lib.hid (HK.out.trans (HT.out.wb.kept hb))
    clear hs hb
    go_wp2
    rw [← HP.out]
    have hfin : (∃ v, (Ending.returned (.tuple #[.slice sp (st.ents k).length cap, .nilIface]) : Ending) = .returned (.tuple #[v, errOf E R.1]) ∧ SlEn w2 w.heap.size v R.2) ∧ TS E B L a b t dm w0 st w2 ∧ KeptP B L w w2 :=
      ⟨⟨_, by rw [HC0.out]; rfl, by rw [HE.out]; exact HS.out⟩, HT2.out, HK2.out⟩
    first
      | exact hfin
      | (go_ret2; exact hfin)
  · have HO := Lib.hid (tof_bad h s (by rw [hR]; exact hc))
    rw [hR, el] at HO
    have HC0 := Lib.hid hc
    have HEL := Lib.hid el
    clear h hP hR hcode hnil el hc
    go_enter Tryz.func27, Tryz.ntmps27
    go_wp2_with fail
    refine HO.out.mono ?_
    rintro e w1 ⟨rfl, ht, hk⟩
    have HT := Lib.hid ht
    have HK := Lib.hid hk
    clear ht hk
    go_wp2
    rw [← HP.out]
    have hfin : (∃ v, (Ending.returned (.tuple #[.slice none 0 0, .iface 246 (.pointer (some p))]) : Ending) = .returned (.tuple #[v, errOf E R.1]) ∧ SlEn w1 w.heap.size v R.2) ∧ TS E B L a b t dm w0 st w1 ∧ KeptP B L w w1 :=
      ⟨⟨_, by rw [HEL.out], by rw [HNIL.out HC0.out]; exact SlE.nil _ _ _ _ _⟩, HT.out, HK.out⟩
    first
      | exact hfin
      | (go_ret2; exact hfin)
end
end Go.Proofs.YtnkcbogikaebfaaGreatDoor
end

section
/- The walk of the law TreePlays. -/
namespace Go.Proofs.YtnkcbogikaebfaaGreatDoor
open Go Go.RowKit
set_option maxRecDepth 100000
set_option linter.unusedSimpArgs false
set_option linter.unusedVariables false
attribute [local go_sem] giv
variable {E : Nat → Addr} {B : Nat}
def zzN : ByteArray := nmA [47, 122, 122]
def saN : ByteArray := nmA [47, 97]
section
variable {X : Nat → Prop} {wx : World} {a b t dm m : Nat} {T : Nat → Prop} {w0 w w' : World} {st st' sd sd' : St}
/-- What turns in the law's own blocks turns neither of the two. -/
theorem TH.aside (h : TH E B X wx a b t dm m T w0 st sd w) (ht : Touch X w w') (hX : ∀ x, X x → B ≤ x) (ha : ¬ X a) : TH E B (NewT X w w') w' a b t dm m T w0 st sd w' := by
  have hL := h.ts.wb.2.1
  have hst : TS E B (fun x => x = a ∨ T x ∨ X x) a b t dm w0 st w' := h.ts.touch ht (fun x hx => ⟨.inr (.inr hx), fun e => ha (e ▸ hx), hX x hx⟩)
  refine ⟨⟨hst.ta, .inl rfl, ?_, hst.full, hst.env, hst.bel⟩, h.mw.touch ht (fun x hx hx' => h.nx x hx' hx), h.na, fun x hx hT => ?_, fun _ _ => rfl⟩
  · obtain ⟨h1, h2, nm, dirs, pn, lab, h3, h4, h5⟩ := h.ts.wb
    refine ⟨Nat.le_trans h1 ht.size, fun x hx => ?_, nm, dirs, pn, lab, h3.touch ht (fun x hx hs => (h4 x hx).2 (.inr (.inr hs))), fun x hx => ⟨(h4 x hx).1, ?_⟩, h5⟩
    · rcases hx with hx | hx | (hx | hx)
      · exact Nat.lt_of_lt_of_le (h2 x (.inl hx)) ht.size
      · exact Nat.lt_of_lt_of_le (h2 x (.inr (.inl hx))) ht.size
      · exact Nat.lt_of_lt_of_le (h2 x (.inr (.inr hx))) ht.size
      · exact hx.2
    · rintro (h6 | h6 | (h6 | h6))
      · exact (h4 x hx).2 (.inl h6)
      · exact (h4 x hx).2 (.inr (.inl h6))
      · exact (h4 x hx).2 (.inr (.inr h6))
      · have := h3.lt x hx; omega
  · rcases hx with hx | hx
    · exact h.nx x hx hT
    · have := (h.mw.lt x hT).2; omega
/-- A tree of the law's own, in the blocks from W0 to W1, is as it was. -/
theorem TH.aside_ts {W0 : Nat} {w1 : World} {c cb ct cdm : Nat} {sc : St} (h : TH E B (fun x => W0 ≤ x ∧ x < w1.heap.size) w1 a b t dm m T w0 st sd w) (hos : Below B w0 w1) (hc : W0 ≤ c) (hta : TA w1 c cb) (hw : WB W0 (fun x => x = c) w1 cb ct cdm sc) (hB : B ≤ W0) (f : Full sc) :
    TS E B (fun x => x = c ∨ (x < w.heap.size ∧ ¬ (W0 ≤ x ∧ x < w1.heap.size))) c cb ct cdm w0 sc w := by
  have hbel := h.ts.bel
  have hcX : W0 ≤ c ∧ c < w1.heap.size := ⟨hc, hta.2⟩
  have hsz : w1.heap.size ≤ w.heap.size := by
    have := h.ts.wb.2.1 (w1.heap.size - 1) (.inr (.inr ⟨by omega, by omega⟩))
    omega
  have ht : Touch (fun x => ¬ (W0 ≤ x ∧ x < w1.heap.size)) w1 w := ⟨hbel.os.trans hos.os.symm, hbel.tape.trans hos.tape.symm, hbel.output.trans hos.output.symm, hsz, fun x _ hn => h.xs x (Classical.not_not.1 hn)⟩
  refine ⟨⟨(ht.cell (p := ⟨c, 0, none⟩) hcX.2 (fun hn => hn hcX)).trans hta.1, Nat.lt_of_lt_of_le hcX.2 hsz⟩, .inl rfl, ?_, f, h.ts.env, hbel⟩
  exact hw.far hB ht (fun x h1 h2 hn => hn ⟨h1, h2⟩)
end
set_option maxHeartbeats 8000000 in
theorem treeplays_any {w : World} {v : Value} {acs : List Ac} (hr : ∀ w', Below B w w' → RdE w' 4 encAc v acs) (hin : ∀ c ∈ acs, -9223372036854775808 ≤ c.n ∧ c.n ≤ 9223372036854775807) (hml : acs.length ≤ maxLen) (hE : EnvM E B w) (s : ByteArray) (fo : Bool) (id inn : Int)
    (hid : -9223372036854775808 ≤ id ∧ id ≤ 9223372036854775807) (hinn : -9223372036854775808 ≤ inn ∧ inn ≤ 9223372036854775807) :
    Calls Tryz.prog 6 #[v, .string s, .bool fo, .int .i64 id, .int .i64 inn] w fun e w' => e = .returned (.bool true) ∧ Below B w w' := by
  obtain ⟨sp, cap, rfl, hcap⟩ := RdE.shape (hr w (Below.refl _ _))
  have HR := Lib.hid hr
  have HE := Lib.hid hE
  have HIN := Lib.hid hin
  have HML := Lib.hid hml
  have HID := Lib.hid (And.intro hid hinn)
  have hml2 : (acs.length : Int) ≤ 9223372036854775807 := by unfold maxLen at hml; omega
  generalize hP : (fun (e : Ending) (w' : World) => e = .returned (.bool true) ∧ Below B w w') = Post
  have HP := Lib.hid hP
  clear hr hE hin hml hP hid hinn
  go_enter Tryz.func6, Tryz.ntmps6
  go_wp2_with fail
  refine (first_any HE.out).mono ?_
  rintro e w1 ⟨rfl, hb1⟩
  have HE1 := Lib.hid (HE.out.keep hb1)
  have HB1 := Lib.hid hb1
  have HR1 := Lib.hid (HR.out w1 hb1)
  clear hb1
  go_wp2_with fail
  refine (light_any HR1.out HML.out 60).mono ?_
  rintro e w2 ⟨bl, rfl, hb2, _⟩
  have HB2 := Lib.hid (HB1.out.trans (hb2.mono HE1.out.size))
  have HE2 := Lib.hid (HE1.out.below hb2)
  clear hb2 HB1 HE1 HR1
  have HEND : Hid (∀ w9, Below B w2 w9 → Post (.returned (.bool true)) w9) := Lib.hid (fun w9 hb => by rw [← HP.out]; exact ⟨rfl, HB2.out.trans hb⟩)
  cases bl
  case false =>
    go_wp2
    first | go_ret | skip
    exact HEND.out _ (Below.refl _ _)
  by_cases hs : (s.size : Int) > 300
  · go_wp2
    first | go_ret | skip
    exact HEND.out _ (Below.refl _ _)
  go_wp2_with fail
  refine (ts_new HE2.out).mono ?_
  rintro e w3 ⟨a, b, t, dm, rfl, ha, h1⟩
  have H1 := Lib.hid h1
  clear h1 ha hs
  go_wp2_with fail
  refine (dnew_any (B := B) _ _ H1.out.env.size).mono ?_
  rintro e w4 ⟨m, u, ms, rfl, hD, _, hb4⟩
  have HT4 : Hid (∃ T wx, TM E B (fun _ => False) wx a b t dm m T w2 newSt w4) := Lib.hid ⟨fun x => w3.heap.size ≤ x ∧ x < w4.heap.size, w4, by
    have h2 := H1.out.below hb4
    refine ⟨⟨h2.ta, .inl rfl, H1.out.wb.loc' hb4 (fun x hx => ?_), h2.full, h2.env, h2.bel⟩, ⟨u, ms, hD⟩, fun h => ?_, fun x hx => hx.elim, fun x hx => hx.elim⟩
    · rcases hx with rfl | hx | hx
      · exact .inl rfl
      · exact .inr hx
      · exact hx.elim
    · have := H1.out.ta.2
      omega⟩
  clear hD hb4 H1
  go_wp2_with fail
  go_loopw [14] (fun v wr => ∃ (j : Nat) (T : Nat → Prop) (wx : World), j ≤ acs.length ∧ v = .int .i64 j ∧ Hid (TM E B (fun _ => False) wx a b t dm m T w2 (playT (acs.take j)) wr)) (fun v _ => acs.length - (intOf v).toNat)
  case atStart =>
    obtain ⟨T, wx, h⟩ := HT4.out
    exact ⟨0, T, wx, Nat.zero_le _, rfl, Lib.hid h⟩
  case round =>
    obtain ⟨j, T, wx, hj, rfl, HT⟩ := hrel
    obtain ⟨st, hst⟩ : ∃ st, playT (acs.take j) = st := ⟨_, rfl⟩
    rw [hst] at HT
    have HST := Lib.hid hst
    clear hst
    by_cases hlt : j < acs.length
    case pos =>
      as_aux_lemma =>
      obtain ⟨ac, hc⟩ : ∃ c, acs[j]? = some c := ⟨_, List.getElem?_eq_getElem hlt⟩
      have HPT := Lib.hid (playT_take hc)
      have HCN := Lib.hid (HIN.out ac (List.mem_of_getElem? hc))
      have HGET := Lib.hid hc
      have hj0 : (0 : Int) ≤ (j : Int) := by omega
      have hj1 : (j : Int) < (acs.length : Int) := by omega
      have HCO := Lib.hid (tclone_any HT.out.ts)
      have HF := Lib.hid HT.out.ts.full
      clear hc
      go_wp2_with fail
      refine HCO.out.mono ?_
      rintro e w5 ⟨⟨c, cb, ct, cdm, rfl, hc0, hta, hwb⟩, hb5⟩
      obtain ⟨W0, hW0⟩ : ∃ W0, wr.heap.size = W0 := ⟨_, rfl⟩
      have HNA : Hid (¬ (W0 ≤ a ∧ a < w5.heap.size)) := Lib.hid (by intro h; have := HT.out.ts.ta.2; omega)
      have HWB : Hid (B ≤ W0) := Lib.hid (by rw [← hW0]; exact HT.out.ts.env.size)
      have H5 : Hid (TM E B (fun x => W0 ≤ x ∧ x < w5.heap.size) w5 a b t dm m T w2 st w5) := Lib.hid (HT.out.own hb5 (fun x hx => .inr (by rw [hW0]; exact hx)))
      rw [hW0] at hc0 hwb
      have HC5 := Lib.hid (And.intro hc0 (And.intro hta hwb))
      have HTO := Lib.hid (told_any H5.out ac HCN.out)
      obtain ⟨hh, off, rfl, hl, hcs⟩ := acCells (HR.out w5 (HB2.out.trans H5.out.ts.bel)) HGET.out
      obtain ⟨k, n, sa, sb⟩ := ac
      have e0 : w5.cell? ⟨hh, off + j * 4, none⟩ = some (.int .i64 k) := hcs 0 (by omega)
      have e1 : w5.cell? ⟨hh, off + j * 4 + 1, none⟩ = some (.int .i64 n) := hcs 1 (by omega)
      have e2 : w5.cell? ⟨hh, off + j * 4 + 2, none⟩ = some (.string sa) := hcs 2 (by omega)
      have e3 : w5.cell? ⟨hh, off + j * 4 + 3, none⟩ = some (.string sb) := hcs 3 (by omega)
      have HB5 := Lib.hid H5.out.ts.bel
      unfold acV at HTO
      simp only at HTO
      clear hcs hc0 hta hwb hb5 HT hW0
      go_wp2_with fail
      refine HTO.out.mono ?_
      rintro e w6 ⟨rfl, T', h6⟩
      have H6 := Lib.hid h6
      clear h6 e0 e1 e2 e3 hl HTO H5
      go_wp2_with fail
      refine (same_any H6.out).mono ?_
      rintro e w7 ⟨rfl, h7⟩
      have H7 := Lib.hid h7
      clear h7 H6
      obtain ⟨s1, hs1⟩ : ∃ s1, stepT st ⟨k, n, sa, sb⟩ = s1 := ⟨_, rfl⟩
      rw [hs1] at H7
      have HS1 := Lib.hid hs1
      clear hs1
      by_cases h4 : (j : Int) % 9 = 4
      case neg =>
        have h4b : ((j : Int) % 9 == 4) = false := by rw [beq_eq_false_iff_ne]; exact h4
        clear h4
        go_wp2
        go_roundw
        case rel => exact ⟨j + 1, T', w5, by omega, by go_num, Lib.hid (by rw [HPT.out, HST.out, HS1.out]; exact H7.out.back (fun x hx => hx.elim) (fun x hx => hx.elim))⟩
        case measure => simp [intOf]; omega
      have h4b : ((j : Int) % 9 == 4) = true := by rw [beq_iff_eq]; exact h4
      clear h4
      have HTC := Lib.hid (H7.out.aside_ts HB5.out HC5.out.1 HC5.out.2.1 HC5.out.2.2 HWB.out HF.out)
      obtain ⟨Lc, hLc⟩ : ∃ Lc : Nat → Prop, Lc = fun x => x = c ∨ (x < w7.heap.size ∧ ¬ (W0 ≤ x ∧ x < w5.heap.size)) := ⟨_, rfl⟩
      rw [← hLc] at HTC
      have HLC := Lib.hid hLc
      have HMK := Lib.hid (ts_make' HTC.out zzN noText 2)
      clear hLc
      go_wp2_with fail
      refine HMK.out.mono ?_
      rintro e w8 ⟨rfl, ht8, hk8⟩
      have HT8 := Lib.hid ht8
      have H8 := Lib.hid (H7.out.aside (hk8.touch.mono (fun x hx hlt => by
        refine Classical.byContradiction fun hn => hx ?_
        rw [HLC.out]
        exact .inr ⟨hlt, hn⟩)) (fun x hx => Nat.le_trans HWB.out hx.1) HNA.out)
      have HZ8 := Lib.hid hk8.below.size
      have HUN := Lib.hid (ts_unlink ht8 saN rfl rfl rfl rfl)
      clear ht8 hk8 HMK HTC
      go_wp2_with fail
      refine HUN.out.mono ?_
      rintro e w9 ⟨rfl, ht9, hk9⟩
      have H9 := Lib.hid (H8.out.aside (hk9.touch.mono (fun x hx hlt => by
        refine Classical.byContradiction fun hn => hx ?_
        rw [HLC.out]
        by_cases h9 : x < w7.heap.size
        · exact .inr ⟨h9, fun h => hn (.inl h)⟩
        · exact absurd (.inr ⟨by omega, hlt⟩) hn)) (fun x hx => by
          rcases hx with hx | hx
          · exact Nat.le_trans HWB.out hx.1
          · exact Nat.le_trans H7.out.ts.env.size hx.1) (fun hx => by
          rcases hx with hx | hx
          · exact HNA.out hx
          · have := H7.out.ts.ta.2; omega))
      clear ht9 hk9 HUN
      go_wp2_with fail
      refine (same_any H9.out).mono ?_
      rintro e w10 ⟨rfl, h10⟩
      have H10 := Lib.hid h10
      clear h10
      go_wp2
      go_roundw
      case rel => exact ⟨j + 1, T', w9, by omega, by go_num, Lib.hid (by rw [HPT.out, HST.out, HS1.out]; exact H10.out.back (fun x hx => hx.elim) (fun x hx => hx.elim))⟩
      case measure => simp [intOf]; omega
    case neg =>
      as_aux_lemma =>
      obtain rfl : j = acs.length := by omega
      have HF := Lib.hid HT.out.ts.full
      obtain ⟨⟨ca, na⟩, hla⟩ : ∃ r, lookT st s fo = r := ⟨_, rfl⟩
      obtain ⟨⟨cl, es⟩, hli⟩ : ∃ r, listT st s = r := ⟨_, rfl⟩
      have HLA := Lib.hid hla
      have HLI := Lib.hid hli
      have HCA : Hid (CodeOk ca) := Lib.hid (by have := look_code st s fo; rw [hla] at this; exact this)
      have HCL : Hid (CodeOk cl) := Lib.hid (by
        have h1 := look_code st s true
        have h2 : (listT st s).1 = cl := by rw [hli]
        rw [← h2]
        unfold listT
        split
        · exact h1
        · split
          · exact .inr (by simp)
          · exact .inl rfl)
      have HLM : Hid (mlookT st s fo = (ca, na.id)) := Lib.hid (by rw [mlook_look HF.out, hla])
      have HEL : Hid (es.length ≤ 1000000) := Lib.hid (by
        have h2 : (listT st s).2 = es := by rw [hli]
        rw [← h2]
        unfold listT
        split
        · simp
        · split
          · simp
          · simp only
            unfold St.ents
            cases hg : st.get (lookT st s true).2.id with
            | none => simp
            | some r => exact Nat.le_trans (HF.out.tidy.few r (findN_mem hg)) (by decide))
      have K1 := Lib.hid (ts_look HT.out.ts s fo (c := ca) (n := na) (v := errOf E ca) (by rw [hla]) (by rw [hla]) rfl)
      obtain ⟨na1, na2, na3, na4, na5, na6⟩ := na
      unfold encN at K1
      simp only at K1 HLM
      clear hla hli
      go_wp2_with fail
      refine K1.out.mono ?_
      rintro e w5 ⟨rfl, ht, hk⟩
      go_upto_region 18 with fail
      obtain ⟨w5a, hwa⟩ : ∃ wa, wa = w5.alloc (.cells #[.int .i64 na1, .int .i64 na2, .int .i64 na3, .int .i64 na4, .string na5, .int .i64 na6] 39) := ⟨_, rfl⟩
      have bb : Below w5.heap.size w5 w5a := by rw [hwa]; exact bl_alloc (Below.refl _ _) _
      have r1 : Row w5a w5.heap.size 39 [.int .i64 na1, .int .i64 na2, .int .i64 na3, .int .i64 na4, .string na5, .int .i64 na6] := by rw [hwa]; exact Row.new _ _ _
      have hz1 := r1.lt
      rw [← hwa]
      obtain ⟨C1, hC1⟩ : ∃ C, w5.heap.size = C := ⟨_, rfl⟩
      rw [hC1] at r1 hz1 ⊢
      have HR1 := Lib.hid r1
      have H5 := Lib.hid ((HT.out.tree ht hk).own (X' := fun x => x = C1) bb (fun x hx => .inr (by rw [hx]; exact ⟨Nat.le_of_eq hC1, hz1⟩)))
      clear ht hk K1 hwa bb r1 hz1 hC1 HT
      go_wp2_with fail
      refine (mlook_any H5.out.mw HF.out s fo).mono ?_
      rw [HLM.out]
      rintro e w6 ⟨rfl, hb6⟩
      have H6 := Lib.hid (H5.out.below hb6)
      clear hb6
      have K2 := Lib.hid (tlist_any H6.out.ts s)
      rw [HLI.out] at K2
      go_wp2_with fail
      refine K2.out.mono ?_
      rintro e w7 ⟨⟨lv, rfl, hlv⟩, ht, hk⟩
      have H7 := Lib.hid (H6.out.tree ht hk)
      have HLV := Lib.hid (hlv.rd encEl_len)
      clear ht hk hlv K2
      have K3 := Lib.hid (mlist_any H7.out.mw HF.out s)
      rw [HLI.out] at K3
      go_wp2_with fail
      refine K3.out.mono ?_
      rintro e w8 ⟨⟨mv, rfl, hmv⟩, hb8⟩
      have HMV := Lib.hid (hmv.rd encEl_len)
      have HLV8 := Lib.hid (HLV.out.below hb8)
      have H8 := Lib.hid (H7.out.below hb8)
      clear hmv hb8 K3 HLV
      have hcc : (ca == ca) = true := by simp
      have hcl : (cl == cl) = true := by simp
      have hidd : (na1 == na1) = true := by simp
      go_wp2_with fail
      refine (ts_is H8.out.ts rfl HCA.out hcc).mono ?_
      rintro e w9 ⟨rfl, hb9, _⟩
      have H9 := Lib.hid (H8.out.below hb9)
      have HM9 := Lib.hid (HMV.out.below hb9)
      have HL9 := Lib.hid (HLV8.out.below hb9)
      have x1 := (HR1.out.keep (H9.out.xs C1 rfl)).cell' (i := 0) rfl
      have xl1 := (HR1.out.keep (H9.out.xs C1 rfl)).lt
      clear hb9
      go_wp2_with fail
      refine (ts_is H9.out.ts rfl HCL.out hcl).mono ?_
      rintro e w10 ⟨rfl, hb10, _⟩
      have H10 := Lib.hid (H9.out.below hb10)
      have HM10 := Lib.hid (HM9.out.below hb10)
      have HL10 := Lib.hid (HL9.out.below hb10)
      clear hb10 x1 xl1
      go_wp2_with fail
      refine (sameentrys_any HL10.out HM10.out HEL.out).mono ?_
      rintro e w11 ⟨rfl, hb11⟩
      have H11 := Lib.hid (H10.out.below hb11)
      clear hb11
      rw [show decide (es = es) = true from decide_eq_true rfl]
      have K4 := Lib.hid (ts_within H11.out.ts (r := st.within id inn) rfl HID.out.1 HID.out.2)
      obtain ⟨r, hr⟩ : ∃ r, st.within id inn = r := ⟨_, rfl⟩
      have HRW := Lib.hid hr
      rw [hr] at K4
      clear hr
      go_wp2_with fail
      refine K4.out.mono ?_
      rintro e w12 ⟨rfl, ht, hk⟩
      have H12 := Lib.hid (H11.out.tree ht hk)
      clear ht hk K4
      obtain ⟨vv, mss, hdw⟩ := H12.out.mw
      have hsm := hdw.small HF.out.tidy.toTid
      have K5 := Lib.hid (dwithin_any hdw (by omega) id inn)
      rw [HRW.out] at K5
      clear hdw hsm
      go_wp2_with fail
      refine K5.out.mono ?_
      rintro e w13 ⟨rfl, rfl⟩
      have hrr : (r == r) = true := by simp
      cases r
      · go_wp2
        first | go_ret | skip
        exact HEND.out _ H12.out.ts.bel
      · go_wp2
        first | go_ret | skip
        exact HEND.out _ H12.out.ts.bel
end Go.Proofs.YtnkcbogikaebfaaGreatDoor
end

section
/- What the card of TreePlays asks beside the walk. -/
namespace Go.Proofs.YtnkcbogikaebfaaGreatDoor.treePlays
open Go.ChangeShapes Go.WideShapes Go.ChangeAt Go.RowKit
set_option maxRecDepth 100000

theorem own : ownKnob Tryz.prog.godebug = none := by kernel_rfl
theorem door_met (os : Os) (args : Array Value) : laidMetH Tryz.prog Rows.treePlaysRow.laid ((World.laidAll Tryz.prog os Rows.treePlaysRow.laid).forCall (fun _ _ => 0) ⟨#[], args, []⟩).memory := by
  rw [MakeChecks.laidMetH_plain _ _ _ (by kernel_rfl)]
  exact laidMet_laidAll _ (by kernel_rfl) (by kernel_rfl)
theorem joined : joinedFacts Tryz.prog 6 Tryz.f6 Rows.treePlaysSpec Rows.treePlaysRow = true := by
  unfold joinedFacts
  rw [seat_laidOut, seat_mapsRowed, seat_stopsHeard, seat_mayEnter, seat_plainKeys, seat_lifted, seat_make]
  kernel_rfl
theorem inst : Tryz.f6.isInstance Tryz.prog Rows.treePlaysRow.origin Rows.treePlaysRow.targs := of_decide_eq_true (by kernel_rfl)
theorem wrap : Tryz.f6.isWrapper Tryz.prog Rows.treePlaysRow.wrapper Rows.treePlaysRow.mainSum := by
  unfold Func.isWrapper
  first | (rw [if_pos (by decide +kernel)]; kernel_rfl) | (rw [if_neg (by decide +kernel)]; exact ⟨rfl, rfl⟩)
end Go.Proofs.YtnkcbogikaebfaaGreatDoor.treePlays
end

section
namespace Go.Proofs.YtnkcbogikaebfaaGreatDoor.treePlays
open Go.ChangeShapes Go.WideShapes Go.ChangeAt Go.RowKit
set_option maxRecDepth 100000

theorem lifted (os : Os) (started : os.Started) (H : Type) (enc : TypeId × Value → H) :
    ReturnsInHanded {} Tryz.checked os 6 .any (fun w args => (Rows.treePlaysSpec.pre enc Tryz.prog Tryz.f6 [] false w args ∧ laidMetH Tryz.prog Rows.treePlaysRow.laid w) ∧ sizedMet enc Tryz.prog Tryz.f6 (OpenSpec.ofChange Rows.treePlaysSpec) false w args)
      (Rows.treePlaysSpec.post enc Tryz.prog Tryz.f6 false true false false) := by
  refine handed_and_shaped (C := Tryz.checked) (X := fun w _ => laidMetH Tryz.prog Rows.treePlaysRow.laid w) (fun _ _ _ hh h => h.of_heap hh) own started (by kernel_rfl) Tryz.func6
    (ChangeSpec.witness_shaped (enc := enc) (C := Tryz.checked) (os := os) (X := fun w _ => laidMetH Tryz.prog Rows.treePlaysRow.laid w) false (World.laidAll Tryz.prog os Rows.treePlaysRow.laid) #[.slice none 0 0, .string ⟨#[]⟩, .bool false, .int .i64 0, .int .i64 0] 8 (World.laidAll_os _ _ _) (World.shaped_of_ZipB (by kernel_rfl) (by kernel_rfl)) (by kernel_rfl) (by kernel_rfl) (by kernel_rfl) (door_met os _)) ?_
  intro W base args ds gs before hval0 hW _ _ hL hSh _
  have hval : ∀ (j : Nat) t v, Tryz.f6.params[j]? = some t → args[j]? = some v → Value.okWide Tryz.prog W .any base t v := hval0
  have hW' := hW
  obtain ⟨p, q, hA0, hV, rfl, hfz, hnd⟩ := hW
  have hA : DataW.TrodAll enc Tryz.prog W 0 (fun _ => true) true Tryz.f6.params.toList args.toList ds p := hA0
  rw [Tryz.params6] at hA hval
  obtain ⟨v0, vs0, d0, ds0, p0, q0, hargs, rfl, rfl, h0, r0⟩ := trodAll_cons hA
  obtain ⟨v1, vs1, d1, ds1, p1, q1, rfl, rfl, rfl, h1, r1⟩ := trodAll_cons r0
  obtain ⟨v2, vs2, d2, ds2, p2, q2, rfl, rfl, rfl, h2, r2⟩ := trodAll_cons r1
  obtain ⟨v3, vs3, d3, ds3, p3, q3, rfl, rfl, rfl, h3, r3⟩ := trodAll_cons r2
  obtain ⟨v4, vs4, d4, ds4, p4, q4, rfl, rfl, rfl, h4, r4⟩ := trodAll_cons r3
  obtain ⟨rfl, rfl, rfl⟩ := trodAll_nil r4
  obtain rfl : args = #[v0, v1, v2, v3, v4] := by cases args; simp_all
  obtain ⟨rfl, rfl⟩ := trodVars_none hV
  have hW0 := hW'
  simp only [List.append_nil] at hW0
  have hlt := fun x hx => by simpa using hW0.lt x hx
  have hl0 : ∀ x ∈ p0, x.block < W.heap.size := fun x hx => hlt x (by simp [hx])
  have k0 : ∀ (W' : World), Below W.heap.size W W' → DataW.Trod enc Tryz.prog W' 0 (fun b => decide (b < W.heap.size)) true 22 v0 d0 p0 := fun W' hn => Below.trod seat_laidOut (by kernel_rfl) (of_decide_eq_true (by kernel_rfl)) h0 hn hl0
  obtain ⟨a0, rd0, ok0, ln0, sp0, n0, cap0, rfl⟩ := open_dos19_arg (hval 0 22 v0 rfl rfl) h0 hl0
  obtain ⟨a1, rfl, rfl, rfl, w1⟩ := Go.ChangeMaps.open_string Tryz.underlying9 (hval 1 9 v1 rfl rfl) h1
  obtain ⟨a2, rfl, rfl, rfl⟩ := open_bool Tryz.underlying4 (hval 2 4 v2 rfl rfl) h2
  obtain ⟨a3, rfl, rfl, rfl, w3⟩ := open_int Tryz.underlying3 (hval 3 3 v3 rfl rfl) h3
  obtain ⟨a4, rfl, rfl, rfl, w4⟩ := open_int Tryz.underlying3 (hval 4 3 v4 rfl rfl) h4
  obtain ⟨E, hE0⟩ := env_of_laid_mid 1 24 hL (by kernel_rfl) (by kernel_rfl) (by kernel_rfl)
  have hE := envM_of hE0 hSh

  clear hA0 hval0
  simp only [List.append_nil] at hW'
  refine (treeplays_any (fun _ hb => rd0.below hb) ok0 ln0 hE a1 a2 a3 a4 (in64_ac w3) (in64_ac w4)).mono fun e W' ⟨he, bel⟩ => ?_
  subst he
  refine ⟨_, rfl, _, _, _, [], p0 ++ ([] ++ ([] ++ ([] ++ ([] ++ ([]))))), [], hW', trodAll_mk1 (shut_bool Tryz.underlying4 _), ?_, rfl, bel.frame _, fun h => by cases h⟩
  exact trodAll_cons_mk (k0 _ bel) (trodAll_cons_mk (Go.ChangeMaps.shut_string Tryz.underlying9 w1) (trodAll_cons_mk (shut_bool Tryz.underlying4 _) (trodAll_cons_mk (shut_int Tryz.underlying3 w3) (trodAll_cons_mk (shut_int Tryz.underlying3 w4) trodAll_mk0))))
theorem over : Rows.treePlaysRow.holds Tryz.pinned (OpenSpec.ofChange Rows.treePlaysSpec) :=
  OpenClaim.holds_of_wide 6 Tryz.f6 rfl rfl rfl rfl rfl rfl rfl ⟨rfl, rfl, rfl, rfl, rfl⟩ rfl rfl rfl rfl rfl (by kernel_rfl) Tryz.func6 joined inst wrap
    (fun os started H enc _ => lifted os started H enc)
theorem proved : Rows.TreePlaysCardSaid :=
  Claim7.holds_tied_plain_at .later [] Rows.treePlaysCard.laidKinds true Rows.treePlaysCard.stood.harness true
    over (fun _ h => by cases h) (by kernel_rfl) (fun _ h => by cases h) treePlays_row_tie rfl ⟨rfl, rfl⟩ (by kernel_rfl) rfl
    (fun f fn hf hfn => by
      obtain rfl : f = 6 := Option.some.inj ((show Tryz.prog.funcNamed "breviary/breviarylaw19.TreePlays" = some 6 by kernel_rfl).symm.trans hf) |>.symm
      obtain rfl : fn = Tryz.f6 := (Option.some.inj (Tryz.func6.symm.trans hfn)).symm
      exact ⟨by kernel_rfl, fun j t ht => by
        rw [Tryz.params6] at ht
        have hm : t ∈ [22, 9, 4, 3, 3] := by
          have := Array.mem_of_getElem? ht
          simpa using this
        have hall : [22, 9, 4, 3, 3].all (fun t => !(Tryz.prog.wantsStandIn t)) = true := by kernel_rfl
        have h := (List.all_eq_true.1 hall) t hm
        simp only [Bool.not_eq_true'] at h
        exact h⟩)
    (by kernel_rfl)
#print axioms proved
end Go.Proofs.YtnkcbogikaebfaaGreatDoor.treePlays
end
