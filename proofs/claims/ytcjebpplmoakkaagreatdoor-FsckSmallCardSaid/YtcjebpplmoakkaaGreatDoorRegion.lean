/- A region that draws its order: one walk in the order of the text serves every order, also where operations make memory: each operation yields a value that is fixed, or one that meets a relation which later steps keep. Conditions: the edges go back, each slot has one writer, which is ordered against whoever looks at the slot (a closed Bool). -/
import Derived.Orders
import Derived.Tactics
import Derived.Tactics2
import Derived.KernelRfl
namespace Go.Proofs.YtcjebpplmoakkaaGreatDoor
open Go

/-- What an operation of the plan does: 'none': it is passed over; 'inl v': its value is v; 'inr V': its value meets V, which may speak of the slots that the operation looks at. -/
abbrev Item := Option (Value ⊕ (Act → Value → World → Prop))
/-- V speaks of those slots alone. -/
def predB (ops : Array Oper) (i j : Nat) : Bool :=
  match ops[i]? with
  | some o => o.after.any (fun e => Region.binds .any e && e.on == j)
  | none => false
/-- What is known to operation k: the slots that it looks at, and those of operations that it waits for. -/
def sees (ops : Array Oper) (k : Nat) (o : Oper) (d : Tmp) : Prop := d ∈ o.looksAt ops ∨ ∃ j, predB ops k j = true ∧ (ops[j]?).bind (·.dst) = some d
def VLoc (ops : Array Oper) (k : Nat) (o : Oper) (V : Act → Value → World → Prop) : Prop := ∀ b b' : Act, (∀ d, sees ops k o d → b.tmps[d]? = b'.tmps[d]?) → ∀ v w, V b v w → V b' v w

def relB (ops : Array Oper) : Bool :=
  Region.noSelect ops &&
  (List.range ops.size).all fun i => match ops[i]? with
    | none => true
    | some o => o.after.all (fun e => !Region.binds .any e || decide (e.on < i)) &&
      (List.range ops.size).all fun j => j == i || match ops[j]? with
        | none => true
        | some p => match p.dst with
          | none => true
          | some d => o.dst != some d && (!(o.looksAt ops).contains d || (decide (j < i) && predB ops i j) || (decide (i < j) && predB ops j i))

/-- What is asked of an operation's run: a value, or a call that returns one. -/
def giv (P : Program) (o : Oper) (a : Act) (w : World) (R : Value → World → Prop) : Prop :=
  match (execOp a.eval o).run P w with
  | .ok (.value v) w' => R v w'
  | .ok .skip w' => R undef w'
  | .ok (.enter f args) w' => Calls P f args w' (fun e w'' => ∃ v, e = .returned v ∧ R v w'')
  | _ => False

section
variable (P : Program) (ops : Array Oper) (C : World → Prop) (E : World → World → Prop) (Q : Act → World → Prop)

def wpRel : List Item → Nat → List (Nat × (World → Prop)) → List Oper → Act → Prop
  | [], _, fs, [], a => ∀ w, C w → (∀ f ∈ fs, f.2 w) → Q a w
  | none :: ps, k, fs, o :: l, a => Region.wanted o (yielded ops a.tmps) = false ∧ wpRel ps (k + 1) fs l (a.put o.dst undef)
  | some (.inl v) :: ps, k, fs, o :: l, a => Region.wanted o (yielded ops a.tmps) = true ∧
      (∀ w, C w → (∀ f ∈ fs, predB ops k f.1 = true → f.2 w) → giv P o a w (fun u w' => u = v ∧ E w w')) ∧ wpRel ps (k + 1) fs l (a.put o.dst v)
  | some (.inr V) :: ps, k, fs, o :: l, a => Region.wanted o (yielded ops a.tmps) = true ∧ ((∀ b v w w', V b v w → E w w' → V b v w') ∧ VLoc ops k o V) ∧
      (∀ w, C w → (∀ f ∈ fs, predB ops k f.1 = true → f.2 w) → giv P o a w (fun u w' => V a u w' ∧ E w w')) ∧ ∀ v, wpRel ps (k + 1) ((k, V a v) :: fs) l (a.put o.dst v)
  | _, _, _, _, _ => False
end

section
variable {P : Program} {ops : Array Oper} {C : World → Prop} {E : World → World → Prop} {Q : Act → World → Prop}
variable {k : Nat} {fs : List (Nat × (World → Prop))} {o : Oper} {l : List Oper} {a : Act} {ps : List Item}

theorem giv_mono {w : World} {R R' : Value → World → Prop} (h : ∀ v w', R v w' → R' v w') (hh : giv P o a w R) : giv P o a w R' := by
  unfold giv at *
  split
  · rename_i heq; rw [heq] at hh; exact h _ _ hh
  · rename_i heq; rw [heq] at hh; exact h _ _ hh
  · rename_i heq; rw [heq] at hh; exact hh.mono fun e w'' ⟨v, he, hv⟩ => ⟨v, he, h _ _ hv⟩
  · rename_i h1 h2 h3
    split at hh
    · rename_i heq; exact absurd heq (h1 _ _)
    · rename_i heq; exact absurd heq (h2 _)
    · rename_i heq; exact absurd heq (h3 _ _ _)
    · exact hh

theorem wpRel_nil (h : ∀ w, C w → (∀ f ∈ fs, f.2 w) → Q a w) : wpRel P ops C E Q [] k fs [] a := h
theorem wpRel_skip (hw : Region.wanted o (yielded ops a.tmps) = false) (h : wpRel P ops C E Q ps (k + 1) fs l (a.put o.dst undef)) :
    wpRel P ops C E Q (none :: ps) k fs (o :: l) a := ⟨hw, h⟩
theorem wpRel_fix {v : Value} (hw : Region.wanted o (yielded ops a.tmps) = true)
    (h : ∀ w, C w → (∀ f ∈ fs, predB ops k f.1 = true → f.2 w) → ∀ R : Value → World → Prop, (∀ w', E w w' → R v w') → giv P o a w R)
    (hr : wpRel P ops C E Q ps (k + 1) fs l (a.put o.dst v)) : wpRel P ops C E Q (some (.inl v) :: ps) k fs (o :: l) a :=
  ⟨hw, fun w hc hf => h w hc hf _ (fun _ he => ⟨rfl, he⟩), hr⟩
theorem wpRel_rel (V : Value → World → Prop) (hw : Region.wanted o (yielded ops a.tmps) = true) (hV : ∀ v w w', V v w → E w w' → V v w')
    (h : ∀ w, C w → (∀ f ∈ fs, predB ops k f.1 = true → f.2 w) → ∀ R : Value → World → Prop, (∀ v w', V v w' → E w w' → R v w') → giv P o a w R)
    (hr : ∀ v, wpRel P ops C E Q ps (k + 1) ((k, V v) :: fs) l (a.put o.dst v)) : wpRel P ops C E Q (some (.inr fun _ => V) :: ps) k fs (o :: l) a :=
  ⟨hw, ⟨fun _ => hV, fun _ _ _ _ _ h => h⟩, fun w hc hf => h w hc hf _ (fun _ _ hv he => ⟨hv, he⟩), hr⟩
/-- A relation that speaks of a slot that the operation looks at. -/
theorem wpRel_dep (d : Nat) (V : Value → World → Prop) (hw : Region.wanted o (yielded ops a.tmps) = true) (hd : (o.looksAt ops).contains d = true) (hV : ∀ v w w', V v w → E w w' → V v w')
    (h : ∀ w, C w → (∀ f ∈ fs, predB ops k f.1 = true → f.2 w) → ∀ R : Value → World → Prop, (∀ v w', V (a.tmps.getD d undef) w' → E w w' → R v w') → giv P o a w R)
    (hr : ∀ v, wpRel P ops C E Q ps (k + 1) ((k, V (a.tmps.getD d undef)) :: fs) l (a.put o.dst v)) : wpRel P ops C E Q (some (.inr fun b _ => V (b.tmps.getD d undef)) :: ps) k fs (o :: l) a :=
  ⟨hw, ⟨fun b _ => hV _, fun b b' hb v w hv => by
      have hm : d ∈ o.looksAt ops := by simpa using hd
      have he : b.tmps.getD d undef = b'.tmps.getD d undef := by rw [Array.getD_eq_getD_getElem?, Array.getD_eq_getD_getElem?, hb d (.inl hm)]
      show V (b'.tmps.getD d undef) w
      rw [← he]; exact hv⟩, fun w hc hf => h w hc hf _ (fun _ _ hv he => ⟨hv, he⟩), hr⟩
/-- .. or of the slot of an operation j that it waits for. -/
theorem wpRel_pre (j d : Nat) (V : Value → World → Prop) (hw : Region.wanted o (yielded ops a.tmps) = true) (hp : predB ops k j = true) (hd : (ops[j]?).bind (·.dst) = some d) (hV : ∀ v w w', V v w → E w w' → V v w')
    (h : ∀ w, C w → (∀ f ∈ fs, predB ops k f.1 = true → f.2 w) → ∀ R : Value → World → Prop, (∀ v w', V (a.tmps.getD d undef) w' → E w w' → R v w') → giv P o a w R)
    (hr : ∀ v, wpRel P ops C E Q ps (k + 1) ((k, V (a.tmps.getD d undef)) :: fs) l (a.put o.dst v)) : wpRel P ops C E Q (some (.inr fun b _ => V (b.tmps.getD d undef)) :: ps) k fs (o :: l) a :=
  ⟨hw, ⟨fun b _ => hV _, fun b b' hb v w hv => by
      have he : b.tmps.getD d undef = b'.tmps.getD d undef := by rw [Array.getD_eq_getD_getElem?, Array.getD_eq_getD_getElem?, hb d (.inr ⟨j, hp, hd⟩)]
      show V (b'.tmps.getD d undef) w
      rw [← he]; exact hv⟩, fun w hc hf => h w hc hf _ (fun _ _ hv he => ⟨hv, he⟩), hr⟩
end

/-! ### the proof -/
section
variable (ops : Array Oper) (plan : List Item) (vals : Nat → Value) (a0 : Act)

def rVal (k : Nat) : Value :=
  match plan[k]? with
  | some (some (.inl v)) => v
  | some (some (.inr _)) => vals k
  | _ => undef

def rDst (k : Nat) : Option Tmp := (ops[k]?).bind (·.dst)

def rFrame : Nat → Act
  | 0 => a0
  | k + 1 => (rFrame k).put (rDst ops k) (rVal plan vals k)
end

section
variable {P : Program} {ops : Array Oper} {C : World → Prop} {E : World → World → Prop} {Q : Act → World → Prop} {plan : List Item} {vals : Nat → Value} {a0 : Act}

theorem rFrame_defers : ∀ k, (rFrame ops plan vals a0 k).defers = a0.defers
  | 0 => rfl
  | k + 1 => by
    simp only [rFrame]
    cases rDst ops k <;> exact rFrame_defers k

theorem rFrame_size : ∀ k, (rFrame ops plan vals a0 k).tmps.size = a0.tmps.size
  | 0 => rfl
  | k + 1 => by
    simp only [rFrame]
    cases rDst ops k with
    | none => exact rFrame_size k
    | some d => simp [Act.put, rFrame_size k]

theorem rFrame_keep {d : Nat} : ∀ k, (∀ j, j < k → rDst ops j ≠ some d) → (rFrame ops plan vals a0 k).tmps[d]? = a0.tmps[d]?
  | 0, _ => rfl
  | k + 1, h => by
    simp only [rFrame]
    cases hd : rDst ops k with
    | none => exact rFrame_keep k fun j hj => h j (by omega)
    | some e =>
      have hne : e ≠ d := fun he => h k (by omega) (by rw [hd, he])
      simp only [Act.put, Array.getElem?_setIfInBounds_ne hne]
      exact rFrame_keep k fun j hj => h j (by omega)

theorem rFrame_put {d j : Nat} (hj : rDst ops j = some d) : ∀ k, j < k → (∀ i, i < k → i ≠ j → rDst ops i ≠ some d) →
    (rFrame ops plan vals a0 k).tmps[d]? = if d < a0.tmps.size then some (rVal plan vals j) else none
  | 0, h, _ => by omega
  | k + 1, h, hu => by
    simp only [rFrame]
    by_cases hjk : j = k
    · subst hjk
      simp only [hj, Act.put]
      rw [Array.getElem?_setIfInBounds_self, rFrame_size]
    · cases hd : rDst ops k with
      | none => exact rFrame_put hj k (by omega) fun i hi => hu i (by omega)
      | some e =>
        have hne : e ≠ d := fun he => hu k (by omega) (by omega) (by rw [hd, he])
        simp only [Act.put, Array.getElem?_setIfInBounds_ne hne]
        exact rFrame_put hj k (by omega) fun i hi => hu i (by omega)

/-- What 'relB' says. -/
structure RelOk (ops : Array Oper) : Prop where
  sel : ∀ (j : Nat) (o : Oper) (cs : Array SelectCase) (b : Bool), ops[j]? = some o → o.op ≠ .select cs b
  back : ∀ (i : Nat) (o : Oper), ops[i]? = some o → ∀ e ∈ o.after, Region.binds .any e = true → e.on < i
  uniq : ∀ i j d, rDst ops i = some d → rDst ops j = some d → i = j
  look : ∀ (i : Nat) (o : Oper), ops[i]? = some o → ∀ d ∈ o.looksAt ops, ∀ j, j ≠ i → rDst ops j = some d → (j < i ∧ predB ops i j = true) ∨ (i < j ∧ predB ops j i = true)

theorem relOk_of (h : relB ops = true) : RelOk ops := by
  unfold relB at h
  rw [Bool.and_eq_true] at h
  obtain ⟨hs, h⟩ := h
  have hall : ∀ i o, ops[i]? = some o → (∀ e ∈ o.after, Region.binds .any e = true → e.on < i) ∧
      ∀ j, j ≠ i → ∀ d, rDst ops j = some d → o.dst ≠ some d ∧ (d ∈ o.looksAt ops → (j < i ∧ predB ops i j = true) ∨ (i < j ∧ predB ops j i = true)) := by
    intro i o ho
    have hi : i < ops.size := (Array.getElem?_eq_some_iff.1 ho).1
    have h1 := List.all_eq_true.1 h i (List.mem_range.2 hi)
    simp only [ho, Bool.and_eq_true] at h1
    obtain ⟨h1, h2⟩ := h1
    refine ⟨fun e he hb => ?_, fun j hj d hd => ?_⟩
    · have := Array.all_eq_true_iff_forall_mem.1 h1 e he
      simpa [hb] using this
    · cases hp : ops[j]? with
      | none => simp [rDst, hp] at hd
      | some p =>
        have hpd : p.dst = some d := by simpa [rDst, hp] using hd
        have hj' : j < ops.size := (Array.getElem?_eq_some_iff.1 hp).1
        have h3 := List.all_eq_true.1 h2 j (List.mem_range.2 hj')
        simp only [hp, hpd, Bool.or_eq_true, beq_iff_eq, hj, false_or, Bool.and_eq_true, bne_iff_ne, ne_eq, Bool.not_eq_true', decide_eq_true_eq] at h3
        refine ⟨h3.1, fun hm => ?_⟩
        have hc : (o.looksAt ops).contains d = true := by simpa using hm
        rcases h3.2 with (h4 | h4) | h4
        · rw [hc] at h4; cases h4
        · exact .inl h4
        · exact .inr h4
  refine ⟨Region.noSelect_spec hs, fun i o ho => (hall i o ho).1, fun i j d hi hj => ?_, fun i o ho d hd j hj hjd => ((hall i o ho).2 j hj d hjd).2 hd⟩
  by_cases hij : i = j
  · exact hij
  · cases ho : ops[j]? with
    | none => simp [rDst, ho] at hj
    | some o =>
      have := ((hall j o ho).2 i hij d hi).1
      simp [rDst, ho] at hj
      exact absurd hj this

/-- What the walk in the text's order says of operation i. -/
def rOb (P : Program) (ops : Array Oper) (C : World → Prop) (E : World → World → Prop) (plan : List Item) (vals : Nat → Value) (a0 : Act) (i : Nat) (o : Oper) : Prop :=
  match plan[i]? with
  | some none => Region.wanted o (yielded ops (rFrame ops plan vals a0 i).tmps) = false
  | some (some (.inl v)) => Region.wanted o (yielded ops (rFrame ops plan vals a0 i).tmps) = true ∧
      ∀ w, C w → (∀ (j : Nat) (V : Act → Value → World → Prop), plan[j]? = some (some (.inr V)) → predB ops i j = true → V (rFrame ops plan vals a0 j) (vals j) w) → giv P o (rFrame ops plan vals a0 i) w (fun u w' => u = v ∧ E w w')
  | some (some (.inr V)) => Region.wanted o (yielded ops (rFrame ops plan vals a0 i).tmps) = true ∧ ((∀ b v w w', V b v w → E w w' → V b v w') ∧ VLoc ops i o V) ∧
      ∀ w, C w → (∀ (j : Nat) (V : Act → Value → World → Prop), plan[j]? = some (some (.inr V)) → predB ops i j = true → V (rFrame ops plan vals a0 j) (vals j) w) → giv P o (rFrame ops plan vals a0 i) w (fun u w' => V (rFrame ops plan vals a0 i) u w' ∧ E w w')
  | none => False

theorem rUnroll (T : Nat) (hT : T ≤ ops.size) : ∀ (ps : List Item) (k : Nat) (fs : List (Nat × (World → Prop))) (l : List Oper), k ≤ T → plan.drop k = ps → (ops.toList.take T).drop k = l →
    (∀ f ∈ fs, ∃ (j : Nat) (V : Act → Value → World → Prop), f = (j, V (rFrame ops plan vals a0 j) (vals j)) ∧ plan[j]? = some (some (.inr V))) → wpRel P ops C E Q ps k fs l (rFrame ops plan vals a0 k) →
    (∀ i o, k ≤ i → i < T → ops[i]? = some o → rOb P ops C E plan vals a0 i o) ∧
    (∀ w, C w → (∀ (j : Nat) (V : Act → Value → World → Prop), plan[j]? = some (some (.inr V)) → V (rFrame ops plan vals a0 j) (vals j) w) → Q (rFrame ops plan vals a0 T) w) := by
  intro ps
  induction ps with
  | nil =>
    intro k fs l hkT hp hl hf h
    cases l with
    | cons o l => exact h.elim
    | nil =>
      have hk : T ≤ k := by
        have := congrArg List.length hl
        simp at this
        omega
      obtain rfl : k = T := by omega
      refine ⟨fun i o hi hiT ho => absurd hiT (by omega), fun w hc hv => ?_⟩
      have h' : ∀ w, C w → (∀ f ∈ fs, f.2 w) → Q (rFrame ops plan vals a0 k) w := h
      refine h' w hc fun f hfm => ?_
      obtain ⟨j, V, rfl, hj⟩ := hf f hfm
      exact hv j V hj
  | cons it ps ih =>
    intro k fs l hkT hp hl hf h
    have hpk : plan[k]? = some it := by
      have := congrArg (fun l : List Item => l[0]?) hp
      simpa using this
    have hp' : plan.drop (k + 1) = ps := by
      have := congrArg List.tail hp
      simpa using this
    cases l with
    | nil => rcases it with _ | (_ | _) <;> exact h.elim
    | cons o l =>
      have hlk : (ops.toList.take T)[k]? = some o := by
        have := congrArg (fun l : List Oper => l[0]?) hl
        simpa using this
      have hkT' : k < T := by
        have := (List.getElem?_eq_some_iff.1 hlk).1
        simp at this
        omega
      have hok : ops[k]? = some o := by
        rw [List.getElem?_take, if_pos hkT'] at hlk
        simpa using hlk
      have hl' : (ops.toList.take T).drop (k + 1) = l := by
        have := congrArg List.tail hl
        simpa using this
      have hd : rDst ops k = o.dst := by simp [rDst, hok]
      have hnext : ∀ v, rVal plan vals k = v → rFrame ops plan vals a0 (k + 1) = (rFrame ops plan vals a0 k).put o.dst v := by
        intro v hv
        simp only [rFrame, hd, hv]
      have hfs : ∀ w, (∀ (j : Nat) (V : Act → Value → World → Prop), plan[j]? = some (some (.inr V)) → predB ops k j = true → V (rFrame ops plan vals a0 j) (vals j) w) → ∀ f ∈ fs, predB ops k f.1 = true → f.2 w := by
        intro w hw f hfm hpb
        obtain ⟨j, V, rfl, hj⟩ := hf f hfm
        exact hw j V hj hpb
      have fin : ∀ (fs' : List (Nat × (World → Prop))), (∀ f ∈ fs', ∃ (j : Nat) (V : Act → Value → World → Prop), f = (j, V (rFrame ops plan vals a0 j) (vals j)) ∧ plan[j]? = some (some (.inr V))) →
          wpRel P ops C E Q ps (k + 1) fs' l (rFrame ops plan vals a0 (k + 1)) → rOb P ops C E plan vals a0 k o →
          (∀ i o, k ≤ i → i < T → ops[i]? = some o → rOb P ops C E plan vals a0 i o) ∧
          (∀ w, C w → (∀ (j : Nat) (V : Act → Value → World → Prop), plan[j]? = some (some (.inr V)) → V (rFrame ops plan vals a0 j) (vals j) w) → Q (rFrame ops plan vals a0 T) w) := by
        intro fs' hf' h' hob
        obtain ⟨h1, h2⟩ := ih (k + 1) fs' l (by omega) hp' hl' hf' h'
        refine ⟨fun i o' hi hiT ho' => ?_, h2⟩
        by_cases hik : i = k
        · subst hik
          rw [hok] at ho'
          cases ho'
          exact hob
        · exact h1 i o' (by omega) hiT ho'
      rcases it with _ | (v | V)
      · obtain ⟨hw, hr⟩ : Region.wanted o (yielded ops (rFrame ops plan vals a0 k).tmps) = false ∧ wpRel P ops C E Q ps (k + 1) fs l ((rFrame ops plan vals a0 k).put o.dst undef) := h
        rw [← hnext undef (by simp [rVal, hpk])] at hr
        exact fin fs hf hr (by unfold rOb; simp only [hpk]; exact hw)
      · obtain ⟨hw, hg, hr⟩ : Region.wanted o (yielded ops (rFrame ops plan vals a0 k).tmps) = true ∧
          (∀ w, C w → (∀ f ∈ fs, predB ops k f.1 = true → f.2 w) → giv P o (rFrame ops plan vals a0 k) w (fun u w' => u = v ∧ E w w')) ∧ wpRel P ops C E Q ps (k + 1) fs l ((rFrame ops plan vals a0 k).put o.dst v) := h
        rw [← hnext v (by simp [rVal, hpk])] at hr
        exact fin fs hf hr (by unfold rOb; simp only [hpk]; exact ⟨hw, fun w hc hv => hg w hc (hfs w hv)⟩)
      · obtain ⟨hw, hst, hg, hr⟩ : Region.wanted o (yielded ops (rFrame ops plan vals a0 k).tmps) = true ∧ ((∀ b v w w', V b v w → E w w' → V b v w') ∧ VLoc ops k o V) ∧
          (∀ w, C w → (∀ f ∈ fs, predB ops k f.1 = true → f.2 w) → giv P o (rFrame ops plan vals a0 k) w (fun u w' => V (rFrame ops plan vals a0 k) u w' ∧ E w w')) ∧
          ∀ v, wpRel P ops C E Q ps (k + 1) ((k, V (rFrame ops plan vals a0 k) v) :: fs) l ((rFrame ops plan vals a0 k).put o.dst v) := h
        have hr := hr (vals k)
        rw [← hnext (vals k) (by simp [rVal, hpk])] at hr
        refine fin ((k, V (rFrame ops plan vals a0 k) (vals k)) :: fs) ?_ hr (by unfold rOb; simp only [hpk]; exact ⟨hw, hst, fun w hc hv => hg w hc (hfs w hv)⟩)
        intro f hfm
        rcases List.mem_cons.1 hfm with rfl | hfm
        · exact ⟨k, V, rfl, hpk⟩
        · exact hf f hfm

/-- The state in the midst of an order that the tape picked. -/
structure RInv (ops : Array Oper) (C : World → Prop) (plan : List Item) (a0 : Act) (T : Nat) (vals : Nat → Value) (listed : Array Bool) (a : Act) (w : World) : Prop where
  defers : a.defers = a0.defers
  size : a.tmps.size = a0.tmps.size
  lsize : listed.size = ops.size
  done : ∀ j d, rDst ops j = some d → listed.getD j false = true → a.tmps[d]? = if d < a0.tmps.size then some (rVal plan vals j) else none
  rest : ∀ d, (∀ j, rDst ops j = some d → listed.getD j false = false) → a.tmps[d]? = a0.tmps[d]?
  closed : ∀ (j : Nat) (o : Oper), ops[j]? = some o → listed.getD j false = true → ∀ e ∈ o.after, Region.binds .any e = true → listed.getD e.on false = true
  facts : ∀ (j : Nat) (V : Act → Value → World → Prop), plan[j]? = some (some (.inr V)) → listed.getD j false = true → V (rFrame ops plan vals a0 j) (vals j) w
  tail : ∀ i, T ≤ i → listed.getD i false = false
  cls : C w

theorem rAgree (hk : RelOk ops) {T : Nat} {listed : Array Bool} {a : Act} {w : World} (hI : RInv ops C plan a0 T vals listed a w) {i : Nat} {o : Oper} (ho : ops[i]? = some o)
    (hun : listed.getD i false = false) (hpre : ∀ e ∈ o.after, Region.binds .any e = true → listed.getD e.on false = true) :
    ∀ d ∈ o.looksAt ops, a.tmps[d]? = (rFrame ops plan vals a0 i).tmps[d]? := by
  intro d hd
  by_cases hex : ∃ j, j ≠ i ∧ rDst ops j = some d
  · obtain ⟨j, hji, hjd⟩ := hex
    rcases hk.look i o ho d hd j hji hjd with ⟨hlt, hp⟩ | ⟨hlt, hp⟩
    · have hlj : listed.getD j false = true := by
        unfold predB at hp
        simp only [ho] at hp
        obtain ⟨e, he, hb⟩ := Array.any_eq_true'.1 hp
        simp only [Bool.and_eq_true, beq_iff_eq] at hb
        rw [← hb.2]
        exact hpre e he hb.1
      rw [hI.done j d hjd hlj, rFrame_put hjd i hlt (fun m _ hmj hm => hmj (hk.uniq m j d hm hjd))]
    · have hlj : listed.getD j false = false := by
        cases hc : listed.getD j false with
        | false => rfl
        | true =>
          unfold predB at hp
          cases hoj : ops[j]? with
          | none => simp [hoj] at hp
          | some oj =>
            simp only [hoj] at hp
            obtain ⟨e, he, hb⟩ := Array.any_eq_true'.1 hp
            simp only [Bool.and_eq_true, beq_iff_eq] at hb
            have := hI.closed j oj hoj hc e he hb.1
            rw [hb.2, hun] at this
            cases this
      rw [hI.rest d (fun m hm => by rw [hk.uniq m j d hm hjd]; exact hlj),
        rFrame_keep i (fun m hm hmd => by have := hk.uniq m j d hmd hjd; omega)]
  · have hno : ∀ j, rDst ops j = some d → j = i := fun j hjd => Classical.byContradiction fun hne => hex ⟨j, hne, hjd⟩
    rw [hI.rest d (fun m hm => by rw [hno m hm]; exact hun), rFrame_keep i (fun m hm hmd => by have := hno m hmd; omega)]

theorem rFrame_congr {vals' : Nat → Value} : ∀ k, (∀ j, j < k → vals' j = vals j) → rFrame ops plan vals' a0 k = rFrame ops plan vals a0 k
  | 0, _ => rfl
  | k + 1, h => by
    have e1 := rFrame_congr k (fun j hj => h j (by omega))
    have e2 : rVal plan vals' k = rVal plan vals k := by unfold rVal; rw [h k (by omega)]
    simp only [rFrame, e1, e2]
/-- What an operation that is through looked at does not hang on one that is not. -/
theorem rLocal (hk : RelOk ops) {listed : Array Bool} {vals' : Nat → Value} (hcl : ∀ (j : Nat) (o : Oper), ops[j]? = some o → listed.getD j false = true → ∀ e ∈ o.after, Region.binds .any e = true → listed.getD e.on false = true)
    {i j : Nat} {oj : Oper} (hoj : ops[j]? = some oj) (hlj : listed.getD j false = true) (hun : listed.getD i false = false) (hv : ∀ m, m ≠ i → vals' m = vals m) :
    ∀ d, sees ops j oj d → (rFrame ops plan vals a0 j).tmps[d]? = (rFrame ops plan vals' a0 j).tmps[d]? := by
  intro d hd
  have hlook : ∀ m, m ≠ j → rDst ops m = some d → (m < j ∧ predB ops j m = true) ∨ (j < m ∧ predB ops m j = true) := fun m hmj hmd => by
    rcases hd with hd | ⟨q, hq, hqd⟩
    · exact hk.look j oj hoj d hd m hmj hmd
    · obtain rfl := hk.uniq q m d hqd hmd
      refine .inl ⟨?_, hq⟩
      unfold predB at hq
      simp only [hoj] at hq
      obtain ⟨e, he, hb⟩ := Array.any_eq_true'.1 hq
      simp only [Bool.and_eq_true, beq_iff_eq] at hb
      rw [← hb.2]
      exact hk.back j oj hoj e he hb.1
  by_cases hex : ∃ m, m ≠ j ∧ rDst ops m = some d
  · obtain ⟨m, hmj, hmd⟩ := hex
    rcases hlook m hmj hmd with ⟨hlt, hp⟩ | ⟨hlt, hp⟩
    · have hlm : listed.getD m false = true := by
        unfold predB at hp
        simp only [hoj] at hp
        obtain ⟨e, he, hb⟩ := Array.any_eq_true'.1 hp
        simp only [Bool.and_eq_true, beq_iff_eq] at hb
        rw [← hb.2]
        exact hcl j oj hoj hlj e he hb.1
      have hmi : m ≠ i := by rintro rfl; rw [hun] at hlm; cases hlm
      have e2 : rVal plan vals' m = rVal plan vals m := by unfold rVal; rw [hv m hmi]
      rw [rFrame_put hmd j hlt (fun n _ hnm hn => hnm (hk.uniq n m d hn hmd)), rFrame_put hmd j hlt (fun n _ hnm hn => hnm (hk.uniq n m d hn hmd)), e2]
    · rw [rFrame_keep j (fun n hn hnd => by have := hk.uniq n m d hnd hmd; omega), rFrame_keep j (fun n hn hnd => by have := hk.uniq n m d hnd hmd; omega)]
  · have hno : ∀ m, rDst ops m = some d → m = j := fun m hmd => Classical.byContradiction fun hne => hex ⟨m, hne, hmd⟩
    rw [rFrame_keep j (fun n hn hnd => by have := hno n hnd; omega), rFrame_keep j (fun n hn hnd => by have := hno n hnd; omega)]

theorem rEval {a b : Act} {o : Oper} (h : ∀ d ∈ o.looksAt ops, a.tmps[d]? = b.tmps[d]?) : (∀ x ∈ o.op.operands, a.eval x = b.eval x) ∧
    Region.wanted o (yielded ops a.tmps) = Region.wanted o (yielded ops b.tmps) := by
  refine ⟨fun x hx => ?_, ?_⟩
  · cases x with
    | tmp t =>
      have ht := h t (List.mem_append_left _ (List.mem_filterMap.2 ⟨.tmp t, by simpa using hx, rfl⟩))
      simp only [Act.eval, Array.getD_eq_getD_getElem?, ht]
    | _ => rfl
  · unfold Region.wanted
    cases hg : o.guard with
    | none => rfl
    | some gw =>
      obtain ⟨g, want⟩ := gw
      have hy : yielded ops a.tmps g = yielded ops b.tmps g := by
        unfold yielded
        cases ht : (ops[g]?).bind (·.dst) with
        | none => rfl
        | some t =>
          have := h t (by simp [Oper.looksAt, hg, ht])
          simp only [Option.bind_some, this]
      simp only [hy]

theorem rSet {listed : Array Bool} {i j : Nat} (hi : i < listed.size) : (listed.setIfInBounds i true).getD j false = if j = i then true else listed.getD j false := by
  by_cases h : j = i
  · subst h; simp [hi]
  · simp [h, Array.getElem?_setIfInBounds_ne (Ne.symm h)]

/-- Behind operation i. -/
theorem rStep (hk : RelOk ops) {T : Nat} {listed : Array Bool} {a : Act} {w w' : World} (hI : RInv ops C plan a0 T vals listed a w) {i : Nat} {o : Oper} (ho : ops[i]? = some o) (hiT : i < T)
    (hun : listed.getD i false = false) (hpre : ∀ e ∈ o.after, Region.binds .any e = true → listed.getD e.on false = true) (vals' : Nat → Value) (hv : ∀ j, j ≠ i → vals' j = vals j)
    (hc : C w') (hf : ∀ (j : Nat) (V : Act → Value → World → Prop), plan[j]? = some (some (.inr V)) → (j = i ∨ listed.getD j false = true) → V (rFrame ops plan vals' a0 j) (vals' j) w') :
    RInv ops C plan a0 T vals' (listed.setIfInBounds i true) (a.put o.dst (rVal plan vals' i)) w' := by
  have hi : i < listed.size := by rw [hI.lsize]; exact (Array.getElem?_eq_some_iff.1 ho).1
  have hd : rDst ops i = o.dst := by simp [rDst, ho]
  have hval : ∀ j, j ≠ i → rVal plan vals' j = rVal plan vals j := fun j hj => by unfold rVal; rw [hv j hj]
  refine ⟨?_, ?_, by simp [hI.lsize], fun j d hj hl => ?_, fun d hall => ?_, fun j oj hj hl e he hb => ?_, fun j V hj hl => ?_, fun j hj => ?_, hc⟩
  · cases o.dst <;> exact hI.defers
  · cases o.dst with
    | none => exact hI.size
    | some d => simp [Act.put, hI.size]
  · rw [rSet hi] at hl
    by_cases hji : j = i
    · subst hji
      rw [hd] at hj
      rw [hj]
      simp only [Act.put, Array.getElem?_setIfInBounds_self, hI.size]
    · simp only [hji, if_false] at hl
      rw [hval j hji]
      have := hI.done j d hj hl
      cases hod : o.dst with
      | none => exact this
      | some e =>
        have hne : e ≠ d := fun he => hji (hk.uniq j i d hj (by rw [hd, hod, he]))
        simp only [Act.put, Array.getElem?_setIfInBounds_ne hne]
        exact this
  · have hni : o.dst ≠ some d := fun h => by
      have := hall i (by rw [hd, h])
      rw [rSet hi] at this
      simp at this
    have h1 : a.tmps[d]? = a0.tmps[d]? := hI.rest d fun j hj => by
      have := hall j hj
      rw [rSet hi] at this
      by_cases hji : j = i
      · simp [hji] at this
      · simpa [hji] using this
    cases hod : o.dst with
    | none => exact h1
    | some e =>
      have hne : e ≠ d := fun he => hni (by rw [hod, he])
      simp only [Act.put, Array.getElem?_setIfInBounds_ne hne]
      exact h1
  · rw [rSet hi] at hl ⊢
    by_cases hji : j = i
    · subst hji
      rw [ho] at hj
      cases hj
      by_cases h1 : e.on = j
      · simp [h1]
      · simpa [h1] using hpre e he hb
    · simp only [hji, if_false] at hl
      by_cases h1 : e.on = i
      · simp [h1]
      · simpa [h1] using hI.closed j oj hj hl e he hb
  · rw [rSet hi] at hl
    refine hf j V hj ?_
    by_cases hji : j = i
    · exact .inl hji
    · exact .inr (by simpa [hji] using hl)
  · rw [rSet hi]
    have hji : j ≠ i := by omega
    simp only [hji, if_false]
    exact hI.tail j hj

theorem rCount (l : List Bool) : ∀ i, l[i]? = some false → (l.set i true).count false + 1 = l.count false := by
  induction l with
  | nil => intro i h; simp at h
  | cons b l ih =>
    intro i h
    cases i with
    | zero =>
      simp at h
      subst h
      simp
    | succ i =>
      have := ih i (by simpa using h)
      simp only [List.set_cons_succ, List.count_cons]
      omega

theorem rAll (hk : RelOk ops) {listed : Array Bool} (hs : listed.size = ops.size) (hr : Region.ready .any ops listed = []) : ∀ i, i < ops.size → listed.getD i false = true := by
  intro i
  induction i using Nat.strongRecOn with
  | _ i ih =>
    intro hi
    cases hc : listed.getD i false with
    | true => rfl
    | false =>
      have ho : ops[i]? = some ops[i] := Array.getElem?_eq_getElem hi
      have hm : i ∈ Region.ready .any ops listed := by
        refine mem_ready.2 ⟨?_, ops[i], ho, fun e he hb => ?_⟩
        · simp [hs, hi] at hc ⊢
          exact hc
        · have hlt := hk.back i _ ho e he hb
          exact ih e.on hlt (by omega)
      rw [hr] at hm
      cases hm

/-- Is j waited for by i, through others perhaps? -/
def reachB (ops : Array Oper) : Nat → Nat → Nat → Bool
  | 0, _, _ => false
  | n + 1, i, j => match ops[i]? with
    | some o => o.after.any (fun e => Region.binds .any e && (e.on == j || reachB ops n e.on j))
    | none => false
theorem reach_listed {listed : Array Bool} (hcl : ∀ (j : Nat) (o : Oper), ops[j]? = some o → listed.getD j false = true → ∀ e ∈ o.after, Region.binds .any e = true → listed.getD e.on false = true) {j : Nat} :
    ∀ (n i : Nat) (o : Oper), ops[i]? = some o → (∀ e ∈ o.after, Region.binds .any e = true → listed.getD e.on false = true) → reachB ops n i j = true → listed.getD j false = true
  | 0, _, _, _, _, h => by simp [reachB] at h
  | n + 1, i, o, ho, hpre, h => by
    simp only [reachB, ho] at h
    obtain ⟨e, he, hb⟩ := Array.any_eq_true'.1 h
    simp only [Bool.and_eq_true, Bool.or_eq_true, beq_iff_eq] at hb
    obtain ⟨hb, rfl | hr⟩ := hb
    · exact hpre e he hb
    · cases ho' : ops[e.on]? with
      | none =>
        cases n with
        | zero => simp [reachB] at hr
        | succ n => simp [reachB, ho'] at hr
      | some o' => exact reach_listed hcl n e.on o' ho' (hcl e.on o' ho' (hpre e he hb)) hr

theorem rMain (hk : RelOk ops) (T : Nat) (hTs : T ≤ ops.size) (htail : ∀ i o, T ≤ i → ops[i]? = some o → (∀ j, j + 1 = i → T ≤ j → ∃ e ∈ o.after, Region.binds .any e = true ∧ e.on = j) ∧ ∀ j, j < T → reachB ops 8 i j = true) (hP : ∀ (j : Nat) (V : Act → Value → World → Prop), plan[j]? = some (some (.inr V)) → j < T) (hCE : ∀ w w', C w → E w w' → C w') {Q' : Exit → Act → World → Prop}
    (hOb : ∀ vals i o, i < T → ops[i]? = some o → rOb P ops C E plan vals a0 i o)
    (hQ : ∀ vals w, C w → (∀ (j : Nat) (V : Act → Value → World → Prop), plan[j]? = some (some (.inr V)) → V (rFrame ops plan vals a0 j) (vals j) w) → wpList P ops Q' (ops.toList.drop T) (rFrame ops plan vals a0 T) w) :
    ∀ (fuel : Nat) (listed : Array Bool) (vals : Nat → Value) (a : Act) (w : World), listed.toList.count false = fuel → RInv ops C plan a0 T vals listed a w →
      wpAny P .any ops Q' fuel listed a w := by
  have hstab : ∀ (j : Nat) (V : Act → Value → World → Prop), plan[j]? = some (some (.inr V)) → ∀ b v w w', V b v w → E w w' → V b v w' := by
    intro j V hj
    have h := hOb (fun _ => undef) j _ (hP j V hj) (Array.getElem?_eq_getElem (Nat.lt_of_lt_of_le (hP j V hj) hTs))
    unfold rOb at h
    simp only [hj] at h
    exact h.2.1.1
  have hloc : ∀ (j : Nat) (V : Act → Value → World → Prop), plan[j]? = some (some (.inr V)) → ∃ oj, ops[j]? = some oj ∧ VLoc ops j oj V := by
    intro j V hj
    have ho := Array.getElem?_eq_getElem (Nat.lt_of_lt_of_le (hP j V hj) hTs)
    have h := hOb (fun _ => undef) j _ (hP j V hj) ho
    unfold rOb at h
    simp only [hj] at h
    exact ⟨_, ho, h.2.1.2⟩
  have hfin : ∀ (listed : Array Bool) (vals : Nat → Value) (a : Act) (w : World), RInv ops C plan a0 T vals listed a w → (∀ i, i < T → listed.getD i false = true) → (∀ i, T ≤ i → listed.getD i false = false) →
      wpList P ops Q' (ops.toList.drop T) a w := by
    intro listed vals a w hI hall hno
    have hpl : ∀ (j : Nat) (V : Act → Value → World → Prop), plan[j]? = some (some (.inr V)) → V (rFrame ops plan vals a0 j) (vals j) w := fun j V hj =>
      hI.facts j V hj (hall j (hP j V hj))
    have ha : a = rFrame ops plan vals a0 T := by
      have ht : a.tmps = (rFrame ops plan vals a0 T).tmps := by
        apply Array.ext_getElem?
        intro d
        by_cases hex : ∃ j, j < T ∧ rDst ops j = some d
        · obtain ⟨j, hjT, hj⟩ := hex
          rw [hI.done j d hj (hall j hjT), rFrame_put hj _ hjT (fun m _ hmj hm => hmj (hk.uniq m j d hm hj))]
        · have hn : ∀ j, rDst ops j = some d → listed.getD j false = false := fun j hj => hno j (by
            rcases Nat.lt_or_ge j T with h | h
            · exact absurd ⟨j, h, hj⟩ hex
            · exact h)
          rw [hI.rest d hn, rFrame_keep _ (fun j hjT hj => hex ⟨j, hjT, hj⟩)]
      cases a
      have h2 := hI.defers
      have h3 := rFrame_defers (ops := ops) (plan := plan) (vals := vals) (a0 := a0) T
      generalize rFrame ops plan vals a0 T = b at *
      cases b
      simp_all
    rw [ha]
    exact hQ vals w hI.cls hpl
  -- the tail: whoever comes up from T on comes up in the text's order
  have htl : ∀ (m i : Nat), i + m = ops.size → T ≤ i → ∀ (fuel : Nat) (listed : Array Bool) (a : Act) (w : World), listed.size = ops.size → (∀ j, j < i → listed.getD j false = true) → (∀ j, i ≤ j → listed.getD j false = false) →
      m ≤ fuel → wpList P ops Q' (ops.toList.drop i) a w → wpAny P .any ops Q' fuel listed a w := by
    intro m
    induction m with
    | zero =>
      intro i hi hT fuel listed a w hs hlo hhi hm h
      have hr : Region.ready .any ops listed = [] := by
        rw [List.eq_nil_iff_forall_not_mem]
        intro x hx
        obtain ⟨h0, o, ho, _⟩ := mem_ready.1 hx
        have hxs : x < ops.size := (Array.getElem?_eq_some_iff.1 ho).1
        have := hlo x (by omega)
        simp [hs, hxs] at h0 this
        rw [this] at h0
        cases h0
      have hd : ops.toList.drop i = [] := by simp; omega
      rw [hd] at h
      cases fuel with
      | zero => exact ⟨hr, h⟩
      | succ f => exact ⟨fun _ => h, by rw [hr]; simp⟩
    | succ m ih =>
      intro i hi hT fuel listed a w hs hlo hhi hm h
      have hio : i < ops.size := by omega
      have ho : ops[i]? = some ops[i] := Array.getElem?_eq_getElem hio
      have hdrop : ops.toList.drop i = ops[i] :: ops.toList.drop (i + 1) := by
        rw [List.drop_eq_getElem_cons (by simpa using hio)]
        simp
      rw [hdrop] at h
      have hready : ∀ x ∈ Region.ready .any ops listed, x = i := by
        intro x hx
        obtain ⟨h0, o, hox, hpre⟩ := mem_ready.1 hx
        have hxs : x < ops.size := (Array.getElem?_eq_some_iff.1 hox).1
        rcases Nat.lt_trichotomy x i with hlt | rfl | hgt
        · have := hlo x hlt
          simp [hs, hxs] at h0 this
          rw [this] at h0
          cases h0
        · rfl
        · obtain ⟨e, he, hb, heq⟩ := (htail x o (by omega) hox).1 (x - 1) (by omega) (by omega)
          have h1 := hpre e he hb
          rw [heq] at h1
          have h2 := hhi (x - 1) (by omega)
          have hx1 : x - 1 < ops.size := by omega
          simp [hs, hx1] at h1 h2
          rw [h2] at h1
          cases h1
      have hmem : i ∈ Region.ready .any ops listed := by
        refine mem_ready.2 ⟨?_, ops[i], ho, fun e he hb => hlo e.on (hk.back i _ ho e he hb)⟩
        have := hhi i (Nat.le_refl _)
        simp [hs, hio] at this ⊢
        exact this
      cases fuel with
      | zero => omega
      | succ f =>
        refine ⟨fun hr => by rw [hr] at hmem; simp at hmem, fun x hx => ?_⟩
        obtain rfl := hready x hx
        have hK : ∀ a w, wpList P ops Q' (ops.toList.drop (x + 1)) a w → wpAny P .any ops Q' f (listed.setIfInBounds x true) a w := by
          intro a' w' h'
          refine ih (x + 1) (by omega) (by omega) f _ a' w' (by simp [hs]) (fun j hj => ?_) (fun j hj => ?_) (by omega) h'
          · rw [rSet (by omega)]
            by_cases hjx : j = x
            · simp [hjx]
            · simp only [hjx, if_false]; exact hlo j (by omega)
          · rw [rSet (by omega)]
            have hjx : j ≠ x := by omega
            simp only [hjx, if_false]; exact hhi j (by omega)
        refine wpOp_mono hK ?_
        unfold wpOp
        simp only [ho]
        exact h
  intro fuel
  induction fuel with
  | zero =>
    intro listed vals a w hcnt hI
    have hall : ∀ i, i < ops.size → listed.getD i false = true := by
      intro i hi
      cases hc : listed.getD i false with
      | true => rfl
      | false =>
        have his : i < listed.size := by rw [hI.lsize]; exact hi
        have hmem : false ∈ listed.toList := by
          rw [List.mem_iff_getElem?]
          exact ⟨i, by simp [his] at hc ⊢; exact hc⟩
        have := List.count_pos_iff.2 hmem
        omega
    rcases Nat.lt_or_ge T ops.size with hlt | hge
    · exact absurd (hall T hlt) (by rw [hI.tail T (Nat.le_refl _)]; simp)
    · exact htl 0 T (by omega) (Nat.le_refl _) 0 listed a w hI.lsize (fun j hj => hall j (by omega)) (fun j hj => hI.tail j hj) (Nat.le_refl _) (hfin listed vals a w hI (fun j hj => hall j (by omega)) hI.tail)
  | succ fuel ih =>
    intro listed vals a w hcnt hI
    by_cases hdone : ∀ i, i < T → listed.getD i false = true
    · refine htl (ops.size - T) T (by omega) (Nat.le_refl _) _ listed a w hI.lsize hdone hI.tail ?_ (hfin listed vals a w hI hdone hI.tail)
      have h1 : ops.size - T ≤ listed.toList.count false := by
        have e : listed.toList = listed.toList.take T ++ listed.toList.drop T := (List.take_append_drop _ _).symm
        rw [e, List.count_append]
        have h2 : (listed.toList.drop T).count false = (listed.toList.drop T).length := by
          rw [List.count_eq_length]
          intro b hb
          obtain ⟨n, hn⟩ := List.mem_iff_getElem?.1 hb
          have hn' : listed.toList[T + n]? = some b := by simpa using hn
          have hlt : T + n < listed.size := by simpa using (List.getElem?_eq_some_iff.1 hn').1
          have := hI.tail (T + n) (by omega)
          simp [hlt] at this hn'
          rw [← hn', this]
        rw [h2]
        simp [hI.lsize]
      omega
    refine ⟨fun hr => absurd (fun i hi => rAll hk hI.lsize hr i (by omega)) hdone, fun i hi => ?_⟩
    obtain ⟨h0, o, ho, hpre⟩ := mem_ready.1 hi
    have hiT : i < T := by
      rcases Nat.lt_or_ge i T with h | h
      · exact h
      · refine absurd (fun j hj => ?_) hdone
        exact reach_listed hI.closed 8 i o ho hpre ((htail i o h ho).2 j hj)
    have hio : i < ops.size := (Array.getElem?_eq_some_iff.1 ho).1
    have his : i < listed.size := by rw [hI.lsize]; exact hio
    have hun : listed.getD i false = false := by simp [his] at h0 ⊢; exact h0
    have hpre' : ∀ e ∈ o.after, Region.binds .any e = true → listed.getD e.on false = true := hpre
    have hcnt' : (listed.setIfInBounds i true).toList.count false = fuel := by
      have h1 : listed.toList[i]? = some false := by simp [his] at hun ⊢; exact hun
      have := rCount listed.toList i h1
      simp only [Array.toList_setIfInBounds]
      omega
    obtain ⟨hev, hwt⟩ := rEval (rAgree hk hI ho hun hpre')
    have hex : execOp a.eval o = execOp (rFrame ops plan vals a0 i).eval o := execOp_congr o (hk.sel i o · · ho) hev
    have hgv : ∀ (w : World) R, giv P o (rFrame ops plan vals a0 i) w R → giv P o a w R := fun w R h => by
      unfold giv at h ⊢
      rw [hex]
      exact h
    have hfs : ∀ (j : Nat) (V : Act → Value → World → Prop), plan[j]? = some (some (.inr V)) → predB ops i j = true → V (rFrame ops plan vals a0 j) (vals j) w := by
      intro j V hj hp
      unfold predB at hp
      simp only [ho] at hp
      obtain ⟨e, he, hb⟩ := Array.any_eq_true'.1 hp
      simp only [Bool.and_eq_true, beq_iff_eq] at hb
      exact hI.facts j V hj (by rw [← hb.2]; exact hpre e he hb.1)
    have hob := hOb vals i o hiT ho
    -- what follows once the operation has yielded
    have hgo : ∀ {R : Value → World → Prop}, giv P o a w R → (∀ v w', R v w' → wpAny P .any ops Q' fuel (listed.setIfInBounds i true) (a.put o.dst v) w') →
        o.wp P a w (wpAny P .any ops Q' fuel (listed.setIfInBounds i true)) Q' := by
      intro R hg hn
      unfold giv at hg
      unfold Oper.wp Oper.upon
      cases hrun : (execOp a.eval o).run P w with
      | halt x w' => rw [hrun] at hg; exact hg.elim
      | ok n w' =>
        rw [hrun] at hg
        cases n with
        | value v => exact hn _ _ hg
        | skip => exact hn _ _ hg
        | enter f args =>
          refine Calls.mono hg fun e w'' ⟨v, he, hv⟩ => ?_
          subst he
          exact hn _ _ hv
        | _ => exact hg.elim
    unfold wpOp
    simp only [ho]
    unfold rOb at hob
    have hvi : ∀ (u : Nat → Value) (v : Value) (V : Act → Value → World → Prop), plan[i]? = some (some (.inr V)) → u i = v → rVal plan u i = v := by
      intro u v V hp hu
      simp [rVal, hp, hu]
    cases hp : plan[i]? with
    | none => simp only [hp] at hob
    | some it =>
      simp only [hp] at hob
      rcases it with _ | (v | V)
      · simp only [] at hob
        rw [hwt, hob]
        have hst := rStep (w' := w) hk hI ho hiT hun hpre' vals (fun _ _ => rfl) hI.cls (fun j V hj hl => by
          rcases hl with rfl | hl
          · rw [hp] at hj; cases hj
          · exact hI.facts j V hj hl)
        have e1 : rVal plan vals i = undef := by simp [rVal, hp]
        rw [e1] at hst
        exact ih _ vals _ _ hcnt' hst
      · obtain ⟨hw, hg⟩ := hob
        rw [hwt, hw]
        refine .inl (hgo (hgv w _ (hg w hI.cls hfs)) ?_)
        rintro u w' ⟨rfl, hE⟩
        have hst := rStep (w' := w') hk hI ho hiT hun hpre' vals (fun _ _ => rfl) (hCE w w' hI.cls hE) (fun j V hj hl => by
          rcases hl with rfl | hl
          · rw [hp] at hj; cases hj
          · exact hstab j V hj _ _ _ _ (hI.facts j V hj hl) hE)
        have e1 : rVal plan vals i = u := by simp [rVal, hp]
        rw [e1] at hst
        exact ih _ vals _ _ hcnt' hst
      · obtain ⟨hw, hst, hg⟩ := hob
        rw [hwt, hw]
        refine .inl (hgo (hgv w _ (hg w hI.cls hfs)) ?_)
        rintro u w' ⟨hV, hE⟩
        have hst := rStep (w' := w') hk hI ho hiT hun hpre' (fun j => if j = i then u else vals j) (fun j hj => by simp [hj]) (hCE w w' hI.cls hE) (fun j V' hj hl => by
          by_cases hji : j = i
          · subst hji
            rw [hp] at hj
            cases hj
            rw [rFrame_congr (vals := vals) j (fun m hm => if_neg (by omega))]
            simpa using hV
          · simp only [hji, if_false]
            have hlj := hl.resolve_left hji
            obtain ⟨oj, hoj, hlo⟩ := hloc j V' hj
            refine hlo _ _ (fun d hd => ?_) _ _ (hstab j V' hj _ _ _ _ (hI.facts j V' hj hlj) hE)
            exact rLocal hk hI.closed hoj hlj hun (fun m hm => by simp [hm]) d hd)
        have e1 : rVal plan (fun j => if j = i then u else vals j) i = u := hvi _ u V hp (by simp)
        rw [e1] at hst
        exact ih _ _ _ _ hcnt' hst

theorem wpRel_length : ∀ (ps : List Item) (k : Nat) (fs : List (Nat × (World → Prop))) (l : List Oper) (a : Act), wpRel P ops C E Q ps k fs l a → ps.length = l.length
  | [], _, _, [], _, _ => rfl
  | [], _, _, _ :: _, _, h => h.elim
  | none :: _, _, _, [], _, h => h.elim
  | some (.inl _) :: _, _, _, [], _, h => h.elim
  | some (.inr _) :: _, _, _, [], _, h => h.elim
  | none :: ps, k, fs, o :: l, a, h => by
    have h' : Region.wanted o (yielded ops a.tmps) = false ∧ wpRel P ops C E Q ps (k + 1) fs l (a.put o.dst undef) := h
    simp [wpRel_length ps _ _ _ _ h'.2]
  | some (.inl v) :: ps, k, fs, o :: l, a, h => by
    have h' : Region.wanted o (yielded ops a.tmps) = true ∧ (∀ w, C w → (∀ f ∈ fs, predB ops k f.1 = true → f.2 w) → giv P o a w (fun u w' => u = v ∧ E w w')) ∧ wpRel P ops C E Q ps (k + 1) fs l (a.put o.dst v) := h
    simp [wpRel_length ps _ _ _ _ h'.2.2]
  | some (.inr V) :: ps, k, fs, o :: l, a, h => by
    have h' : Region.wanted o (yielded ops a.tmps) = true ∧ ((∀ b v w w', V b v w → E w w' → V b v w') ∧ VLoc ops k o V) ∧
      (∀ w, C w → (∀ f ∈ fs, predB ops k f.1 = true → f.2 w) → giv P o a w (fun u w' => V a u w' ∧ E w w')) ∧ ∀ v, wpRel P ops C E Q ps (k + 1) ((k, V a v) :: fs) l (a.put o.dst v) := h
    simp [wpRel_length ps _ _ _ _ (h'.2.2.2 undef)]

/-- Each operation from T on waits for all of the first T and for the one ahead of it. -/
def tailB (ops : Array Oper) (T : Nat) : Bool := (List.range ops.size).all fun i => decide (i < T) || (List.range i).all fun j => if T ≤ j then (!decide (j + 1 = i) || predB ops i j) else reachB ops 8 i j

theorem tailB_spec {T : Nat} (h : tailB ops T = true) : ∀ i o, T ≤ i → ops[i]? = some o → (∀ j, j + 1 = i → T ≤ j → ∃ e ∈ o.after, Region.binds .any e = true ∧ e.on = j) ∧ ∀ j, j < T → reachB ops 8 i j = true := by
  intro i o hT ho
  have hi : i < ops.size := (Array.getElem?_eq_some_iff.1 ho).1
  have h1 := List.all_eq_true.1 h i (List.mem_range.2 hi)
  have hn : ¬ i < T := by omega
  simp only [hn, decide_false, Bool.false_or] at h1
  refine ⟨fun j hj hTj => ?_, fun j hj => ?_⟩
  · have h2 := List.all_eq_true.1 h1 j (List.mem_range.2 (by omega))
    simp only [hTj, if_true, hj, decide_true, Bool.not_true, Bool.false_or] at h2
    unfold predB at h2
    simp only [ho] at h2
    obtain ⟨e, he, hb⟩ := Array.any_eq_true'.1 h2
    simp only [Bool.and_eq_true, beq_iff_eq] at hb
    exact ⟨e, he, hb.1, hb.2⟩
  · have h2 := List.all_eq_true.1 h1 j (List.mem_range.2 (by omega))
    simp only [show ¬ T ≤ j by omega, if_false] at h2
    exact h2

/-- THE LAW, with a tail: the operations from T on, each of which waits for all ahead of it, are walked behind the others, in order. -/
theorem wp_region_tail {id : Nat} {l : List Oper} {Q' : Exit → Act → World → Prop} {a : Act} {w : World} (T : Nat) (ps : List Item) (hm : P.follows .mixedOrders = true) (hB : relB l.toArray = true) (hT : tailB l.toArray T = true) (hTl : T ≤ l.length)
    (C : World → Prop) (E : World → World → Prop) (hCE : ∀ w w', C w → E w w' → C w') (hC : C { w with drawn := w.drawn + 1 })
    (h : wpRel P l.toArray C E (fun a' w' => wpList P l.toArray Q' (l.drop T) a' w') ps 0 [] (l.take T) a) : (Code.region id l.toArray true).wp P Q' a w := by
  have hk := relOk_of hB
  have hTs : T ≤ l.toArray.size := by simpa using hTl
  have hlen := wpRel_length _ _ _ _ _ h
  have hP : ∀ (j : Nat) (V : Act → Value → World → Prop), ps[j]? = some (some (.inr V)) → j < T := fun j V hj => by
    have := (List.getElem?_eq_some_iff.1 hj).1
    simp at hlen
    omega
  have hU := fun vals => rUnroll (P := P) (ops := l.toArray) (C := C) (E := E) (Q := fun a' w' => wpList P l.toArray Q' (l.drop T) a' w') (plan := ps) (vals := vals) (a0 := a) T hTs ps 0 [] (l.take T) (Nat.zero_le _) rfl rfl (by simp) h
  refine wp_region_any hm (rMain hk T hTs (tailB_spec hT) hP hCE (fun vals i o hi ho => (hU vals).1 i o (Nat.zero_le _) hi ho) (fun vals w hc hv => (hU vals).2 w hc hv) _ _ (fun _ => undef) a _ ?_ ?_)
  · simp
  · refine ⟨rfl, rfl, by simp, fun j d _ hl => ?_, fun _ _ => rfl, fun j o _ hl => ?_, fun j V _ hl => ?_, fun j _ => ?_, hC⟩
    · simp [Array.getElem?_replicate] at hl
      split at hl <;> simp at hl
    · simp [Array.getElem?_replicate] at hl
      split at hl <;> simp at hl
    · simp [Array.getElem?_replicate] at hl
      split at hl <;> simp at hl
    · simp [Array.getElem?_replicate]
      split <;> rfl

/-- THE LAW. -/
theorem wp_region_rel {id : Nat} {l : List Oper} {Q' : Exit → Act → World → Prop} {a : Act} {w : World} (ps : List Item) (hm : P.follows .mixedOrders = true) (hB : relB l.toArray = true)
    (C : World → Prop) (E : World → World → Prop) (hCE : ∀ w w', C w → E w w' → C w') (hC : C { w with drawn := w.drawn + 1 })
    (h : wpRel P l.toArray C E (fun a' w' => Q' .normal a' w') ps 0 [] l a) : (Code.region id l.toArray true).wp P Q' a w := by
  refine wp_region_tail l.length ps hm hB ?_ (Nat.le_refl _) C E hCE hC ?_
  · unfold tailB
    rw [List.all_eq_true]
    intro i hi
    have : i < l.length := by simpa using hi
    simp [this]
  · rw [List.drop_length, List.take_length]
    exact h

end
end Go.Proofs.YtcjebpplmoakkaaGreatDoor
