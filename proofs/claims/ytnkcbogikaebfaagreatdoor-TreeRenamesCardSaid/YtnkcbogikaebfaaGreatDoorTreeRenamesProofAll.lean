/- PROVED: Rows.TreeRenamesCardSaid: for every input the law TreeRenames returns true, and each argument reads as before. Conditions: none beyond the listed package variables, which the card ties to the program's text. -/
import Derived.Test.YtnkcbogikaebfaaGreatDoorBase22
import Derived.Test.YtnkcbogikaebfaaGreatDoorBase41
import Derived.Test.YtnkcbogikaebfaaGreatDoorRows
import Derived.Test.YtnkcbogikaebfaaGreatDoorCards
import Derived.Test.YtnkcbogikaebfaaGreatDoorTie
import Derived.Test.YtnkcbogikaebfaaGreatDoorBase05
import Derived.Test.YtnkcbogikaebfaaGreatDoorBase06
import Derived.Test.YtnkcbogikaebfaaGreatDoorBase35
import Derived.Test.YtnkcbogikaebfaaGreatDoorBase36
import Derived.ProofKit
import Derived.OpenShut
import Derived.ChangeOld
import Derived.LaidMore
import Derived.ChangeSame
import Derived.ChangeVars
import Derived.JoinedOf
import Derived.Lay
import Derived.MakeChecks
import Derived.SevenTiedAt
import Derived.Stop.Joined
import Derived.ChangeMaps5
import Derived.Test.YtnkcbogikaebfaaGreatDoorBase42
section
/- Plain: a name moved there and back leaves the tree as it was. -/
namespace Go.Proofs.YtnkcbogikaebfaaGreatDoor
set_option maxRecDepth 100000
set_option linter.unusedSimpArgs false
set_option linter.unusedVariables false
/-- What is within a directory, told by the parents. -/
inductive SubD (s : St) (t : Int) : Int → Prop
  | here : SubD s t t
  | up {k : Int} {r : NR} : s.get k = some r → r.nd.kind = 2 → k ≠ 1 → SubD s t r.nd.parent → SubD s t k
def OutOf (s : St) (n : Nd) (k : Int) : Prop := n.kind = 2 → ¬ SubD s n.id k
/-- s1 is s with a name moved. -/
structure Mvd (s s1 : St) (d1 : Int) (nm1 : ByteArray) (d2 : Int) (nm2 : ByteArray) (n n1 : Nd) : Prop where
  no : ∀ k, s.get k = none → s1.get k = none
  is : ∀ k r, s.get k = some r → ∃ r', s1.get k = some r' ∧ r'.nd = (if n.kind = 2 ∧ k = n.id then n1 else r.nd) ∧
    ∀ nm, entOf r'.ents nm = if k = d2 ∧ nm = nm2 then some ⟨nm2, n.id, n.kind⟩ else if k = d1 ∧ nm = nm1 then none else entOf r.ents nm
structure MvC (s : St) (d1 : Int) (nm1 : ByteArray) (d2 : Int) (nm2 : ByteArray) (n : Nd) : Prop where
  ex1 : ∃ x e, s.get d1 = some x ∧ x.nd.kind = 2 ∧ entOf x.ents nm1 = some e ∧ e.node = n.id
  ex2 : ∃ x, s.get d2 = some x ∧ x.nd.kind = 2 ∧ entOf x.ents nm2 = none
  nd : ∃ r, s.get n.id = some r ∧ r.nd = n
theorem move_mvd {s : St} (g : Good s) {d1 d2 : Int} {nm1 nm2 : ByteArray} {n : Nd} (c : MvC s d1 nm1 d2 nm2 n) : Mvd s (moveS s d1 nm1 d2 nm2 n) d1 nm1 d2 nm2 n (setPar n d2) := by
  obtain ⟨r0, hr0, hn0⟩ := c.nd
  obtain ⟨x2, hx2, _, hno⟩ := c.ex2
  have hrise : RiseN (s.delE d1 nm1).ns := onR_rise g.rise
  refine ⟨fun k hk => ?_, fun k r hk => ?_⟩
  · unfold moveS
    rw [get_addE]
    have hne : n.kind = 2 → k ≠ (setPar n d2).id := fun _ e => by rw [e] at hk; rw [show (setPar n d2).id = n.id from rfl, hr0] at hk; cases hk
    by_cases h2 : n.kind = 2
    · rw [if_pos h2, get_put hrise, if_neg (hne h2), get_delE, hk]; rfl
    · rw [if_neg h2, get_delE, hk]; rfl
  · have hid := findN_id hk
    obtain ⟨r1, h1, h1n, h1e⟩ : ∃ r1, (s.delE d1 nm1).get k = some r1 ∧ r1.nd = r.nd ∧ r1.ents = if k = d1 then cutE nm1 r.ents else r.ents := by
      rw [get_delE, hk]
      refine ⟨if r.nd.id = d1 then ⟨r.nd, cutE nm1 r.ents⟩ else r, rfl, ?_, ?_⟩
      · split <;> rfl
      · rw [hid]; split <;> rfl
    obtain ⟨r2, h2, h2n, h2e⟩ : ∃ r2, (if n.kind = 2 then (s.delE d1 nm1).put (setPar n d2) else s.delE d1 nm1).get k = some r2 ∧ r2.nd = (if n.kind = 2 ∧ k = n.id then setPar n d2 else r.nd) ∧ r2.ents = r1.ents := by
      by_cases hd : n.kind = 2
      · rw [if_pos hd, get_put hrise]
        by_cases hki : k = n.id
        · rw [if_pos (show k = (setPar n d2).id from hki), if_pos ⟨hd, hki⟩]
          refine ⟨_, rfl, rfl, ?_⟩
          rw [show (setPar n d2).id = k from hki.symm, h1]
          refine keepE_both (by exact hd) ?_
          rw [h1n]
          rw [hki, hr0] at hk
          injection hk with hk
          rw [← hk, hn0, hd]
        · rw [if_neg (show ¬ k = (setPar n d2).id from hki), if_neg (fun h => hki h.2)]
          exact ⟨r1, h1, h1n, rfl⟩
      · rw [if_neg hd, if_neg (fun h => hd h.1)]
        exact ⟨r1, h1, h1n, rfl⟩
    have hid2 := findN_id h2
    unfold moveS
    rw [get_addE, h2]
    refine ⟨if r2.nd.id = d2 then ⟨r2.nd, insE ⟨nm2, n.id, n.kind⟩ r2.ents⟩ else r2, rfl, ?_, fun nm => ?_⟩
    · rw [← h2n]
      split <;> rfl
    · rw [hid2]
      have hin : ∀ nm, entOf r2.ents nm = if k = d1 ∧ nm = nm1 then none else entOf r.ents nm := fun nm => by
        rw [h2e, h1e]
        by_cases hkd : k = d1
        · rw [if_pos hkd, entOf_cutE]
          by_cases hnm : nm = nm1
          · rw [if_pos hnm, if_pos ⟨hkd, hnm⟩]
          · rw [if_neg hnm, if_neg (fun h => hnm h.2)]
        · rw [if_neg hkd, if_neg (fun h => hkd h.1)]
      by_cases hkd : k = d2
      · have hx : r = x2 := by rw [hkd, hx2] at hk; injection hk with hk; exact hk.symm
        have hn2 : entOf r2.ents nm2 = none := by
          rw [hin]
          split
          · rfl
          · rw [hx]; exact hno
        rw [if_pos hkd]
        simp only
        rw [entOf_insE (by exact hn2)]
        by_cases hnm : nm = nm2
        · rw [if_pos hnm, if_pos ⟨hkd, hnm⟩]
        · rw [if_neg hnm, if_neg (fun h => hnm h.2)]
          exact hin nm
      · rw [if_neg hkd, if_neg (fun h => hkd h.1)]
        exact hin nm
theorem sub_root {s : St} {t k : Int} (h : SubD s t k) (ht : t ≠ 1) : k ≠ 1 := by
  cases h with
  | here => exact ht
  | up _ _ h _ => exact h
section
variable {s s1 : St} {d1 d2 : Int} {nm1 nm2 : ByteArray} {n n1 : Nd}
theorem MvC.root (f : Full s) (c : MvC s d1 nm1 d2 nm2 n) : n.id ≠ 1 := by
  obtain ⟨x, e, h1, _, h3, h4⟩ := c.ex1
  rw [← h4]
  exact f.not_root h1 h3
theorem out_up (f : Full s) (c : MvC s d1 nm1 d2 nm2 n) {a : Int} {d : NR} (hd : s.get a = some d) (hk : d.nd.kind = 2) (ho : OutOf s n a) : OutOf s n (upOf d.nd) := by
  intro h2 hs
  have hid := findN_id hd
  unfold upOf at hs
  split at hs
  · exact sub_root hs (c.root f) rfl
  · rename_i h1
    exact ho h2 (.up hd hk (by omega) hs)
theorem out_ent (f : Full s) (c : MvC s d1 nm1 d2 nm2 n) {a : Int} {d : NR} {p : ByteArray} {e : En} (hd : s.get a = some d) (he : entOf d.ents p = some e) (hne : ¬ (a = d1 ∧ p = nm1)) (ho : OutOf s n a) : OutOf s n e.node := by
  intro h2 hs
  obtain ⟨y, hy, hyk, _⟩ := entry_node f.toGood hd he
  have hpar := f.par a d hd e (entOf_mem he) y hy
  generalize hc : e.node = k at hs
  cases hs with
  | here =>
    obtain ⟨x, e0, h3, h4, h5, h6⟩ := c.ex1
    obtain ⟨r, h7, h8⟩ := c.nd
    rw [hc, h7] at hy
    injection hy with hy
    subst hy
    have h9 := hpar (by rw [h8]; exact h2)
    have h10 := f.par d1 x h3 e0 (entOf_mem h5) r (by rw [h6]; exact h7) (by rw [h8]; exact h2)
    have had : a = d1 := by omega
    have hp : p ≠ nm1 := fun e => hne ⟨had, e⟩
    subst had
    rw [h3] at hd
    injection hd with hd
    subst hd
    have hn1 := names_delE f.toGood h3 h5 n.id
    rw [if_pos h6] at hn1
    have hct := f.cnt _ _ h7
    have h1l := f.one _ _ h7 (by rw [h8]; exact h2)
    have hz : (s.delE a nm1).names n.id = 0 := by
      rw [h1l] at hct
      split at hct <;> omega
    obtain ⟨r', hr', _, _, hr4⟩ := get_delE_of (d := a) (n := nm1) h3
    refine names_zero hz r' (findN_mem hr') e ?_ hc
    rw [hr4 rfl]
    refine cutE_mem.2 ⟨entOf_mem he, ?_⟩
    rw [entOf_name he]
    exact hp
  | up h3 h4 h5 h6 =>
    rw [hc] at hy
    rw [hy] at h3
    injection h3 with h3
    subst h3
    rw [hpar h4] at h6
    exact ho h2 h6
theorem sim_parts (f : Full s) (c : MvC s d1 nm1 d2 nm2 n) (m : Mvd s s1 d1 nm1 d2 nm2 n n1) (hk1 : n1.kind = n.kind) (ht1 : n1.target = n.target) {fo sl : Bool} {next next1 : ByteArray → Int → List ByteArray → Int × Int}
    (hn : ∀ t a ps i i1, OutOf s n a → next t a ps = (0, i) → next1 t a ps = (0, i1) → i = i1 ∧ OutOf s n i) :
    ∀ (ps : List ByteArray) (a i i1 : Int), OutOf s n a → goParts s fo sl next ps a = (0, i) → goParts s1 fo sl next1 ps a = (0, i1) → i = i1 ∧ OutOf s n i := by
  have hkind : ∀ (k : Int) (r r' : NR), s.get k = some r → r'.nd = (if n.kind = 2 ∧ k = n.id then n1 else r.nd) → r'.nd.kind = r.nd.kind ∧ r'.nd.target = r.nd.target := fun k r r' hr h => by
    rw [h]
    split
    · rename_i hh
      obtain ⟨r0, h1, h2⟩ := c.nd
      rw [hh.2, h1] at hr
      injection hr with hr
      rw [← hr, h2]
      exact ⟨hk1, ht1⟩
    · exact ⟨rfl, rfl⟩
  intro ps
  induction ps with
  | nil =>
    intro a i i1 ho h h1
    unfold goParts at h h1
    split at h
    · cases h
    · split at h1
      · cases h1
      · injection h with _ h
        injection h1 with _ h1
        exact ⟨by rw [← h, ← h1], by rw [← h]; exact ho⟩
  | cons p ps ih =>
    intro a i i1 ho h h1
    unfold goParts at h
    split at h
    · cases h
    · rename_i d hd
      split at h
      · cases h
      · rename_i hk
        have hk : d.nd.kind = 2 := by simpa using hk
        obtain ⟨d', hd', hdn, hde⟩ := m.is a d hd
        have hkd := (hkind a d d' hd hdn).1
        unfold goParts at h1
        rw [hd'] at h1
        simp only at h1
        rw [if_neg (by rw [hkd, hk]; simp)] at h1
        split at h
        · rename_i hu
          rw [if_pos hu] at h1
          have hnd : d'.nd = d.nd := by
            rw [hdn, if_neg]
            rintro ⟨h5, h6⟩
            exact ho h5 (by rw [h6]; exact .here)
          rw [hnd] at h1
          exact ih _ _ _ (out_up f c hd hk ho) h h1
        · rename_i hu
          rw [if_neg hu] at h1
          split at h
          · cases h
          · rename_i e he
            rw [hde p] at h1
            obtain ⟨x2, hx2, _, hno⟩ := c.ex2
            rw [if_neg (by
              rintro ⟨h5, h6⟩
              rw [h5, hx2] at hd
              injection hd with hd
              rw [← hd, h6, hno] at he
              cases he)] at h1
            by_cases hm : a = d1 ∧ p = nm1
            · rw [if_pos hm] at h1
              cases h1
            · rw [if_neg hm, he] at h1
              simp only at h1
              have hoe := out_ent f c hd he hm ho
              split at h
              · cases h
              · rename_i x hx
                obtain ⟨x', hx', hxn, _⟩ := m.is _ x hx
                rw [hx'] at h1
                simp only at h1
                obtain ⟨hxk, hxt⟩ := hkind _ x x' hx hxn
                rw [hxk, hxt] at h1
                split at h
                · rename_i hq
                  rw [if_pos hq] at h1
                  exact ih _ _ _ hoe h h1
                · rename_i hq
                  rw [if_neg hq] at h1
                  exact hn _ _ _ _ _ ho h h1
theorem out_one (f : Full s) (c : MvC s d1 nm1 d2 nm2 n) : OutOf s n 1 := fun _ h => sub_root h (c.root f) rfl
theorem sim_goH (f : Full s) (c : MvC s d1 nm1 d2 nm2 n) (m : Mvd s s1 d1 nm1 d2 nm2 n n1) (hk1 : n1.kind = n.kind) (ht1 : n1.target = n.target) {fo sl : Bool} :
    ∀ (h : Nat) (ps : List ByteArray) (a i i1 : Int), OutOf s n a → goH s fo sl h ps a = (0, i) → goH s1 fo sl h ps a = (0, i1) → i = i1 ∧ OutOf s n i := by
  intro h
  induction h with
  | zero =>
    unfold goH
    exact sim_parts f c m hk1 ht1 fun _ _ _ _ _ _ h => by cases h
  | succ h ih =>
    unfold goH
    refine sim_parts f c m hk1 ht1 fun t a ps i i1 ho hq hq1 => ?_
    simp only at hq hq1
    split at hq
    · rename_i hne
      injection hq with hq
      exact absurd hq hne
    · rename_i hz
      rw [if_neg hz] at hq1
      refine ih _ _ _ _ ?_ hq hq1
      unfold tgtOf
      split
      · exact out_one f c
      · exact ho
theorem sim_toP (f : Full s) (c : MvC s d1 nm1 d2 nm2 n) (m : Mvd s s1 d1 nm1 d2 nm2 n n1) (hk1 : n1.kind = n.kind) (ht1 : n1.target = n.target) {p : Pth} {fo : Bool} {i i1 : Int} (h : toP s p fo = (0, i)) (h1 : toP s1 p fo = (0, i1)) : i = i1 :=
  (sim_goH f c m hk1 ht1 _ _ _ _ _ (out_one f c) h h1).1
end
/-- The last step of a path. -/
def LStep (s : St) (fo sl : Bool) (nm : ByteArray) (d i : Int) : Prop := ∃ x e y, s.get d = some x ∧ x.nd.kind = 2 ∧ entOf x.ents nm = some e ∧ s.get e.node = some y ∧ ((y.nd.kind ≠ 3 ∨ (fo = false ∧ sl = false)) → i = e.node)
theorem parts_snoc {s : St} {fo sl : Bool} {nm : ByteArray} (hu : isUp nm = false) {next next2 : ByteArray → Int → List ByteArray → Int × Int}
    (hn : ∀ t a ps i, next t a (ps ++ [nm]) = (0, i) → ∃ d, next2 t a ps = (0, d) ∧ LStep s fo sl nm d i) :
    ∀ (ps : List ByteArray) (a i : Int), goParts s fo sl next (ps ++ [nm]) a = (0, i) → ∃ d, goParts s true false next2 ps a = (0, d) ∧ LStep s fo sl nm d i := by
  intro ps
  induction ps with
  | nil =>
    intro a i h
    rw [List.nil_append] at h
    unfold goParts at h
    split at h
    · cases h
    · rename_i d hd
      split at h
      · cases h
      · rename_i hk
        rw [if_neg (by rw [hu]; decide)] at h
        split at h
        · cases h
        · rename_i e he
          split at h
          · cases h
          · rename_i x hx
            refine ⟨a, by unfold goParts; simp, d, e, x, hd, by simpa using hk, he, hx, fun hq => ?_⟩
            rw [if_pos (by
              rcases hq with hq | hq
              · exact .inl hq
              · exact .inr ⟨rfl, hq⟩)] at h
            unfold goParts at h
            split at h
            · cases h
            · injection h with _ h
              exact h.symm
  | cons p ps ih =>
    intro a i h
    rw [List.cons_append] at h
    unfold goParts at h
    unfold goParts
    split at h
    · cases h
    · rename_i d hd
      split at h
      · cases h
      · rename_i hk
        rw [if_neg hk]
        split at h
        · rename_i hp
          rw [if_pos hp]
          exact ih _ _ h
        · rename_i hp
          rw [if_neg hp]
          split at h
          · cases h
          · rename_i e he
            split at h
            · cases h
            · rename_i x hx
              split at h
              · rename_i hq
                have h3 : x.nd.kind ≠ 3 := by
                  rcases hq with hq | hq
                  · exact hq
                  · exact absurd hq.1 (by simp)
                rw [if_pos (.inl h3)]
                exact ih _ _ h
              · rename_i hq
                rw [if_neg (by
                  rintro (h3 | h3)
                  · exact hq (.inl h3)
                  · exact absurd h3.2.1 (by decide))]
                exact hn _ _ _ _ h
theorem goH_snoc {s : St} {fo sl : Bool} {nm : ByteArray} (hu : isUp nm = false) : ∀ (h : Nat) (ps : List ByteArray) (a i : Int), goH s fo sl h (ps ++ [nm]) a = (0, i) → ∃ d, goH s true false h ps a = (0, d) ∧ LStep s fo sl nm d i := by
  intro h
  induction h with
  | zero =>
    unfold goH
    exact parts_snoc hu fun _ _ _ _ h => by cases h
  | succ h ih =>
    unfold goH
    refine parts_snoc hu fun t a ps i hq => ?_
    simp only at hq ⊢
    split at hq
    · rename_i hne
      injection hq with hq
      exact absurd hq hne
    · rename_i hz
      rw [if_neg hz]
      rw [← List.append_assoc] at hq
      exact ih _ _ _ hq
theorem toP_snoc {s : St} {p : Pth} {q : List ByteArray} {nm : ByteArray} {fo : Bool} {i : Int} (hs : splitP p = (0, q, nm)) (h : toP s p fo = (0, i)) : ∃ d, toP s ⟨q, false⟩ true = (0, d) ∧ LStep s fo p.slash nm d i := by
  obtain ⟨h1, h2⟩ := splitP_ok hs
  unfold toP at h ⊢
  rw [h1] at h
  exact goH_snoc h2 _ _ _ _ h
/-- What Last says. -/
theorem lastP_to {s : St} {p : Pth} {f : Fnd} (h : lastP s p = (0, f)) : ∃ q x, splitP p = (0, q, f.name) ∧ toP s ⟨q, false⟩ true = (0, f.dir) ∧ s.get f.dir = some x ∧ x.nd.kind = 2 ∧
    ((entOf x.ents f.name = none ∧ f.node = 0) ∨ ∃ e, entOf x.ents f.name = some e ∧ e.node = f.node ∧ (p.slash = true → s.isDir f.node = true)) := by
  unfold lastP at h
  obtain ⟨c, q, n, hq⟩ : ∃ c q n, splitP p = (c, q, n) := ⟨_, _, _, rfl⟩
  rw [hq] at h
  simp only at h
  split at h
  · rename_i hc
    injection h with h
    exact absurd h hc
  · rename_i hc
    have hc0 : c = 0 := by omega
    subst hc0
    split at h
    · rename_i ht
      injection h with h
      exact absurd h ht
    · rename_i ht
      have htp : toP s ⟨q, false⟩ true = (0, (toP s ⟨q, false⟩ true).2) := Prod.ext (by simpa using ht) rfl
      split at h
      · cases h
      · rename_i l hl
        obtain ⟨x, hx, hk, rfl⟩ := dirOf_some hl
        split at h
        · rename_i he
          injection h with _ h
          subst h
          exact ⟨q, x, hq, htp, hx, hk, .inl ⟨he, rfl⟩⟩
        · rename_i e he
          split at h
          · cases h
          · rename_i hs
            injection h with _ h
            subst h
            refine ⟨q, x, hq, htp, hx, hk, .inr ⟨e, he, rfl, fun hsl => ?_⟩⟩
            rw [hsl] at hs
            simpa using hs
theorem riseN_ext {l l' : List NR} (h : RiseN l) (h' : RiseN l') (he : ∀ k, findN l k = findN l' k) : l = l' := by
  induction l generalizing l' with
  | nil =>
    cases l' with
    | nil => rfl
    | cons x l' =>
      have := he x.nd.id
      rw [findN_nil, findN_cons, if_pos rfl] at this
      cases this
  | cons x l ih =>
    cases l' with
    | nil =>
      have := he x.nd.id
      rw [findN_nil, findN_cons, if_pos rfl] at this
      cases this
    | cons y l' =>
      obtain ⟨h1, h2⟩ := List.pairwise_cons.1 h
      obtain ⟨h3, h4⟩ := List.pairwise_cons.1 h'
      have hxy : x = y := by
        have e1 := he x.nd.id
        have e2 := he y.nd.id
        rw [findN_cons, if_pos rfl] at e1
        rw [findN_cons y l' y.nd.id, if_pos rfl] at e2
        have m1 := findN_mem e1.symm
        have m2 := findN_mem e2
        rcases List.mem_cons.1 m1 with m1 | m1
        · exact m1
        · rcases List.mem_cons.1 m2 with m2 | m2
          · exact m2.symm
          · have := h3 x m1
            have := h1 y m2
            omega
      subst hxy
      congr 1
      refine ih h2 h4 fun k => ?_
      by_cases hk : x.nd.id = k
      · rw [findN_none_of_lt (fun r hr => by have := h1 r hr; omega), findN_none_of_lt (fun r hr => by have := h3 r hr; omega)]
      · have := he k
        rw [findN_cons, findN_cons, if_neg hk, if_neg hk] at this
        exact this
theorem riseE_ext {l l' : List En} (h : RiseE l) (h' : RiseE l') (he : ∀ k, entOf l k = entOf l' k) : l = l' := by
  induction l generalizing l' with
  | nil =>
    cases l' with
    | nil => rfl
    | cons x l' =>
      have := he x.name
      rw [entOf_nil, entOf_cons, if_pos rfl] at this
      cases this
  | cons x l ih =>
    cases l' with
    | nil =>
      have := he x.name
      rw [entOf_nil, entOf_cons, if_pos rfl] at this
      cases this
    | cons y l' =>
      obtain ⟨h1, h2⟩ := List.pairwise_cons.1 h
      obtain ⟨h3, h4⟩ := List.pairwise_cons.1 h'
      have hxy : x = y := by
        have e1 := he x.name
        have e2 := he y.name
        rw [entOf_cons, if_pos rfl] at e1
        rw [entOf_cons y l' y.name, if_pos rfl] at e2
        have m1 := entOf_mem e1.symm
        have m2 := entOf_mem e2
        rcases List.mem_cons.1 m1 with m1 | m1
        · exact m1
        · rcases List.mem_cons.1 m2 with m2 | m2
          · exact m2.symm
          · exact absurd (nmLt_tr (h3 x m1) (h1 y m2)) (nmLt_irr _)
      subst hxy
      congr 1
      refine ih h2 h4 fun k => ?_
      by_cases hk : x.name = k
      · rw [entOf_none_iff.2 (fun e hm hn => by have := h1 e hm; rw [hn, hk] at this; exact nmLt_irr _ this), entOf_none_iff.2 (fun e hm hn => by have := h3 e hm; rw [hn, hk] at this; exact nmLt_irr _ this)]
      · have := he k
        rw [entOf_cons, entOf_cons, if_neg hk, if_neg hk] at this
        exact this
theorem moveS_last {s : St} (g : Good s) {n : Nd} {r : NR} (hn : s.get n.id = some r) (d1 d2 : Int) (nm1 nm2 : ByteArray) : (moveS s d1 nm1 d2 nm2 n).last = s.last := by
  have h1 := g.ids r (findN_mem hn)
  rw [findN_id hn] at h1
  unfold moveS
  by_cases hk : n.kind = 2
  · rw [if_pos hk]
    show max s.last n.id = s.last
    omega
  · rw [if_neg hk]
    rfl
theorem renameT_ok {s s1 : St} {x y : ByteArray} {b : Int} (h : renameT s x y = (0, b, s1)) : (parseP x).1 = 0 ∧ (parseP y).1 = 0 ∧ ∃ F n G, thereP s (parseP x).2 = (0, F, n) ∧ lastP s (parseP y).2 = (0, G) ∧
    ((F.node = G.node ∧ b = 0 ∧ s1 = s) ∨ (F.node ≠ G.node ∧ renC s G (parseP y).2.slash n = 0 ∧ b = G.node ∧ s1 = moveS (ousted s G) F.dir F.name G.dir G.name n)) := by
  unfold renameT at h
  simp only at h
  split at h
  · rename_i hc; injection h with h; exact absurd h hc
  · rename_i hx
    split at h
    · rename_i hc; injection h with h; exact absurd h hc
    · rename_i hy
      split at h
      · rename_i hc; injection h with h; exact absurd h hc
      · rename_i hf
        split at h
        · rename_i hc; injection h with h; exact absurd h hc
        · rename_i hg
          refine ⟨by omega, by omega, (thereP s (parseP x).2).2.1, (thereP s (parseP x).2).2.2, (lastP s (parseP y).2).2, Prod.ext (by simpa using hf) rfl, Prod.ext (by simpa using hg) rfl, ?_⟩
          split at h
          · rename_i he
            injection h with _ h
            injection h with h1 h2
            exact .inl ⟨he, h1.symm, h2.symm⟩
          · rename_i he
            split at h
            · cases h
            · split at h
              · rename_i hc; injection h with h; exact absurd h hc
              · rename_i hc
                injection h with _ h
                injection h with h1 h2
                exact .inr ⟨he, by omega, h1.symm, h2.symm⟩
theorem renameT_bad {s : St} {x y : ByteArray} (h : (renameT s x y).1 ≠ 0) : (renameT s x y).2.2 = s := by
  unfold renameT at h ⊢
  simp only at h ⊢
  repeat' (split at h)
  all_goals (first | exact absurd rfl h | skip)
  all_goals first | (simp_all; done) | (split <;> rfl)
theorem thereP_last {s : St} {p : Pth} {F : Fnd} {n : Nd} (h : thereP s p = (0, F, n)) : lastP s p = (0, F) ∧ ∃ r, s.get F.node = some r ∧ r.nd = n := by
  unfold thereP at h
  simp only at h
  split at h
  · rename_i hc; injection h with h; exact absurd h hc
  · rename_i hc
    split at h
    · cases h
    · rename_i r hr
      injection h with _ h
      injection h with h1 h2
      refine ⟨Prod.ext (by simpa using hc) h1, r, ?_, h2⟩
      rw [← h1]
      exact hr
theorem lookT_ok {s : St} {x : ByteArray} {fo : Bool} {n : Nd} (h : lookT s x fo = (0, n)) : ∃ i r, toP s (parseP x).2 fo = (0, i) ∧ s.get i = some r ∧ r.nd = n := by
  unfold lookT at h
  simp only at h
  split at h
  · rename_i hc; injection h with h; exact absurd h hc
  · split at h
    · rename_i hc; injection h with h; exact absurd h hc
    · rename_i hc
      split at h
      · cases h
      · rename_i r hr
        injection h with _ h
        exact ⟨_, r, Prod.ext (by simpa using hc) rfl, hr, h⟩
theorem isDir_kind {s : St} {k : Int} {r : NR} (h : s.isDir k = true) (hr : s.get k = some r) : r.nd.kind = 2 := by
  unfold St.isDir at h
  rw [hr] at h
  simpa using h
/-- Renamed there and back. -/
theorem rename_back {s s1 s2 : St} (f : Full s) {x y : ByteArray} {back : Int} {na nb : Nd} (h1 : renameT s x y = (0, 0, s1)) (h2 : lookT s x false = (0, na)) (h3 : (lookT s y false).1 ≠ 0)
    (h4 : lookT s1 y false = (0, nb)) (h5 : renameT s1 y x = (0, back, s2)) : nb.id = na.id ∧ back = 0 ∧ s2 = s := by
  have f1 : Full s1 := by have := renameT_full f x y; rw [h1] at this; exact this
  have f2 : Full s2 := by have := renameT_full f1 y x; rw [h5] at this; exact this
  obtain ⟨px, py, F, n, G, hF, hG, hc⟩ := renameT_ok h1
  rcases hc with ⟨_, _, rfl⟩ | ⟨hne, hrc, hb, hs1⟩
  · rw [h4] at h3
    exact absurd rfl h3
  obtain ⟨hFl, r0, hr0, hrn⟩ := thereP_last hF
  obtain ⟨qx, x1, hsx, htx, hx1, hxk, hxe⟩ := lastP_to hFl
  obtain ⟨qy, x2, hsy, hty, hx2, hyk, hye⟩ := lastP_to hG
  have hG0 : G.node = 0 := hb.symm
  have hz : s.get 0 = none := f.toGood.no (.inr (by omega))
  have hz1 : s1.get 0 = none := f1.toGood.no (.inr (by omega))
  have hous : ousted s G = s := by unfold ousted; rw [hG0, hz]
  rw [hous] at hs1
  have hid : n.id = F.node := by rw [← hrn]; exact findN_id hr0
  have hF0 : F.node ≠ 0 := by intro e; rw [e, hz] at hr0; cases hr0
  have hno2 : entOf x2.ents G.name = none := by
    rcases hye with ⟨h, _⟩ | ⟨e, he, hen, _⟩
    · exact h
    · obtain ⟨_, _, _, h7, _⟩ := entry_node f.toGood hx2 he
      omega
  obtain ⟨e1, he1, hen1, hsl1⟩ : ∃ e, entOf x1.ents F.name = some e ∧ e.node = F.node ∧ ((parseP x).2.slash = true → s.isDir F.node = true) := by
    rcases hxe with ⟨_, h⟩ | h
    · exact absurd h hF0
    · exact h
  have C : MvC s F.dir F.name G.dir G.name n := ⟨⟨x1, e1, hx1, hxk, he1, by omega⟩, ⟨x2, hx2, hyk, hno2⟩, ⟨r0, by rw [hid]; exact hr0, hrn⟩⟩
  have M := move_mvd f.toGood C
  rw [← hs1] at M
  obtain ⟨r0', hr0', hn0', _⟩ := M.is n.id r0 (by rw [hid]; exact hr0)
  have hk0' : r0'.nd.kind = n.kind ∧ r0'.nd.id = n.id := by
    rw [hn0']
    split
    · exact ⟨rfl, rfl⟩
    · rw [hrn]; exact ⟨rfl, rfl⟩
  obtain ⟨x2', g1, g2, g3⟩ := M.is _ x2 hx2
  have g4 : entOf x2'.ents G.name = some ⟨G.name, n.id, n.kind⟩ := by rw [g3, if_pos ⟨rfl, rfl⟩]
  -- what is looked up ahead
  have hA : na.id = F.node := by
    obtain ⟨ia, ra, hta, hga, hna⟩ := lookT_ok h2
    obtain ⟨da, hda, xa, ea, ya, q1, q2, q3, q4, q5⟩ := toP_snoc hsx hta
    rw [htx] at hda
    injection hda with _ hda
    subst hda
    rw [hx1] at q1
    injection q1 with q1
    subst q1
    rw [he1] at q3
    injection q3 with q3
    subst q3
    have hia : ia = e1.node := q5 (by
      cases hsl : (parseP x).2.slash with
      | false => exact .inr ⟨rfl, rfl⟩
      | true =>
        left
        rw [hen1] at q4
        rw [isDir_kind (hsl1 hsl) q4]
        decide)
    rw [← hna, findN_id hga, hia, hen1]
  have hB : nb.id = n.id := by
    obtain ⟨ib, rb, htb, hgb, hnb⟩ := lookT_ok h4
    obtain ⟨db, hdb, xb, eb, yb, u1, u2, u3, u4, u5⟩ := toP_snoc hsy htb
    have hd2 : G.dir = db := sim_toP f C M rfl rfl hty hdb
    subst hd2
    rw [g1] at u1
    injection u1 with u1
    subst u1
    rw [g4] at u3
    injection u3 with u3
    subst u3
    have hib : ib = n.id := u5 (by
      cases hsl : (parseP y).2.slash with
      | false => exact .inr ⟨rfl, rfl⟩
      | true =>
        left
        have hk2 : n.kind = 2 := by
          unfold renC at hrc
          rw [hG0, hz, hsl] at hrc
          simp only at hrc
          split at hrc
          · exact absurd hrc (by decide)
          · rename_i hh
            simpa using hh
        simp only at u4
        rw [hr0'] at u4
        injection u4 with u4
        rw [← u4, hk0'.1, hk2]
        decide)
    rw [← hnb, findN_id hgb, hib]
  -- and back
  obtain ⟨_, _, F', n', G', hF', hG', hc'⟩ := renameT_ok h5
  obtain ⟨hFl', r1, hr1, hrn1⟩ := thereP_last hF'
  obtain ⟨qy', y1, hsy', hty', hy1, _, hye1⟩ := lastP_to hFl'
  obtain ⟨qx', z1, hsx', htx', hz2, _, hze⟩ := lastP_to hG'
  rw [hsy] at hsy'
  injection hsy' with _ hsy'
  injection hsy' with e1y e2y
  subst e1y
  rw [hsx] at hsx'
  injection hsx' with _ hsx'
  injection hsx' with e1x e2x
  subst e1x
  have hd2 : G.dir = F'.dir := sim_toP f C M rfl rfl hty hty'
  have hd1 : F.dir = G'.dir := sim_toP f C M rfl rfl htx htx'
  rw [← hd2, g1] at hy1
  injection hy1 with hy1
  subst hy1
  rw [← e2y, g4] at hye1
  have hFn : F'.node = n.id := by
    rcases hye1 with ⟨h, _⟩ | ⟨e, h, h', _⟩
    · cases h
    · injection h with h
      rw [← h', ← h]
  obtain ⟨x1', k1, k2, k3⟩ := M.is _ x1 hx1
  have hnd : ¬ (F.dir = G.dir ∧ F.name = G.name) := by
    rintro ⟨h6, h7⟩
    rw [h6, hx2] at hx1
    injection hx1 with hx1
    rw [h7, ← hx1, hno2] at he1
    cases he1
  have k4 : entOf x1'.ents F.name = none := by rw [k3, if_neg hnd, if_pos ⟨rfl, rfl⟩]
  rw [← hd1, k1] at hz2
  injection hz2 with hz2
  subst hz2
  rw [← e2x, k4] at hze
  have hGn : G'.node = 0 := by
    rcases hze with ⟨_, h⟩ | ⟨e, h, _⟩
    · exact h
    · cases h
  rcases hc' with ⟨h, _, _⟩ | ⟨_, _, hb', hs2⟩
  · rw [hFn, hGn, hid] at h
    exact absurd h hF0
  refine ⟨by rw [hA, hB, hid], by rw [hb', hGn], ?_⟩
  have hous1 : ousted s1 G' = s1 := by unfold ousted; rw [hGn, hz1]
  rw [hous1, ← hd1, ← hd2, ← e2x, ← e2y] at hs2
  rw [hFn, hr0'] at hr1
  injection hr1 with hr1
  subst hr1
  have hni : n'.id = n.id := by rw [← hrn1]; exact hk0'.2
  have hnk : n'.kind = n.kind := by rw [← hrn1]; exact hk0'.1
  have C' : MvC s1 G.dir G.name F.dir F.name n' := by
    refine ⟨⟨x2', _, g1, ?_, g4, hni.symm⟩, ⟨x1', k1, ?_, k4⟩, ⟨r0', by rw [hni]; exact hr0', hrn1⟩⟩
    · rw [g2]
      split
      · rename_i hh; exact hh.1
      · exact hyk
    · rw [k2]
      split
      · rename_i hh; exact hh.1
      · exact hxk
  have M' := move_mvd f1.toGood C'
  rw [← hs2] at M'
  have hpar : n.kind = 2 → setPar n' F.dir = n := fun h2 => by
    have := f.par _ _ hx1 e1 (entOf_mem he1) r0 (by rw [hen1]; exact hr0) (by rw [hrn]; exact h2)
    rw [hrn] at this
    rw [← hrn1, hn0', if_pos ⟨h2, rfl⟩, ← this]
    rfl
  have hek : e1.kind = n.kind := by
    obtain ⟨y, h6, h7, _⟩ := entry_node f.toGood hx1 he1
    rw [hen1, hr0] at h6
    injection h6 with h6
    rw [← h7, ← h6, hrn]
  have hlast : s2.last = s.last := by
    rw [hs2, moveS_last f1.toGood (by rw [hni]; exact hr0'), hs1, moveS_last f.toGood (by rw [hid]; exact hr0)]
  have hns : s2.ns = s.ns := riseN_ext f2.rise f.rise fun k => by
    show s2.get k = s.get k
    cases hk : s.get k with
    | none => exact M'.no k (M.no k hk)
    | some r =>
      obtain ⟨r', m1, m2, m3⟩ := M.is k r hk
      obtain ⟨r'', m4, m5, m6⟩ := M'.is k r' m1
      rw [m4]
      have hnd2 : r''.nd = r.nd := by
        rw [m5, m2, hni, hnk]
        by_cases hh : n.kind = 2 ∧ k = n.id
        · rw [if_pos hh, hpar hh.1]
          rw [hh.2, hid, hr0] at hk
          injection hk with hk
          rw [← hk, hrn]
        · rw [if_neg hh, if_neg hh]
      have hee : r''.ents = r.ents := riseE_ext (f2.erise _ (findN_mem m4)) (f.erise _ (findN_mem hk)) fun nm => by
        rw [m6, m3]
        by_cases ha : k = F.dir ∧ nm = F.name
        · rw [if_pos ha, hni, hnk]
          rw [ha.1, hx1] at hk
          injection hk with hk
          rw [← hk, ha.2, he1]
          have := entOf_name he1
          rw [← this, ← hek, hid, ← hen1]
        · rw [if_neg ha]
          by_cases hb2 : k = G.dir ∧ nm = G.name
          · rw [if_pos hb2]
            rw [hb2.1, hx2] at hk
            injection hk with hk
            rw [← hk, hb2.2, hno2]
          · rw [if_neg hb2, if_neg hb2, if_neg ha]
      cases r''; cases r
      simp only at hnd2 hee
      rw [hnd2, hee]
  cases s2; cases s
  simp only at hlast hns
  rw [hlast, hns]
end Go.Proofs.YtnkcbogikaebfaaGreatDoor
end

section
/- The walk of the law TreeRenames. -/
namespace Go.Proofs.YtnkcbogikaebfaaGreatDoor
open Go Go.RowKit
set_option maxRecDepth 100000
set_option linter.unusedSimpArgs false
set_option linter.unusedVariables false
attribute [local go_sem] giv
variable {E : Nat → Addr} {B : Nat}
theorem lookT_code (st : St) (x : ByteArray) (fo : Bool) : CodeOk (lookT st x fo).1 := by
  unfold lookT
  simp only
  split
  · exact parseP_code _
  · split
    · exact toP_code _ _ _
    · split
      · exact .inr (by simp)
      · exact .inl rfl
/-- An error is none, or one. -/
theorem err_val {c : Int} (h : CodeOk c) : (c = 0 ∧ errOf E c = .nilIface) ∨ (c ≠ 0 ∧ ∃ p, errOf E c = .iface 246 (.pointer (some p))) := by
  rcases h with rfl | h
  · exact .inl ⟨rfl, rfl⟩
  · exact .inr ⟨by omega, errOf_some h⟩
set_option maxHeartbeats 8000000 in
theorem treerenames_any {w : World} {v : Value} {acs : List Ac} (hr : ∀ w', Below B w w' → RdE w' 4 encAc v acs) (hin : ∀ c ∈ acs, -9223372036854775808 ≤ c.n ∧ c.n ≤ 9223372036854775807) (hml : acs.length ≤ maxLen) (hE : EnvM E B w) (x y : ByteArray) :
    Calls Tryz.prog 5 #[v, .string x, .string y] w fun e w' => e = .returned (.bool true) ∧ Below B w w' := by
  have HR := Lib.hid hr
  have HE := Lib.hid hE
  have HIN := Lib.hid hin
  have HML := Lib.hid hml
  generalize hP : (fun (e : Ending) (w' : World) => e = .returned (.bool true) ∧ Below B w w') = Post
  have HP := Lib.hid hP
  clear hr hE hin hml hP
  go_enter Tryz.func5, Tryz.ntmps5
  go_wp2_with fail
  refine (first_any HE.out).mono ?_
  rintro e w1 ⟨rfl, hb1⟩
  have HE1 := Lib.hid (HE.out.keep hb1)
  have HB1 := Lib.hid hb1
  have HR1 := Lib.hid (HR.out w1 hb1)
  clear hb1
  go_wp2_with fail
  refine (light_any HR1.out HML.out 30).mono ?_
  rintro e w2 ⟨bl, rfl, hb2, _⟩
  have HB2 := Lib.hid (HB1.out.trans (hb2.mono HE1.out.size))
  have HE2 := Lib.hid (HE1.out.below hb2)
  clear hb2 HB1 HE1 HR1
  have HEND : Hid (∀ w9, Below B w2 w9 → Post (.returned (.bool true)) w9) := Lib.hid (fun w9 hb => by rw [← HP.out]; exact ⟨rfl, HB2.out.trans hb⟩)
  cases bl
  case false =>
    go_wp2
    first | go_ret | skip
    exact HEND.out _ (Below.refl _ _)
  by_cases hx : (x.size : Int) > 200
  · go_wp2
    first | go_ret | skip
    exact HEND.out _ (Below.refl _ _)
  by_cases hy : (y.size : Int) > 200
  · go_wp2
    first | go_ret | skip
    exact HEND.out _ (Below.refl _ _)
  go_wp2_with fail
  refine (made_any HE2.out (fun w' hb => HR.out w' (HB2.out.trans hb)) HIN.out HML.out).mono ?_
  rintro e w3 ⟨a, b, t, dm, m, T, wx, rfl, hTM⟩
  obtain ⟨st, hst⟩ : ∃ st, playT acs = st := ⟨_, rfl⟩
  rw [hst] at hTM
  have HF := Lib.hid hTM.ts.full
  have H3 := Lib.hid hTM
  clear hst hTM hx hy
  -- what the calls say
  obtain ⟨⟨ca, na⟩, hla⟩ : ∃ r, lookT st x false = r := ⟨_, rfl⟩
  obtain ⟨⟨cf, nf⟩, hlf⟩ : ∃ r, lookT st y false = r := ⟨_, rfl⟩
  obtain ⟨⟨cg, ig, s1⟩, hrg⟩ : ∃ r, renameT st x y = r := ⟨_, rfl⟩
  have HLA := Lib.hid hla
  have HLF := Lib.hid hlf
  have HRG := Lib.hid hrg
  have va := err_val (E := E) (c := ca) (by have := lookT_code st x false; rw [hla] at this; exact this)
  have vf := err_val (E := E) (c := cf) (by have := lookT_code st y false; rw [hlf] at this; exact this)
  have vg := err_val (E := E) (c := cg) (by have := renameT_code st x y; rw [hrg] at this; exact this)
  have K1 := Lib.hid (ts_look H3.out.ts x false (v := errOf E ca) (by rw [hla]) (by rw [hla]) rfl)
  obtain ⟨na1, na2, na3, na4, na5, na6⟩ := na
  obtain ⟨nf1, nf2, nf3, nf4, nf5, nf6⟩ := nf
  have VA := Lib.hid va
  have VF := Lib.hid vf
  have VG := Lib.hid vg
  clear hla hlf hrg va vf vg
  unfold encN at K1
  simp only at K1
  go_wp2_with fail
  refine K1.out.mono ?_
  rintro e w4 ⟨rfl, ht, hk⟩
  go_upto_region 8 with fail
  obtain ⟨w4a, hwa⟩ : ∃ wa, wa = w4.alloc (.cells #[.int .i64 na1, .int .i64 na2, .int .i64 na3, .int .i64 na4, .string na5, .int .i64 na6] 39) := ⟨_, rfl⟩
  have bb : Below w4.heap.size w4 w4a := by rw [hwa]; exact bl_alloc (Below.refl _ _) _
  have r1 : Row w4a w4.heap.size 39 [.int .i64 na1, .int .i64 na2, .int .i64 na3, .int .i64 na4, .string na5, .int .i64 na6] := by rw [hwa]; exact Row.new _ _ _
  have hz1 := r1.lt
  rw [← hwa]
  obtain ⟨C1, hC1⟩ : ∃ C, w4.heap.size = C := ⟨_, rfl⟩
  rw [hC1] at r1 hz1 ⊢
  have HR1 := Lib.hid r1
  have H4 := Lib.hid ((H3.out.tree ht hk).own (X' := fun x => x = C1) bb (fun x hx => .inr (by rw [hx]; exact ⟨Nat.le_of_eq hC1, hz1⟩)))
  clear ht hk K1 hwa bb r1 hz1 hC1
  have K2 := Lib.hid (ts_look H4.out.ts y false (c := cf) (n := ⟨nf1, nf2, nf3, nf4, nf5, nf6⟩) (v := errOf E cf) (by rw [HLF.out]) (by rw [HLF.out]) rfl)
  unfold encN at K2
  simp only at K2
  go_wp2_with fail
  refine K2.out.mono ?_
  rintro e w5 ⟨rfl, ht, hk⟩
  go_upto_region 9 with fail
  obtain ⟨w5a, hwa⟩ : ∃ wa, wa = w5.alloc (.cells #[.int .i64 nf1, .int .i64 nf2, .int .i64 nf3, .int .i64 nf4, .string nf5, .int .i64 nf6] 39) := ⟨_, rfl⟩
  have bb : Below w5.heap.size w5 w5a := by rw [hwa]; exact bl_alloc (Below.refl _ _) _
  rw [← hwa]
  have H5 := Lib.hid ((H4.out.tree ht hk).below bb)
  clear ht hk K2 hwa bb
  have K3 := Lib.hid (ts_rename H5.out.ts x y (c := cg) (id := ig) (st' := s1) (v := errOf E cg) (by rw [HRG.out]) (by rw [HRG.out]) (by rw [HRG.out]) rfl)
  go_wp2_with fail
  refine K3.out.mono ?_
  rintro e w6 ⟨rfl, ht, hk⟩
  have H6 := Lib.hid (H5.out.tree ht hk)
  clear ht hk K3
  have HX : Hid (∀ w9, Below w6.heap.size w6 w9 → Post (.returned (.bool true)) w9) := Lib.hid (fun w9 hb => HEND.out w9 (H6.out.below hb).ts.bel)
  rcases VG.out with ⟨rfl, eg⟩ | ⟨hg, pg, eg⟩
  case inr =>
    rw [eg]
    clear eg
    go_wp2
    first | go_ret | skip
    exact HX.out _ (Below.refl _ _)
  rw [eg]
  clear eg
  by_cases hig : ig = 0
  case neg =>
    have hig2 : (ig == 0) = false := by rw [beq_eq_false_iff_ne]; exact hig
    have hig3 : (ig != 0) = true := by simp [bne, hig2]
    clear hig
    go_wp2
    first | go_ret | skip
    exact HX.out _ (Below.refl _ _)
  subst hig
  have h00 : ((0 : Int) == 0) = true := rfl
  rcases VA.out with ⟨rfl, ea⟩ | ⟨hg, pg, ea⟩
  case inr =>
    rw [ea]
    clear ea
    go_wp2
    first | go_ret | skip
    exact HX.out _ (Below.refl _ _)
  rw [ea]
  clear ea
  rcases VF.out with ⟨rfl, ef⟩ | ⟨hcf, pf, ef⟩
  case inl =>
    rw [ef]
    clear ef
    go_wp2
    first | go_ret | skip
    exact HX.out _ (Below.refl _ _)
  rw [ef]
  have HCF := Lib.hid hcf
  clear ef hcf VA VF VG
  have HRB : Hid (∀ nb back s2, lookT s1 y false = (0, nb) → renameT s1 y x = (0, back, s2) → nb.id = na1 ∧ back = 0 ∧ s2 = st) := Lib.hid (fun nb back s2 h1 h2 =>
    rename_back HF.out HRG.out HLA.out (by rw [HLF.out]; exact HCF.out) h1 h2)
  clear HLA HLF HRG HCF
  obtain ⟨⟨ch, nb⟩, hlh⟩ : ∃ r, lookT s1 y false = r := ⟨_, rfl⟩
  obtain ⟨⟨ci, ni⟩, hli⟩ : ∃ r, lookT s1 x false = r := ⟨_, rfl⟩
  obtain ⟨⟨cj, ij, s2⟩, hrj⟩ : ∃ r, renameT s1 y x = r := ⟨_, rfl⟩
  have HLH := Lib.hid hlh
  have HLI := Lib.hid hli
  have HRJ := Lib.hid hrj
  have VH := Lib.hid (err_val (E := E) (c := ch) (by have := lookT_code s1 y false; rw [hlh] at this; exact this))
  have VI := Lib.hid (err_val (E := E) (c := ci) (by have := lookT_code s1 x false; rw [hli] at this; exact this))
  have VJ := Lib.hid (err_val (E := E) (c := cj) (by have := renameT_code s1 y x; rw [hrj] at this; exact this))
  obtain ⟨nb1, nb2, nb3, nb4, nb5, nb6⟩ := nb
  obtain ⟨ni1, ni2, ni3, ni4, ni5, ni6⟩ := ni
  clear hlh hli hrj
  have K4 := Lib.hid (ts_look H6.out.ts y false (c := ch) (n := ⟨nb1, nb2, nb3, nb4, nb5, nb6⟩) (v := errOf E ch) (by rw [HLH.out]) (by rw [HLH.out]) rfl)
  unfold encN at K4
  simp only at K4
  go_wp2_with fail
  refine K4.out.mono ?_
  rintro e w7 ⟨rfl, ht, hk⟩
  go_upto_region 13 with fail
  obtain ⟨w7a, hwa⟩ : ∃ wa, wa = w7.alloc (.cells #[.int .i64 nb1, .int .i64 nb2, .int .i64 nb3, .int .i64 nb4, .string nb5, .int .i64 nb6] 39) := ⟨_, rfl⟩
  have bb : Below w7.heap.size w7 w7a := by rw [hwa]; exact bl_alloc (Below.refl _ _) _
  have r2 : Row w7a w7.heap.size 39 [.int .i64 nb1, .int .i64 nb2, .int .i64 nb3, .int .i64 nb4, .string nb5, .int .i64 nb6] := by rw [hwa]; exact Row.new _ _ _
  have hz1 := r2.lt
  rw [← hwa]
  obtain ⟨C2, hC2⟩ : ∃ C, w7.heap.size = C := ⟨_, rfl⟩
  rw [hC2] at r2 hz1 ⊢
  have h7 := H6.out.tree ht hk
  have HR7 := Lib.hid (And.intro ((HR1.out.keep (h7.xs C1 rfl)).below bb) r2)
  have H7 := Lib.hid (h7.own (X' := fun x => x = C1 ∨ x = C2) bb (fun x hx => by
    rcases hx with hx | hx
    · exact .inl hx
    · exact .inr (by rw [hx]; exact ⟨Nat.le_of_eq hC2, hz1⟩)))
  clear ht hk K4 hwa bb r2 hz1 hC2 h7
  have K5 := Lib.hid (ts_look H7.out.ts x false (c := ci) (n := ⟨ni1, ni2, ni3, ni4, ni5, ni6⟩) (v := errOf E ci) (by rw [HLI.out]) (by rw [HLI.out]) rfl)
  unfold encN at K5
  simp only at K5
  go_wp2_with fail
  refine K5.out.mono ?_
  rintro e w8 ⟨rfl, ht, hk⟩
  go_upto_region 14 with fail
  obtain ⟨w8a, hwa⟩ : ∃ wa, wa = w8.alloc (.cells #[.int .i64 ni1, .int .i64 ni2, .int .i64 ni3, .int .i64 ni4, .string ni5, .int .i64 ni6] 39) := ⟨_, rfl⟩
  have bb : Below w8.heap.size w8 w8a := by rw [hwa]; exact bl_alloc (Below.refl _ _) _
  rw [← hwa]
  have H8 := Lib.hid ((H7.out.tree ht hk).below bb)
  clear ht hk K5 hwa bb
  have K6 := Lib.hid (ts_rename H8.out.ts y x (c := cj) (id := ij) (st' := s2) (v := errOf E cj) (by rw [HRJ.out]) (by rw [HRJ.out]) (by rw [HRJ.out]) rfl)
  go_wp2_with fail
  refine K6.out.mono ?_
  rintro e w9 ⟨rfl, ht, hk⟩
  have H9 := Lib.hid (H8.out.tree ht hk)
  have x1 := (HR7.out.1.keep (H9.out.xs C1 (.inl rfl))).cell' (i := 0) rfl
  have x2 := (HR7.out.2.keep (H9.out.xs C2 (.inr rfl))).cell' (i := 0) rfl
  have xl1 := (HR7.out.1.keep (H9.out.xs C1 (.inl rfl))).lt
  have xl2 := (HR7.out.2.keep (H9.out.xs C2 (.inr rfl))).lt
  clear ht hk K6
  have HX : Hid (∀ w10, Below w9.heap.size w9 w10 → Post (.returned (.bool true)) w10) := Lib.hid (fun w9 hb => HEND.out w9 (H9.out.below hb).ts.bel)
  rcases VH.out with ⟨rfl, eh⟩ | ⟨hch, ph, eh⟩
  case inr =>
    rw [eh]
    clear eh
    go_wp2
    first | go_ret | skip
    exact HX.out _ (Below.refl _ _)
  rw [eh]
  clear eh
  by_cases hid : nb1 = na1
  case neg =>
    have hid2 : (nb1 == na1) = false := by rw [beq_eq_false_iff_ne]; exact hid
    have hid3 : (nb1 != na1) = true := by simp [bne, hid2]
    have HID := Lib.hid hid
    clear hid
    rcases VI.out with ⟨rfl, ei⟩ | ⟨hci, pi, ei⟩
    · rw [ei]
      clear ei
      go_wp2
      first | go_ret | skip
      exact HX.out _ (Below.refl _ _)
    · rcases VJ.out with ⟨rfl, ej⟩ | ⟨hcj, pj, ej⟩
      · exact absurd (HRB.out _ _ _ HLH.out HRJ.out).1 HID.out
      · rw [ei, ej]
        clear ei ej
        go_wp2
        first | go_ret | skip
        exact HX.out _ (Below.refl _ _)
  subst hid
  have hid2 : (nb1 == nb1) = true := by simp
  have hid3 : (nb1 != nb1) = false := by simp
  rcases VI.out with ⟨rfl, ei⟩ | ⟨hci, pi, ei⟩
  case inl =>
    rw [ei]
    clear ei
    go_wp2
    first | go_ret | skip
    exact HX.out _ (Below.refl _ _)
  rw [ei]
  clear ei
  rcases VJ.out with ⟨rfl, ej⟩ | ⟨hcj, pj, ej⟩
  case inr =>
    rw [ej]
    clear ej
    go_wp2
    first | go_ret | skip
    exact HX.out _ (Below.refl _ _)
  rw [ej]
  clear ej
  obtain ⟨_, hb0, hs2⟩ := HRB.out _ _ _ HLH.out HRJ.out
  subst hb0
  have H9' : Hid (TM E B (fun x => x = C1 ∨ x = C2) w7a a b t dm m T w2 st w9) := Lib.hid (by have := H9.out; rw [hs2] at this; exact this)
  clear hs2 H9
  go_wp2_with fail
  refine (same_any H9'.out).mono ?_
  rintro e w10 ⟨rfl, h10⟩
  have H10 := Lib.hid h10
  clear h10
  go_wp2
  first | go_ret | skip
  exact HEND.out _ H10.out.ts.bel
end Go.Proofs.YtnkcbogikaebfaaGreatDoor
end

section
/- What the card of TreeRenames asks beside the walk. -/
namespace Go.Proofs.YtnkcbogikaebfaaGreatDoor.treeRenames
open Go.ChangeShapes Go.WideShapes Go.ChangeAt Go.RowKit
set_option maxRecDepth 100000

theorem own : ownKnob Tryz.prog.godebug = none := by kernel_rfl
theorem door_met (os : Os) (args : Array Value) : laidMetH Tryz.prog Rows.treeRenamesRow.laid ((World.laidAll Tryz.prog os Rows.treeRenamesRow.laid).forCall (fun _ _ => 0) ⟨#[], args, []⟩).memory := by
  rw [MakeChecks.laidMetH_plain _ _ _ (by kernel_rfl)]
  exact laidMet_laidAll _ (by kernel_rfl) (by kernel_rfl)
theorem joined : joinedFacts Tryz.prog 5 Tryz.f5 Rows.treeRenamesSpec Rows.treeRenamesRow = true := by
  unfold joinedFacts
  rw [seat_laidOut, seat_mapsRowed, seat_stopsHeard, seat_mayEnter, seat_plainKeys, seat_lifted, seat_make]
  kernel_rfl
theorem inst : Tryz.f5.isInstance Tryz.prog Rows.treeRenamesRow.origin Rows.treeRenamesRow.targs := of_decide_eq_true (by kernel_rfl)
theorem wrap : Tryz.f5.isWrapper Tryz.prog Rows.treeRenamesRow.wrapper Rows.treeRenamesRow.mainSum := by
  unfold Func.isWrapper
  first | (rw [if_pos (by decide +kernel)]; kernel_rfl) | (rw [if_neg (by decide +kernel)]; exact ⟨rfl, rfl⟩)
end Go.Proofs.YtnkcbogikaebfaaGreatDoor.treeRenames
end

section
namespace Go.Proofs.YtnkcbogikaebfaaGreatDoor.treeRenames
open Go.ChangeShapes Go.WideShapes Go.ChangeAt Go.RowKit
set_option maxRecDepth 100000

theorem lifted (os : Os) (started : os.Started) (H : Type) (enc : TypeId × Value → H) :
    ReturnsInHanded {} Tryz.checked os 5 .any (fun w args => (Rows.treeRenamesSpec.pre enc Tryz.prog Tryz.f5 [] false w args ∧ laidMetH Tryz.prog Rows.treeRenamesRow.laid w) ∧ sizedMet enc Tryz.prog Tryz.f5 (OpenSpec.ofChange Rows.treeRenamesSpec) false w args)
      (Rows.treeRenamesSpec.post enc Tryz.prog Tryz.f5 false true false false) := by
  refine handed_and_shaped (C := Tryz.checked) (X := fun w _ => laidMetH Tryz.prog Rows.treeRenamesRow.laid w) (fun _ _ _ hh h => h.of_heap hh) own started (by kernel_rfl) Tryz.func5
    (ChangeSpec.witness_shaped (enc := enc) (C := Tryz.checked) (os := os) (X := fun w _ => laidMetH Tryz.prog Rows.treeRenamesRow.laid w) false (World.laidAll Tryz.prog os Rows.treeRenamesRow.laid) #[.slice none 0 0, .string ⟨#[]⟩, .string ⟨#[]⟩] 8 (World.laidAll_os _ _ _) (World.shaped_of_ZipB (by kernel_rfl) (by kernel_rfl)) (by kernel_rfl) (by kernel_rfl) (by kernel_rfl) (door_met os _)) ?_
  intro W base args ds gs before hval0 hW _ _ hL hSh _
  have hval : ∀ (j : Nat) t v, Tryz.f5.params[j]? = some t → args[j]? = some v → Value.okWide Tryz.prog W .any base t v := hval0
  have hW' := hW
  obtain ⟨p, q, hA0, hV, rfl, hfz, hnd⟩ := hW
  have hA : DataW.TrodAll enc Tryz.prog W 0 (fun _ => true) true Tryz.f5.params.toList args.toList ds p := hA0
  rw [Tryz.params5] at hA hval
  obtain ⟨v0, vs0, d0, ds0, p0, q0, hargs, rfl, rfl, h0, r0⟩ := trodAll_cons hA
  obtain ⟨v1, vs1, d1, ds1, p1, q1, rfl, rfl, rfl, h1, r1⟩ := trodAll_cons r0
  obtain ⟨v2, vs2, d2, ds2, p2, q2, rfl, rfl, rfl, h2, r2⟩ := trodAll_cons r1
  obtain ⟨rfl, rfl, rfl⟩ := trodAll_nil r2
  obtain rfl : args = #[v0, v1, v2] := by cases args; simp_all
  obtain ⟨rfl, rfl⟩ := trodVars_none hV
  have hW0 := hW'
  simp only [List.append_nil] at hW0
  have hlt := fun x hx => by simpa using hW0.lt x hx
  have hl0 : ∀ x ∈ p0, x.block < W.heap.size := fun x hx => hlt x (by simp [hx])
  have k0 : ∀ (W' : World), Below W.heap.size W W' → DataW.Trod enc Tryz.prog W' 0 (fun b => decide (b < W.heap.size)) true 22 v0 d0 p0 := fun W' hn => Below.trod seat_laidOut (by kernel_rfl) (of_decide_eq_true (by kernel_rfl)) h0 hn hl0
  obtain ⟨a0, rd0, ok0, ln0, sp0, n0, cap0, rfl⟩ := open_dos19_arg (hval 0 22 v0 rfl rfl) h0 hl0
  obtain ⟨a1, rfl, rfl, rfl, w1⟩ := Go.ChangeMaps.open_string Tryz.underlying9 (hval 1 9 v1 rfl rfl) h1
  obtain ⟨a2, rfl, rfl, rfl, w2⟩ := Go.ChangeMaps.open_string Tryz.underlying9 (hval 2 9 v2 rfl rfl) h2
  obtain ⟨E, hE0⟩ := env_of_laid_mid 1 24 hL (by kernel_rfl) (by kernel_rfl) (by kernel_rfl)
  have hE := envM_of hE0 hSh

  clear hA0 hval0
  simp only [List.append_nil] at hW'
  refine (treerenames_any (fun _ hb => rd0.below hb) ok0 ln0 hE a1 a2).mono fun e W' ⟨he, bel⟩ => ?_
  subst he
  refine ⟨_, rfl, _, _, _, [], p0 ++ ([] ++ ([] ++ ([]))), [], hW', trodAll_mk1 (shut_bool Tryz.underlying4 _), ?_, rfl, bel.frame _, fun h => by cases h⟩
  exact trodAll_cons_mk (k0 _ bel) (trodAll_cons_mk (Go.ChangeMaps.shut_string Tryz.underlying9 w1) (trodAll_cons_mk (Go.ChangeMaps.shut_string Tryz.underlying9 w2) trodAll_mk0))
theorem over : Rows.treeRenamesRow.holds Tryz.pinned (OpenSpec.ofChange Rows.treeRenamesSpec) :=
  OpenClaim.holds_of_wide 5 Tryz.f5 rfl rfl rfl rfl rfl rfl rfl ⟨rfl, rfl, rfl, rfl, rfl⟩ rfl rfl rfl rfl rfl (by kernel_rfl) Tryz.func5 joined inst wrap
    (fun os started H enc _ => lifted os started H enc)
theorem proved : Rows.TreeRenamesCardSaid :=
  Claim7.holds_tied_plain_at .later [] Rows.treeRenamesCard.laidKinds true Rows.treeRenamesCard.stood.harness true
    over (fun _ h => by cases h) (by kernel_rfl) (fun _ h => by cases h) treeRenames_row_tie rfl ⟨rfl, rfl⟩ (by kernel_rfl) rfl
    (fun f fn hf hfn => by
      obtain rfl : f = 5 := Option.some.inj ((show Tryz.prog.funcNamed "breviary/breviarylaw19.TreeRenames" = some 5 by kernel_rfl).symm.trans hf) |>.symm
      obtain rfl : fn = Tryz.f5 := (Option.some.inj (Tryz.func5.symm.trans hfn)).symm
      exact ⟨by kernel_rfl, fun j t ht => by
        rw [Tryz.params5] at ht
        have hm : t ∈ [22, 9, 9] := by
          have := Array.mem_of_getElem? ht
          simpa using this
        have hall : [22, 9, 9].all (fun t => !(Tryz.prog.wantsStandIn t)) = true := by kernel_rfl
        have h := (List.all_eq_true.1 hall) t hm
        simp only [Bool.not_eq_true'] at h
        exact h⟩)
    (by kernel_rfl)
#print axioms proved
end Go.Proofs.YtnkcbogikaebfaaGreatDoor.treeRenames
end
