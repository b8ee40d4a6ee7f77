/- What the listed package variables of a row give the walks: api's errors, each its own pointer ('Env'). -/
import Derived.Test.YtcjebpplmoakkaaGreatDoorErrs
import Derived.LaidLaws
import Derived.MakeChecks
import Derived.Stop.Joined
namespace Go.Proofs.YtcjebpplmoakkaaGreatDoor
open Go Go.RowKit Go.ChangeShapes
set_option maxRecDepth 100000

def isErrD : DataW Unit → Bool
  | .iface nm (.ptr (.agg [.lit (.string _)])) => nm == "*errors.errorString"
  | _ => false
theorem isErrD_shape {d : DataW Unit} (h : isErrD d = true) : ∃ text, d = .iface "*errors.errorString" (.ptr (.agg [.lit (.string text)])) := by
  unfold isErrD at h
  split at h
  · obtain rfl := beq_iff_eq.1 h
    exact ⟨_, rfl⟩
  · cases h

theorem errName (u : TypeId) (h : Tryz.prog.typeName? 3 u = some "*errors.errorString") : u = 384 := by
  have hstar : "*" ++ "errors.errorString" = "*errors.errorString" := by decide
  exact typeName_ptr_named (nm := "errors.errorString") (by rw [hstar]; kernel_rfl) (by kernel_rfl) (by decide) u (by rw [hstar]; exact h)

theorem row_one (a : Addr) : MemPlace.row a 1 = [.cell a.block a.off] := by simp [MemPlace.row]

theorem errs_laid {W : World} {top : List MemPlace}
    (hrows : ∀ b off, MemPlace.cell b off ∈ top → ∀ u v, W.cell? ⟨b, off, none⟩ = some (.iface u v) → Value.okWide Tryz.prog W .any 0 u v) :
    ∀ (xs : List (String × DataW Unit)) (gs : List Nat) (ps : List MemPlace), xs.all (fun x => isErrD x.2) = true → xs.map (fun x => Tryz.prog.globalNamed x.1) = gs.map some →
      gs.all (fun g => (Tryz.prog.globals[g]?).map (·.type) == some 26) = true → gs.Nodup →
      DataW.LaidVars Tryz.prog W xs ps → (∀ x ∈ ps, x ∈ top) → ps.Nodup →
      ∃ E : Nat → Addr, (∀ g ∈ gs, W.cell? ⟨g, 0, none⟩ = some (errV E g)) ∧ (∀ g ∈ gs, ∃ c, W.cell? (E g) = some c) ∧
        (∀ g ∈ gs, MemPlace.cell (E g).block (E g).off ∈ ps) ∧ (∀ g ∈ gs, ∀ h ∈ gs, E g = E h → g = h) := by
  intro xs
  induction xs with
  | nil =>
    intro gs ps _ hn _ _ _ _ _
    cases gs with
    | nil => exact ⟨fun _ => ⟨0, 0, none⟩, by simp, by simp, by simp, by simp⟩
    | cons g r => simp at hn
  | cons x xs ih =>
    intro gs ps herr hn ht hnd hl htop hps
    cases gs with
    | nil => simp at hn
    | cons g gs =>
      obtain ⟨n, d⟩ := x
      simp only [List.map_cons, List.cons.injEq] at hn
      simp only [List.all_cons, Bool.and_eq_true, beq_iff_eq] at herr ht
      obtain ⟨hg', hn⟩ := hn
      obtain ⟨he, herr⟩ := herr
      obtain ⟨ht', ht⟩ := ht
      rw [List.nodup_cons] at hnd
      obtain ⟨hgn, hnd⟩ := hnd
      obtain ⟨text, rfl⟩ := isErrD_shape he
      obtain ⟨g1, t1, cs, fuel, p, q, hg, htt, hv, hd, hr, rfl⟩ := hl
      obtain rfl := Option.some.inj (hg'.symm.trans hg)
      obtain rfl := Option.some.inj (ht'.symm.trans htt)
      obtain ⟨l⟩ := cs
      have ok : ∀ u v, l = [.iface u v] → Value.okWide Tryz.prog W .any 0 u v := fun u v e => by
        subst e
        exact hrows g 0 (htop _ (by simp [MemPlace.row])) u v (by simpa using World.var?_cell hg hv 0)
      obtain ⟨a, s, rfl, hc, _, _, rfl⟩ := errorString_of_trod Tryz.underlying26 errName Tryz.underlying384 Tryz.underlying400 rfl rfl Tryz.underlying9 (by kernel_rfl) (by kernel_rfl) hd ok
      have hcell : W.cell? ⟨g, 0, none⟩ = some (.iface 384 (.pointer (some a))) := by simpa using World.var?_cell hg hv 0
      rw [List.nodup_append] at hps
      obtain ⟨hp1, hq, hdis⟩ := hps
      obtain ⟨E, h1, h2, h3, h4⟩ := ih gs q herr hn ht hnd hr (fun x hx => htop x (List.mem_append_right _ hx)) hq
      have hne : ∀ h ∈ gs, h ≠ g := fun h hh e => hgn (e ▸ hh)
      have hnew : ∀ h ∈ gs, E h ≠ a := fun h hh e => by
        have := h3 h hh
        rw [e] at this
        exact hdis (.cell a.block a.off) (by simp [MemPlace.row]) _ this rfl
      refine ⟨fun x => if x = g then a else E x, ?_, ?_, ?_, ?_⟩
      · intro x hx
        rcases List.mem_cons.1 hx with rfl | hx
        · simpa [errV] using hcell
        · simpa [errV, hne x hx] using h1 x hx
      · intro x hx
        rcases List.mem_cons.1 hx with rfl | hx
        · exact ⟨_, by simpa using hc⟩
        · simpa [hne x hx] using h2 x hx
      · intro x hx
        rcases List.mem_cons.1 hx with rfl | hx
        · simp [MemPlace.row]
        · exact List.mem_append_right _ (by simpa [hne x hx] using h3 x hx)
      · intro x hx y hy e
        rcases List.mem_cons.1 hx with rfl | kx <;> rcases List.mem_cons.1 hy with rfl | ky
        · rfl
        · simp [hne y ky] at e
          exact absurd e.symm (hnew y ky)
        · simp [hne x kx] at e
          exact absurd e (hnew x kx)
        · simp [hne x kx, hne y ky] at e
          exact h4 x kx y ky e

theorem env_of_laid {W : World} {xs : List (String × DataW Unit)} (h : laidMetH Tryz.prog xs W) (hp : xs.all (fun x => x.2.handleName?.isNone) = true) (he : xs.all (fun x => isErrD x.2) = true)
    (hn : xs.map (fun x => Tryz.prog.globalNamed x.1) = errs.map some) : ∃ E, Env E W.heap.size W := by
  rw [MakeChecks.laidMetH_plain _ _ _ hp] at h
  obtain ⟨ps, hl, hnd, hrows⟩ := h
  obtain ⟨E, h1, h2, h3, h4⟩ := errs_laid (top := ps) (fun b off hm => (hrows b off hm).2) xs errs ps he hn (by kernel_rfl) (by decide) hl (fun x hx => hx) hnd
  have lt : ∀ {p : Addr} {c : Value}, W.cell? p = some c → p.block < W.heap.size := fun {p c} hc => by
    rcases Nat.lt_or_ge p.block W.heap.size with h | h
    · exact h
    · rw [World.cell?, Array.getElem?_eq_none h] at hc
      simp at hc
  exact ⟨E, Nat.le_refl _, fun g hg => lt (h1 g hg), fun g hg => by obtain ⟨c, hc⟩ := h2 g hg; exact lt hc, h1, fun g hg => (hrows _ _ (h3 g hg)).1, h4⟩
end Go.Proofs.YtcjebpplmoakkaaGreatDoor
