/- As Laid, for a row that lists other variables ahead of the errors. -/
import Derived.Test.YtcjebpplmoakkaaGreatDoorLaid
namespace Go.Proofs.YtcjebpplmoakkaaGreatDoor
open Go Go.RowKit Go.ChangeShapes
set_option maxRecDepth 100000

theorem laid_drop {W : World} : ∀ (k : Nat) (xs : List (String × DataW Unit)) (ps : List MemPlace), DataW.LaidVars Tryz.prog W xs ps → ∃ q, DataW.LaidVars Tryz.prog W (xs.drop k) q ∧ q.Sublist ps
  | 0, xs, ps, h => ⟨ps, h, List.Sublist.refl _⟩
  | k + 1, [], ps, h => ⟨ps, h, List.Sublist.refl _⟩
  | k + 1, (n, d) :: xs, ps, h => by
    obtain ⟨g1, t1, cs, fuel, p, q, hg, htt, hv, hd, hr, rfl⟩ := h
    obtain ⟨q', h1, h2⟩ := laid_drop k xs q hr
    exact ⟨q', h1, h2.trans (List.sublist_append_right _ _)⟩

theorem env_of_laid_at (k : Nat) {W : World} {xs : List (String × DataW Unit)} (h : laidMetH Tryz.prog xs W) (hp : xs.all (fun x => x.2.handleName?.isNone) = true) (he : (xs.drop k).all (fun x => isErrD x.2) = true)
    (hn : (xs.drop k).map (fun x => Tryz.prog.globalNamed x.1) = errs.map some) : ∃ E, Env E W.heap.size W := by
  rw [MakeChecks.laidMetH_plain _ _ _ hp] at h
  obtain ⟨ps0, hl0, hnd0, hrows0⟩ := h
  obtain ⟨ps, hl, hsub⟩ := laid_drop k xs ps0 hl0
  have hnd := hnd0.sublist hsub
  have hrows := fun b off hm => hrows0 b off (hsub.subset hm)
  obtain ⟨E, h1, h2, h3, h4⟩ := errs_laid (top := ps) (fun b off hm => (hrows b off hm).2) (xs.drop k) errs ps he hn (by kernel_rfl) (by decide) hl (fun x hx => hx) hnd
  have lt : ∀ {p : Addr} {c : Value}, W.cell? p = some c → p.block < W.heap.size := fun {p c} hc => by
    rcases Nat.lt_or_ge p.block W.heap.size with h | h
    · exact h
    · rw [World.cell?, Array.getElem?_eq_none h] at hc
      simp at hc
  exact ⟨E, Nat.le_refl _, fun g hg => lt (h1 g hg), fun g hg => by obtain ⟨c, hc⟩ := h2 g hg; exact lt hc, h1, fun g hg => (hrows _ _ (h3 g hg)).1, h4⟩
end Go.Proofs.YtcjebpplmoakkaaGreatDoor
