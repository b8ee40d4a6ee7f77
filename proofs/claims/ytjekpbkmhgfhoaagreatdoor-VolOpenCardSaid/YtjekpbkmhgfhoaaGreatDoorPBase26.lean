/- Merged texts: LaidMid EnvShaped. -/
import Derived.Test.YtjekpbkmhgfhoaaGreatDoorPBase04
import Derived.Test.YtjekpbkmhgfhoaaGreatDoorPBase25
import Derived.Shelf.Vars
import Derived.KernelRfl
section
/- As LaidMore, for a row that lists other variables ahead of the errors and behind them. -/
namespace Go.Proofs.YtjekpbkmhgfhoaaGreatDoor
open Go Go.RowKit Go.ChangeShapes
set_option maxRecDepth 100000
theorem laid_take {W : World} : ∀ (k : Nat) (xs : List (String × DataW Unit)) (ps : List MemPlace), DataW.LaidVars Tryz.prog W xs ps → ∃ q, DataW.LaidVars Tryz.prog W (xs.take k) q ∧ q.Sublist ps
  | 0, xs, ps, h => ⟨[], (by exact rfl : DataW.LaidVars Tryz.prog W [] []), List.nil_sublist _⟩
  | k + 1, [], ps, h => ⟨ps, h, List.Sublist.refl _⟩
  | k + 1, (n, d) :: xs, ps, h => by
    obtain ⟨g1, t1, cs, fuel, p, q, hg, htt, hv, hd, hr, rfl⟩ := h
    obtain ⟨q', h1, h2⟩ := laid_take k xs q hr
    exact ⟨_, ⟨g1, t1, cs, fuel, p, q', hg, htt, hv, hd, h1, rfl⟩, h2.append_left _⟩
/-- The errors from the k-th laid variable on, m of them. -/
theorem env_of_laid_mid (k m : Nat) {W : World} {xs : List (String × DataW Unit)} (h : laidMetH Tryz.prog xs W) (hp : xs.all (fun x => x.2.handleName?.isNone) = true) (he : ((xs.drop k).take m).all (fun x => isErrD x.2) = true)
    (hn : ((xs.drop k).take m).map (fun x => Tryz.prog.globalNamed x.1) = errs.map some) : ∃ E, Env E W.heap.size W := by
  rw [MakeChecks.laidMetH_plain _ _ _ hp] at h
  obtain ⟨ps0, hl0, hnd0, hrows0⟩ := h
  obtain ⟨ps1, hl1, hsub1⟩ := laid_drop k xs ps0 hl0
  obtain ⟨ps, hl, hsub2⟩ := laid_take m (xs.drop k) ps1 hl1
  have hsub := hsub2.trans hsub1
  have hnd := hnd0.sublist hsub
  have hrows := fun b off hm => hrows0 b off (hsub.subset hm)
  obtain ⟨E, h1, h2, h3, h4⟩ := errs_laid (top := ps) (fun b off hm => (hrows b off hm).2) ((xs.drop k).take m) errs ps he hn (by kernel_rfl) (by decide) hl (fun x hx => hx) hnd
  have lt : ∀ {p : Addr} {c : Value}, W.cell? p = some c → p.block < W.heap.size := fun {p c} hc => by
    rcases Nat.lt_or_ge p.block W.heap.size with h | h
    · exact h
    · rw [World.cell?, Array.getElem?_eq_none h] at hc
      simp at hc
  exact ⟨E, Nat.le_refl _, fun g hg => lt (h1 g hg), fun g hg => by obtain ⟨c, hc⟩ := h2 g hg; exact lt hc, h1, fun g hg => (hrows _ _ (h3 g hg)).1, h4⟩
end Go.Proofs.YtjekpbkmhgfhoaaGreatDoor
end

section
/- MaxLen's cell out of the world's shape. -/
namespace Go.Proofs.YtjekpbkmhgfhoaaGreatDoor
open Go Go.RowKit Go.Lib
set_option maxRecDepth 100000
theorem envM_of {E : Nat → Addr} {W : World} (h : Env E W.heap.size W) (hs : W.ShapedOpen Tryz.prog) : EnvM E W.heap.size W := by
  have hm := cell_of_shapedOpen_int (g := 25) (t := 3) (zero := #[.int .i64 0]) (k := .i64) hs (by decide +kernel) (by kernel_rfl) rfl (by kernel_rfl) (by kernel_rfl) (by kernel_rfl)
  refine ⟨h, hm, ?_⟩
  obtain ⟨m, hc⟩ := hm
  rcases Nat.lt_or_ge 25 W.heap.size with h | h
  · exact h
  · rw [World.cell?, Array.getElem?_eq_none h] at hc
    simp at hc
end Go.Proofs.YtjekpbkmhgfhoaaGreatDoor
end
