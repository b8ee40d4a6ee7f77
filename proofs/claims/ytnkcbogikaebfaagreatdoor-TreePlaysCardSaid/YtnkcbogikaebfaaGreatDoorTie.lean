/-
  DERIVED. GIVEN WITH THE SEED: THE PROGRAM's TIES (one call each: nine closed facts by the kernel) AND EACH ROW's TIE, after the 31st guide's Derived/Test/Toyas{Tie, Card}.lean. No idea stands in it: it is a product of the set-up. Laid BY PROGRAM, IN A SANDBOX (cutbox-door.mjs). By AI agents, Wed Nov 11 2026. No macro, syntax, notation, axiom, sorry.
-/
import Derived.Test.YtnkcbogikaebfaaGreatDoorRows
import Derived.LaidByTextLater
import Derived.SevenTiedAt
import Derived.LaidSub
import Derived.LaidOnce
namespace Go.Proofs.YtnkcbogikaebfaaGreatDoor
open Go
set_option maxRecDepth 100000
theorem seatTie1 : Tryz.prog.laidByTextLater [("unicode/utf8.acceptRanges", Rows.laid_unicode_utf8_acceptRanges), ("breviary/api.ErrEnd", Rows.laid_breviary_api_ErrEnd), ("breviary/api.ErrShape", Rows.laid_breviary_api_ErrShape), ("breviary/api.ErrRange", Rows.laid_breviary_api_ErrRange), ("breviary/api.ErrMany", Rows.laid_breviary_api_ErrMany), ("breviary/api.ErrFull", Rows.laid_breviary_api_ErrFull), ("breviary/api.ErrCrash", Rows.laid_breviary_api_ErrCrash), ("breviary/api.ErrIO", Rows.laid_breviary_api_ErrIO), ("breviary/api.ErrState", Rows.laid_breviary_api_ErrState), ("breviary/api.ErrNoEnt", Rows.laid_breviary_api_ErrNoEnt), ("breviary/api.ErrExist", Rows.laid_breviary_api_ErrExist), ("breviary/api.ErrNotDir", Rows.laid_breviary_api_ErrNotDir), ("breviary/api.ErrIsDir", Rows.laid_breviary_api_ErrIsDir), ("breviary/api.ErrNotEmpty", Rows.laid_breviary_api_ErrNotEmpty), ("breviary/api.ErrInval", Rows.laid_breviary_api_ErrInval), ("breviary/api.ErrLong", Rows.laid_breviary_api_ErrLong), ("breviary/api.ErrLoop", Rows.laid_breviary_api_ErrLoop), ("breviary/api.ErrMLink", Rows.laid_breviary_api_ErrMLink), ("breviary/api.ErrFBig", Rows.laid_breviary_api_ErrFBig), ("breviary/api.ErrNoSpc", Rows.laid_breviary_api_ErrNoSpc), ("breviary/api.ErrMFile", Rows.laid_breviary_api_ErrMFile), ("breviary/api.ErrBadF", Rows.laid_breviary_api_ErrBadF), ("breviary/api.ErrRefused", Rows.laid_breviary_api_ErrRefused), ("breviary/api.ErrWord", Rows.laid_breviary_api_ErrWord), ("breviary/api.ErrNumber", Rows.laid_breviary_api_ErrNumber)] [.data, .sentinel, .sentinel, .sentinel, .sentinel, .sentinel, .sentinel, .sentinel, .sentinel, .sentinel, .sentinel, .sentinel, .sentinel, .sentinel, .sentinel, .sentinel, .sentinel, .sentinel, .sentinel, .sentinel, .sentinel, .sentinel, .sentinel, .sentinel, .sentinel] true :=
  Program.laidByTextLater_by_one 475 8 33 (by kernel_rfl) (by kernel_rfl) (by kernel_rfl) (by kernel_rfl) (by kernel_rfl) (by kernel_rfl) (fun _ _ => by kernel_rfl)
theorem pin_laid_unicode_utf8_first : Tryz.pinned.checked.prog.pinnedFits "unicode/utf8.first" = true := by kernel_rfl
theorem noOwnUnsafe : Tryz.pinned.checked.prog.headLifts.contains "ownunsafe" = false := by kernel_rfl
theorem fits1 : Tryz.pinned.checked.prog.listedFits [("unicode/utf8.acceptRanges", Rows.laid_unicode_utf8_acceptRanges), ("breviary/api.ErrEnd", Rows.laid_breviary_api_ErrEnd), ("breviary/api.ErrShape", Rows.laid_breviary_api_ErrShape), ("breviary/api.ErrRange", Rows.laid_breviary_api_ErrRange), ("breviary/api.ErrMany", Rows.laid_breviary_api_ErrMany), ("breviary/api.ErrFull", Rows.laid_breviary_api_ErrFull), ("breviary/api.ErrCrash", Rows.laid_breviary_api_ErrCrash), ("breviary/api.ErrIO", Rows.laid_breviary_api_ErrIO), ("breviary/api.ErrState", Rows.laid_breviary_api_ErrState), ("breviary/api.ErrNoEnt", Rows.laid_breviary_api_ErrNoEnt), ("breviary/api.ErrExist", Rows.laid_breviary_api_ErrExist), ("breviary/api.ErrNotDir", Rows.laid_breviary_api_ErrNotDir), ("breviary/api.ErrIsDir", Rows.laid_breviary_api_ErrIsDir), ("breviary/api.ErrNotEmpty", Rows.laid_breviary_api_ErrNotEmpty), ("breviary/api.ErrInval", Rows.laid_breviary_api_ErrInval), ("breviary/api.ErrLong", Rows.laid_breviary_api_ErrLong), ("breviary/api.ErrLoop", Rows.laid_breviary_api_ErrLoop), ("breviary/api.ErrMLink", Rows.laid_breviary_api_ErrMLink), ("breviary/api.ErrFBig", Rows.laid_breviary_api_ErrFBig), ("breviary/api.ErrNoSpc", Rows.laid_breviary_api_ErrNoSpc), ("breviary/api.ErrMFile", Rows.laid_breviary_api_ErrMFile), ("breviary/api.ErrBadF", Rows.laid_breviary_api_ErrBadF), ("breviary/api.ErrRefused", Rows.laid_breviary_api_ErrRefused), ("breviary/api.ErrWord", Rows.laid_breviary_api_ErrWord), ("breviary/api.ErrNumber", Rows.laid_breviary_api_ErrNumber), ("unicode/utf8.first", Rows.laid_unicode_utf8_first)] = true := by
  unfold Program.listedFits
  rw [noOwnUnsafe]
  kernel_rfl
theorem tie : Tryz.prog.laidByTextLater [("unicode/utf8.acceptRanges", Rows.laid_unicode_utf8_acceptRanges), ("breviary/api.ErrEnd", Rows.laid_breviary_api_ErrEnd), ("breviary/api.ErrShape", Rows.laid_breviary_api_ErrShape), ("breviary/api.ErrRange", Rows.laid_breviary_api_ErrRange), ("breviary/api.ErrMany", Rows.laid_breviary_api_ErrMany), ("breviary/api.ErrFull", Rows.laid_breviary_api_ErrFull), ("breviary/api.ErrCrash", Rows.laid_breviary_api_ErrCrash), ("breviary/api.ErrIO", Rows.laid_breviary_api_ErrIO), ("breviary/api.ErrState", Rows.laid_breviary_api_ErrState), ("breviary/api.ErrNoEnt", Rows.laid_breviary_api_ErrNoEnt), ("breviary/api.ErrExist", Rows.laid_breviary_api_ErrExist), ("breviary/api.ErrNotDir", Rows.laid_breviary_api_ErrNotDir), ("breviary/api.ErrIsDir", Rows.laid_breviary_api_ErrIsDir), ("breviary/api.ErrNotEmpty", Rows.laid_breviary_api_ErrNotEmpty), ("breviary/api.ErrInval", Rows.laid_breviary_api_ErrInval), ("breviary/api.ErrLong", Rows.laid_breviary_api_ErrLong), ("breviary/api.ErrLoop", Rows.laid_breviary_api_ErrLoop), ("breviary/api.ErrMLink", Rows.laid_breviary_api_ErrMLink), ("breviary/api.ErrFBig", Rows.laid_breviary_api_ErrFBig), ("breviary/api.ErrNoSpc", Rows.laid_breviary_api_ErrNoSpc), ("breviary/api.ErrMFile", Rows.laid_breviary_api_ErrMFile), ("breviary/api.ErrBadF", Rows.laid_breviary_api_ErrBadF), ("breviary/api.ErrRefused", Rows.laid_breviary_api_ErrRefused), ("breviary/api.ErrWord", Rows.laid_breviary_api_ErrWord), ("breviary/api.ErrNumber", Rows.laid_breviary_api_ErrNumber)] [.data, .sentinel, .sentinel, .sentinel, .sentinel, .sentinel, .sentinel, .sentinel, .sentinel, .sentinel, .sentinel, .sentinel, .sentinel, .sentinel, .sentinel, .sentinel, .sentinel, .sentinel, .sentinel, .sentinel, .sentinel, .sentinel, .sentinel, .sentinel, .sentinel] true :=
  Program.laidByTextLater.sub seatTie1 ["unicode/utf8.acceptRanges", "breviary/api.ErrEnd", "breviary/api.ErrShape", "breviary/api.ErrRange", "breviary/api.ErrMany", "breviary/api.ErrFull", "breviary/api.ErrCrash", "breviary/api.ErrIO", "breviary/api.ErrState", "breviary/api.ErrNoEnt", "breviary/api.ErrExist", "breviary/api.ErrNotDir", "breviary/api.ErrIsDir", "breviary/api.ErrNotEmpty", "breviary/api.ErrInval", "breviary/api.ErrLong", "breviary/api.ErrLoop", "breviary/api.ErrMLink", "breviary/api.ErrFBig", "breviary/api.ErrNoSpc", "breviary/api.ErrMFile", "breviary/api.ErrBadF", "breviary/api.ErrRefused", "breviary/api.ErrWord", "breviary/api.ErrNumber"] (by kernel_rfl) (by kernel_rfl)
theorem treeLinks_row_tie : Rows.treeLinksRow.laidByTextAt .later Tryz.pinned [.data, .sentinel, .sentinel, .sentinel, .sentinel, .sentinel, .sentinel, .sentinel, .sentinel, .sentinel, .sentinel, .sentinel, .sentinel, .sentinel, .sentinel, .sentinel, .sentinel, .sentinel, .sentinel, .sentinel, .sentinel, .sentinel, .sentinel, .sentinel, .sentinel, .pinned] true :=
  OpenClaim.laidByTextAt_pinned rfl rfl tie rfl rfl rfl rfl (fun y hy _e => by
    simp only [Rows.treeLinksRow, List.zip_cons_cons, List.zip_nil_right, List.mem_cons, List.mem_nil_iff, or_false] at hy
    rcases hy with rfl | rfl | rfl | rfl | rfl | rfl | rfl | rfl | rfl | rfl | rfl | rfl | rfl | rfl | rfl | rfl | rfl | rfl | rfl | rfl | rfl | rfl | rfl | rfl | rfl | rfl
    · cases _e
    · cases _e
    · cases _e
    · cases _e
    · cases _e
    · cases _e
    · cases _e
    · cases _e
    · cases _e
    · cases _e
    · cases _e
    · cases _e
    · cases _e
    · cases _e
    · cases _e
    · cases _e
    · cases _e
    · cases _e
    · cases _e
    · cases _e
    · cases _e
    · cases _e
    · cases _e
    · cases _e
    · cases _e
    · exact ⟨pin_laid_unicode_utf8_first, by kernel_rfl⟩) fits1
theorem treeRefuses_row_tie : Rows.treeRefusesRow.laidByTextAt .later Tryz.pinned [.data, .sentinel, .sentinel, .sentinel, .sentinel, .sentinel, .sentinel, .sentinel, .sentinel, .sentinel, .sentinel, .sentinel, .sentinel, .sentinel, .sentinel, .sentinel, .sentinel, .sentinel, .sentinel, .sentinel, .sentinel, .sentinel, .sentinel, .sentinel, .sentinel, .pinned] true :=
  OpenClaim.laidByTextAt_pinned rfl rfl tie rfl rfl rfl rfl (fun y hy _e => by
    simp only [Rows.treeRefusesRow, List.zip_cons_cons, List.zip_nil_right, List.mem_cons, List.mem_nil_iff, or_false] at hy
    rcases hy with rfl | rfl | rfl | rfl | rfl | rfl | rfl | rfl | rfl | rfl | rfl | rfl | rfl | rfl | rfl | rfl | rfl | rfl | rfl | rfl | rfl | rfl | rfl | rfl | rfl | rfl
    · cases _e
    · cases _e
    · cases _e
    · cases _e
    · cases _e
    · cases _e
    · cases _e
    · cases _e
    · cases _e
    · cases _e
    · cases _e
    · cases _e
    · cases _e
    · cases _e
    · cases _e
    · cases _e
    · cases _e
    · cases _e
    · cases _e
    · cases _e
    · cases _e
    · cases _e
    · cases _e
    · cases _e
    · cases _e
    · exact ⟨pin_laid_unicode_utf8_first, by kernel_rfl⟩) fits1
theorem treeRenames_row_tie : Rows.treeRenamesRow.laidByTextAt .later Tryz.pinned [.data, .sentinel, .sentinel, .sentinel, .sentinel, .sentinel, .sentinel, .sentinel, .sentinel, .sentinel, .sentinel, .sentinel, .sentinel, .sentinel, .sentinel, .sentinel, .sentinel, .sentinel, .sentinel, .sentinel, .sentinel, .sentinel, .sentinel, .sentinel, .sentinel, .pinned] true :=
  OpenClaim.laidByTextAt_pinned rfl rfl tie rfl rfl rfl rfl (fun y hy _e => by
    simp only [Rows.treeRenamesRow, List.zip_cons_cons, List.zip_nil_right, List.mem_cons, List.mem_nil_iff, or_false] at hy
    rcases hy with rfl | rfl | rfl | rfl | rfl | rfl | rfl | rfl | rfl | rfl | rfl | rfl | rfl | rfl | rfl | rfl | rfl | rfl | rfl | rfl | rfl | rfl | rfl | rfl | rfl | rfl
    · cases _e
    · cases _e
    · cases _e
    · cases _e
    · cases _e
    · cases _e
    · cases _e
    · cases _e
    · cases _e
    · cases _e
    · cases _e
    · cases _e
    · cases _e
    · cases _e
    · cases _e
    · cases _e
    · cases _e
    · cases _e
    · cases _e
    · cases _e
    · cases _e
    · cases _e
    · cases _e
    · cases _e
    · cases _e
    · exact ⟨pin_laid_unicode_utf8_first, by kernel_rfl⟩) fits1
theorem treePlays_row_tie : Rows.treePlaysRow.laidByTextAt .later Tryz.pinned [.data, .sentinel, .sentinel, .sentinel, .sentinel, .sentinel, .sentinel, .sentinel, .sentinel, .sentinel, .sentinel, .sentinel, .sentinel, .sentinel, .sentinel, .sentinel, .sentinel, .sentinel, .sentinel, .sentinel, .sentinel, .sentinel, .sentinel, .sentinel, .sentinel, .pinned] true :=
  OpenClaim.laidByTextAt_pinned rfl rfl tie rfl rfl rfl rfl (fun y hy _e => by
    simp only [Rows.treePlaysRow, List.zip_cons_cons, List.zip_nil_right, List.mem_cons, List.mem_nil_iff, or_false] at hy
    rcases hy with rfl | rfl | rfl | rfl | rfl | rfl | rfl | rfl | rfl | rfl | rfl | rfl | rfl | rfl | rfl | rfl | rfl | rfl | rfl | rfl | rfl | rfl | rfl | rfl | rfl | rfl
    · cases _e
    · cases _e
    · cases _e
    · cases _e
    · cases _e
    · cases _e
    · cases _e
    · cases _e
    · cases _e
    · cases _e
    · cases _e
    · cases _e
    · cases _e
    · cases _e
    · cases _e
    · cases _e
    · cases _e
    · cases _e
    · cases _e
    · cases _e
    · cases _e
    · cases _e
    · cases _e
    · cases _e
    · cases _e
    · exact ⟨pin_laid_unicode_utf8_first, by kernel_rfl⟩) fits1
theorem treeLinksUpto_row_tie : Rows.treeLinksUptoRow.laidByTextAt .later Tryz.pinned [.data, .sentinel, .sentinel, .sentinel, .sentinel, .sentinel, .sentinel, .sentinel, .sentinel, .sentinel, .sentinel, .sentinel, .sentinel, .sentinel, .sentinel, .sentinel, .sentinel, .sentinel, .sentinel, .sentinel, .sentinel, .sentinel, .sentinel, .sentinel, .sentinel, .pinned] true :=
  OpenClaim.laidByTextAt_pinned rfl rfl tie rfl rfl rfl rfl (fun y hy _e => by
    simp only [Rows.treeLinksUptoRow, List.zip_cons_cons, List.zip_nil_right, List.mem_cons, List.mem_nil_iff, or_false] at hy
    rcases hy with rfl | rfl | rfl | rfl | rfl | rfl | rfl | rfl | rfl | rfl | rfl | rfl | rfl | rfl | rfl | rfl | rfl | rfl | rfl | rfl | rfl | rfl | rfl | rfl | rfl | rfl
    · cases _e
    · cases _e
    · cases _e
    · cases _e
    · cases _e
    · cases _e
    · cases _e
    · cases _e
    · cases _e
    · cases _e
    · cases _e
    · cases _e
    · cases _e
    · cases _e
    · cases _e
    · cases _e
    · cases _e
    · cases _e
    · cases _e
    · cases _e
    · cases _e
    · cases _e
    · cases _e
    · cases _e
    · cases _e
    · exact ⟨pin_laid_unicode_utf8_first, by kernel_rfl⟩) fits1
theorem treeRefusesUpto_row_tie : Rows.treeRefusesUptoRow.laidByTextAt .later Tryz.pinned [.data, .sentinel, .sentinel, .sentinel, .sentinel, .sentinel, .sentinel, .sentinel, .sentinel, .sentinel, .sentinel, .sentinel, .sentinel, .sentinel, .sentinel, .sentinel, .sentinel, .sentinel, .sentinel, .sentinel, .sentinel, .sentinel, .sentinel, .sentinel, .sentinel, .pinned] true :=
  OpenClaim.laidByTextAt_pinned rfl rfl tie rfl rfl rfl rfl (fun y hy _e => by
    simp only [Rows.treeRefusesUptoRow, List.zip_cons_cons, List.zip_nil_right, List.mem_cons, List.mem_nil_iff, or_false] at hy
    rcases hy with rfl | rfl | rfl | rfl | rfl | rfl | rfl | rfl | rfl | rfl | rfl | rfl | rfl | rfl | rfl | rfl | rfl | rfl | rfl | rfl | rfl | rfl | rfl | rfl | rfl | rfl
    · cases _e
    · cases _e
    · cases _e
    · cases _e
    · cases _e
    · cases _e
    · cases _e
    · cases _e
    · cases _e
    · cases _e
    · cases _e
    · cases _e
    · cases _e
    · cases _e
    · cases _e
    · cases _e
    · cases _e
    · cases _e
    · cases _e
    · cases _e
    · cases _e
    · cases _e
    · cases _e
    · cases _e
    · cases _e
    · exact ⟨pin_laid_unicode_utf8_first, by kernel_rfl⟩) fits1
theorem treeRenamesUpto_row_tie : Rows.treeRenamesUptoRow.laidByTextAt .later Tryz.pinned [.data, .sentinel, .sentinel, .sentinel, .sentinel, .sentinel, .sentinel, .sentinel, .sentinel, .sentinel, .sentinel, .sentinel, .sentinel, .sentinel, .sentinel, .sentinel, .sentinel, .sentinel, .sentinel, .sentinel, .sentinel, .sentinel, .sentinel, .sentinel, .sentinel, .pinned] true :=
  OpenClaim.laidByTextAt_pinned rfl rfl tie rfl rfl rfl rfl (fun y hy _e => by
    simp only [Rows.treeRenamesUptoRow, List.zip_cons_cons, List.zip_nil_right, List.mem_cons, List.mem_nil_iff, or_false] at hy
    rcases hy with rfl | rfl | rfl | rfl | rfl | rfl | rfl | rfl | rfl | rfl | rfl | rfl | rfl | rfl | rfl | rfl | rfl | rfl | rfl | rfl | rfl | rfl | rfl | rfl | rfl | rfl
    · cases _e
    · cases _e
    · cases _e
    · cases _e
    · cases _e
    · cases _e
    · cases _e
    · cases _e
    · cases _e
    · cases _e
    · cases _e
    · cases _e
    · cases _e
    · cases _e
    · cases _e
    · cases _e
    · cases _e
    · cases _e
    · cases _e
    · cases _e
    · cases _e
    · cases _e
    · cases _e
    · cases _e
    · cases _e
    · exact ⟨pin_laid_unicode_utf8_first, by kernel_rfl⟩) fits1
theorem treePlaysUpto_row_tie : Rows.treePlaysUptoRow.laidByTextAt .later Tryz.pinned [.data, .sentinel, .sentinel, .sentinel, .sentinel, .sentinel, .sentinel, .sentinel, .sentinel, .sentinel, .sentinel, .sentinel, .sentinel, .sentinel, .sentinel, .sentinel, .sentinel, .sentinel, .sentinel, .sentinel, .sentinel, .sentinel, .sentinel, .sentinel, .sentinel, .pinned] true :=
  OpenClaim.laidByTextAt_pinned rfl rfl tie rfl rfl rfl rfl (fun y hy _e => by
    simp only [Rows.treePlaysUptoRow, List.zip_cons_cons, List.zip_nil_right, List.mem_cons, List.mem_nil_iff, or_false] at hy
    rcases hy with rfl | rfl | rfl | rfl | rfl | rfl | rfl | rfl | rfl | rfl | rfl | rfl | rfl | rfl | rfl | rfl | rfl | rfl | rfl | rfl | rfl | rfl | rfl | rfl | rfl | rfl
    · cases _e
    · cases _e
    · cases _e
    · cases _e
    · cases _e
    · cases _e
    · cases _e
    · cases _e
    · cases _e
    · cases _e
    · cases _e
    · cases _e
    · cases _e
    · cases _e
    · cases _e
    · cases _e
    · cases _e
    · cases _e
    · cases _e
    · cases _e
    · cases _e
    · cases _e
    · cases _e
    · cases _e
    · cases _e
    · exact ⟨pin_laid_unicode_utf8_first, by kernel_rfl⟩) fits1
end Go.Proofs.YtnkcbogikaebfaaGreatDoor
