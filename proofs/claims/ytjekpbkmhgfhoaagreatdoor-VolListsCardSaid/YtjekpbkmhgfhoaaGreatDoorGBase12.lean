/- Merged texts: DirAll. -/
import Derived.Test.YtjekpbkmhgfhoaaGreatDoorIterS
import Derived.Test.YtjekpbkmhgfhoaaGreatDoorGBase07
import Derived.Test.YtjekpbkmhgfhoaaGreatDoorGBase09
import Derived.Test.YtjekpbkmhgfhoaaGreatDoorGBase11
section
/- The names of a directory, rising: slices.Sorted(maps.Keys(m)) by the kit's contracts. -/
namespace Go.Proofs.YtjekpbkmhgfhoaaGreatDoor
open Go Go.RowKit Go.Maps Go.Sort
open Go.Proofs (encStr)
set_option maxRecDepth 100000
set_option linter.unusedSimpArgs false

def encS (s : ByteArray) : List Value := [.string s]
theorem flat_encS (ks : List ByteArray) : flat encS ks = ks.map Value.string := by
  induction ks with
  | nil => rfl
  | cons k ks ih => rw [flat_cons, ih]; rfl

theorem sorts_S (m : Nat) : AnyZ.SortsIn Tryz.prog Tryz.sortedS_ren Fence.wide m :=
  ⟨fun blk off cap ss W hH hblk hsz => callsIn_wide.2 (AnyM.slices_Sort_string Tryz.sortS blk off cap ss W hH hblk hsz),
   fun p cap W => callsIn_wide.2 (AnyM.slices_Sort_string_none Tryz.sortS p cap W)⟩

theorem keys_en (mb : Option Nat) (W : World) : Calls Tryz.prog 131 #[.map mb] W fun e w' =>
    e = .returned (.func (.func 163) #[] #[.pointer (some ⟨W.heap.size, 0, none⟩)]) ∧ w' = W.alloc (.cells #[.map mb] 188) :=
  callsIn_wide.1 (AnyZ.keys_in Tryz.keysEn Fence.wide 5 trivial rfl mb W)

theorem sorted_en {w : World} {r n : Nat} {g : ByteArray → Option En} (h : EMap w r g n) (hn : n ≤ 1000000000) :
    Calls Tryz.prog 130 #[.func (.func 163) #[] #[.pointer (some ⟨w.heap.size, 0, none⟩)]] (w.alloc (.cells #[.map (some r)] 188)) fun e w' =>
      (∃ v ks, e = .returned v ∧ SlE w' w.heap.size 9 1 encS v ks ∧ SortedNames g ks ∧ ks.length = n) ∧ Below w.heap.size w w' := by
  obtain ⟨D, hown, hsz, hD⟩ := h.ownsS (by unfold maxLen; omega) Tryz.underlying9
  have hbl := hown.lt
  have hseq : SeqGives Fence.wide 2 Tryz.prog 163 #[.pointer (some ⟨w.heap.size, 0, none⟩)] encStr (fun ss => ss.Perm (strKeys D)) (Maps.size D) (w.alloc (.cells #[.map (some r)] 188)) :=
    AnyZ.keys_gives (ρ := Tryz.keysEn_ren) { Tryz.keysEn with } Fence.wide _ trivial rfl (by omega) w.heap.size r n D _ (by simp) (by simp) (by
      obtain ⟨es, clock, hb, Ft, hs, hD⟩ := hown
      exact ⟨es, clock, (Below.heap_alloc _ _ r hbl).trans hb, Ft, hs, hD⟩)
  have cS := AnyZ.sorted_in Tryz.sortedS Fence.wide 5 trivial trivial trivial trivial rfl (by omega) (sorts_S _) (enters_of Tryz.func162 (by kernel_rfl) rfl) 163 #[.pointer (some ⟨w.heap.size, 0, none⟩)] trivial
    (enters_of Tryz.func163 (by kernel_rfl) rfl) _ (Maps.size D) (by rw [hsz]; unfold maxLen; omega) (by rw [hsz]; omega) _ hseq
  refine (callsIn_wide.1 cS).mono fun e w' ⟨v, ss, he, hp, hrow, _, hb⟩ => ?_
  obtain ⟨h1, h2⟩ := hD ss hp
  refine ⟨⟨v, _, he, ?_, h1, by rw [List.length_map, List.length_mergeSort]; exact h2⟩, (bl_alloc (Below.refl _ _) _).trans (hb.mono (by simp))⟩
  have hrow' : SlE w' (w.alloc (.cells #[.map (some r)] 188)).heap.size 9 1 encS v ((ss.mergeSort fun x y => decide (x ≤ y)).map nmOf) := by
    unfold SlE
    rw [flat_encS, ← map_nmOf, List.length_map, List.length_mergeSort]
    exact hrow
  exact hrow'.mono (by simp)

theorem sorted_en_nil (w : World) :
    Calls Tryz.prog 130 #[.func (.func 163) #[] #[.pointer (some ⟨w.heap.size, 0, none⟩)]] (w.alloc (.cells #[.map none] 188)) fun e w' =>
      e = .returned (.slice none 0 0) ∧ Below w.heap.size w w' := by
  have hseq : SeqGives Fence.wide 2 Tryz.prog 163 #[.pointer (some ⟨w.heap.size, 0, none⟩)] encStr (fun ss : List (List UInt8) => ss = []) 0 (w.alloc (.cells #[.map none] 188)) :=
    AnyZ.keys_gives_nil (ρ := Tryz.keysEn_ren) { Tryz.keysEn with } Fence.wide _ trivial rfl w.heap.size _ (by simp) (by simp)
  have cS := AnyZ.sorted_in Tryz.sortedS Fence.wide 5 trivial trivial trivial trivial rfl (by omega) (sorts_S _) (enters_of Tryz.func162 (by kernel_rfl) rfl) 163 #[.pointer (some ⟨w.heap.size, 0, none⟩)] trivial
    (enters_of Tryz.func163 (by kernel_rfl) rfl) _ 0 (Nat.zero_le _) (by omega) _ hseq
  refine (callsIn_wide.1 cS).mono fun e w' ⟨v, ss, he, hp, hrow, hnil, hb⟩ => ?_
  exact ⟨by rw [he, hnil.2 hp], (bl_alloc (Below.refl _ _) _).trans (hb.mono (by simp))⟩
end Go.Proofs.YtjekpbkmhgfhoaaGreatDoor
end
