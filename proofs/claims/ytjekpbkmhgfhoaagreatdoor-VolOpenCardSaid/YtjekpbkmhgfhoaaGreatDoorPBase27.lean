/- Merged texts: All. -/
import Derived.Test.YtjekpbkmhgfhoaaGreatDoorIterI
import Derived.Test.YtjekpbkmhgfhoaaGreatDoorPBase07
import Derived.Test.YtjekpbkmhgfhoaaGreatDoorPBase18
section
/- The numbers of a table, rising: slices.Sorted(maps.Keys(m)) by the kit's contracts. -/
namespace Go.Proofs.YtjekpbkmhgfhoaaGreatDoor
open Go Go.RowKit Go.Maps Go.Sort
set_option maxRecDepth 100000
set_option linter.unusedSimpArgs false

/-- v is a slice of one-cell elements that holds xs, in a block from base on. -/
def SlVals (w : World) (base : Nat) (v : Value) (xs : List Value) : Prop :=
  (v = .slice none 0 0 ∧ xs = []) ∨ ∃ h cap, v = .slice (some ⟨h, 0, none⟩) xs.length cap ∧ base ≤ h ∧ h < w.heap.size ∧ xs.length ≤ cap ∧ ∀ i, i < xs.length → w.cell? ⟨h, i, none⟩ = xs[i]?
theorem SlVals.of_owns {w : World} {base : Nat} {t : TypeId} {v : Value} {n : Nat} {xs : List Value} (h : w.ownsRow base t 1 v n xs) : SlVals w base v xs := by
  obtain ⟨hl, ⟨rfl, rfl⟩ | ⟨g, cap, cur, rfl, hb, hg, hn, hc, hs, hx⟩⟩ := h
  · exact .inl ⟨rfl, List.eq_nil_of_length_eq_zero (by omega)⟩
  · rw [Nat.mul_one] at hl hx hs
    subst hl
    refine .inr ⟨g, cap, rfl, hb, (Array.getElem?_eq_some_iff.1 hg).1, hn, fun i hi => ?_⟩
    have h1 : xs[i]? = cur[i]? := by
      rw [← hx, List.getElem?_take, if_pos hi]
      simp
    rw [h1]
    simp [World.cell?, hg]
theorem SlVals.mono {w : World} {base base' : Nat} {v : Value} {xs : List Value} (h : SlVals w base v xs) (hb : base' ≤ base) : SlVals w base' v xs := by
  rcases h with h | ⟨g, cap, h1, h2, h3, h4, h5⟩
  · exact .inl h
  · exact .inr ⟨g, cap, h1, Nat.le_trans hb h2, h3, h4, h5⟩

theorem sorts_I (m : Nat) : AnyZI.SortsIn Tryz.prog Tryz.sortedI_ren Fence.wide m :=
  ⟨fun blk off cap ss W hH hblk hsz => callsIn_wide.2 (AnyM.slices_Sort_int Tryz.sortI blk off cap ss W hH hblk hsz),
   fun p cap W => callsIn_wide.2 (AnyM.slices_Sort_int_none Tryz.sortI p cap W)⟩

theorem keys_nd (mb : Option Nat) (W : World) : Calls Tryz.prog 86 #[.map mb] W fun e w' =>
    e = .returned (.func (.func 124) #[] #[.pointer (some ⟨W.heap.size, 0, none⟩)]) ∧ w' = W.alloc (.cells #[.map mb] 152) :=
  callsIn_wide.1 (AnyZI.keys_in Tryz.keysNd Fence.wide 5 trivial rfl mb W)
theorem keys_fd (mb : Option Nat) (W : World) : Calls Tryz.prog 85 #[.map mb] W fun e w' =>
    e = .returned (.func (.func 123) #[] #[.pointer (some ⟨W.heap.size, 0, none⟩)]) ∧ w' = W.alloc (.cells #[.map mb] 110) :=
  callsIn_wide.1 (AnyZI.keys_in Tryz.keysFd Fence.wide 5 trivial rfl mb W)

theorem sorted_nd {w : World} {r n : Nat} {g : Int → Option Nd} (h : NMap w r g n) (hn : n ≤ 1000000000) :
    Calls Tryz.prog 84 #[.func (.func 124) #[] #[.pointer (some ⟨w.heap.size, 0, none⟩)]] (w.alloc (.cells #[.map (some r)] 152)) fun e w' =>
      (∃ v ks, e = .returned v ∧ SlVals w' w.heap.size v (ks.map (Value.int .i64)) ∧ SortedKeys g ks ∧ ks.length = n) ∧ Below w.heap.size w w' := by
  obtain ⟨D, hown, hsz, hD⟩ := h.ownsI (by unfold maxLen; omega) Tryz.underlying3
  have hbl := hown.lt
  have hseq : SeqGives Fence.wide 2 Tryz.prog 124 #[.pointer (some ⟨w.heap.size, 0, none⟩)] encZ (fun ss => ss.Perm (intKeys D)) (Maps.size D) (w.alloc (.cells #[.map (some r)] 152)) :=
    AnyZI.keys_gives (ρ := Tryz.keysNd_ren) { Tryz.keysNd with } Fence.wide _ trivial rfl (by omega) w.heap.size r n D _ (by simp) (by simp) (by
      obtain ⟨es, clock, hb, Ft, hs, hD⟩ := hown
      exact ⟨es, clock, (Below.heap_alloc _ _ r hbl).trans hb, Ft, hs, hD⟩)
  have cS := AnyZI.sorted_in Tryz.sortedI Fence.wide 5 trivial trivial trivial trivial rfl (by omega) (sorts_I _) (enters_of Tryz.func112 (by kernel_rfl) rfl) 124 #[.pointer (some ⟨w.heap.size, 0, none⟩)] trivial
    (enters_of Tryz.func124 (by kernel_rfl) rfl) _ (Maps.size D) (by rw [hsz]; unfold maxLen; omega) (by rw [hsz]; omega) _ hseq
  refine (callsIn_wide.1 cS).mono fun e w' ⟨v, ss, he, hp, hrow, _, hb⟩ => ?_
  obtain ⟨h1, h2⟩ := hD ss hp
  exact ⟨⟨v, _, he, (SlVals.of_owns hrow).mono (by simp), h1, by rw [List.length_mergeSort]; exact h2⟩, (bl_alloc (Below.refl _ _) _).trans (hb.mono (by simp))⟩

theorem sorted_fd {w : World} {r n : Nat} {g : Int → Option (Int × Int)} (h : FMap w r g n) (hn : n ≤ 1000000000) :
    Calls Tryz.prog 84 #[.func (.func 123) #[] #[.pointer (some ⟨w.heap.size, 0, none⟩)]] (w.alloc (.cells #[.map (some r)] 110)) fun e w' =>
      (∃ v ks, e = .returned v ∧ SlVals w' w.heap.size v (ks.map (Value.int .i64)) ∧ SortedKeys g ks ∧ ks.length = n) ∧ Below w.heap.size w w' := by
  obtain ⟨D, hown, hsz, hD⟩ := h.ownsI (by unfold maxLen; omega) Tryz.underlying3
  have hbl := hown.lt
  have hseq : SeqGives Fence.wide 2 Tryz.prog 123 #[.pointer (some ⟨w.heap.size, 0, none⟩)] encZ (fun ss => ss.Perm (intKeys D)) (Maps.size D) (w.alloc (.cells #[.map (some r)] 110)) :=
    AnyZI.keys_gives (ρ := Tryz.keysFd_ren) { Tryz.keysFd with } Fence.wide _ trivial rfl (by omega) w.heap.size r n D _ (by simp) (by simp) (by
      obtain ⟨es, clock, hb, Ft, hs, hD⟩ := hown
      exact ⟨es, clock, (Below.heap_alloc _ _ r hbl).trans hb, Ft, hs, hD⟩)
  have cS := AnyZI.sorted_in Tryz.sortedI Fence.wide 5 trivial trivial trivial trivial rfl (by omega) (sorts_I _) (enters_of Tryz.func112 (by kernel_rfl) rfl) 123 #[.pointer (some ⟨w.heap.size, 0, none⟩)] trivial
    (enters_of Tryz.func123 (by kernel_rfl) rfl) _ (Maps.size D) (by rw [hsz]; unfold maxLen; omega) (by rw [hsz]; omega) _ hseq
  refine (callsIn_wide.1 cS).mono fun e w' ⟨v, ss, he, hp, hrow, _, hb⟩ => ?_
  obtain ⟨h1, h2⟩ := hD ss hp
  exact ⟨⟨v, _, he, (SlVals.of_owns hrow).mono (by simp), h1, by rw [List.length_mergeSort]; exact h2⟩, (bl_alloc (Below.refl _ _) _).trans (hb.mono (by simp))⟩

theorem sorted_nd_nil (w : World) :
    Calls Tryz.prog 84 #[.func (.func 124) #[] #[.pointer (some ⟨w.heap.size, 0, none⟩)]] (w.alloc (.cells #[.map none] 152)) fun e w' =>
      e = .returned (.slice none 0 0) ∧ Below w.heap.size w w' := by
  have hseq : SeqGives Fence.wide 2 Tryz.prog 124 #[.pointer (some ⟨w.heap.size, 0, none⟩)] encZ (fun ss : List Int => ss = []) 0 (w.alloc (.cells #[.map none] 152)) :=
    AnyZI.keys_gives_nil (ρ := Tryz.keysNd_ren) { Tryz.keysNd with } Fence.wide _ trivial rfl w.heap.size _ (by simp) (by simp)
  have cS := AnyZI.sorted_in Tryz.sortedI Fence.wide 5 trivial trivial trivial trivial rfl (by omega) (sorts_I _) (enters_of Tryz.func112 (by kernel_rfl) rfl) 124 #[.pointer (some ⟨w.heap.size, 0, none⟩)] trivial
    (enters_of Tryz.func124 (by kernel_rfl) rfl) _ 0 (Nat.zero_le _) (by omega) _ hseq
  refine (callsIn_wide.1 cS).mono fun e w' ⟨v, ss, he, hp, hrow, hnil, hb⟩ => ?_
  exact ⟨by rw [he, hnil.2 hp], (bl_alloc (Below.refl _ _) _).trans (hb.mono (by simp))⟩
theorem sorted_fd_nil (w : World) :
    Calls Tryz.prog 84 #[.func (.func 123) #[] #[.pointer (some ⟨w.heap.size, 0, none⟩)]] (w.alloc (.cells #[.map none] 110)) fun e w' =>
      e = .returned (.slice none 0 0) ∧ Below w.heap.size w w' := by
  have hseq : SeqGives Fence.wide 2 Tryz.prog 123 #[.pointer (some ⟨w.heap.size, 0, none⟩)] encZ (fun ss : List Int => ss = []) 0 (w.alloc (.cells #[.map none] 110)) :=
    AnyZI.keys_gives_nil (ρ := Tryz.keysFd_ren) { Tryz.keysFd with } Fence.wide _ trivial rfl w.heap.size _ (by simp) (by simp)
  have cS := AnyZI.sorted_in Tryz.sortedI Fence.wide 5 trivial trivial trivial trivial rfl (by omega) (sorts_I _) (enters_of Tryz.func112 (by kernel_rfl) rfl) 123 #[.pointer (some ⟨w.heap.size, 0, none⟩)] trivial
    (enters_of Tryz.func123 (by kernel_rfl) rfl) _ 0 (Nat.zero_le _) (by omega) _ hseq
  refine (callsIn_wide.1 cS).mono fun e w' ⟨v, ss, he, hp, hrow, hnil, hb⟩ => ?_
  exact ⟨by rw [he, hnil.2 hp], (bl_alloc (Below.refl _ _) _).trans (hb.mono (by simp))⟩

/-- Table.All. -/
theorem nall_any {w : World} {b : Nat} {m : Option Nat} {g : Int → Option Nd} {n : Nat} {last : Int} (h : NodesAt w b m g n last) (hn : n ≤ 1000000000) :
    Calls Tryz.prog 44 #[.pointer (some ⟨b, 0, none⟩)] w fun e w' =>
      (∃ v ks, e = .returned v ∧ SlVals w' w.heap.size v (ks.map (Value.int .i64)) ∧ SortedKeys g ks ∧ ks.length = n) ∧ Below w.heap.size w w' := by
  have hc := h.map
  have hlt := h.lt
  have H := Lib.hid h
  clear h
  generalize hP : (fun (e : Ending) (w' : World) => (∃ v ks, e = .returned v ∧ SlVals w' w.heap.size v (ks.map (Value.int .i64)) ∧ SortedKeys g ks ∧ ks.length = n) ∧ Below w.heap.size w w') = Post
  have HP := Lib.hid hP
  clear hP
  cases m with
  | none =>
    go_enter Tryz.func44, Tryz.ntmps44
    go_wp2_with fail
    refine (keys_nd _ _).mono ?_
    rintro e w' ⟨rfl, rfl⟩
    go_wp2_with fail
    refine (sorted_nd_nil w).mono ?_
    rintro e w' ⟨rfl, hb⟩
    go_wp2
    rw [← HP.out]
    obtain ⟨h1, h2⟩ := H.out.made
    exact ⟨⟨_, [], rfl, .inl ⟨rfl, rfl⟩, ⟨List.Pairwise.nil, fun k => by simp [h2]⟩, by simp [h1]⟩, hb⟩
  | some r =>
    go_enter Tryz.func44, Tryz.ntmps44
    go_wp2_with fail
    refine (keys_nd _ _).mono ?_
    rintro e w' ⟨rfl, rfl⟩
    go_wp2_with fail
    refine (sorted_nd H.out.made.2 hn).mono ?_
    rintro e w' ⟨⟨v, ks, rfl, h1, h2, h3⟩, hb⟩
    have H1 := Lib.hid h1
    have H2 := Lib.hid h2
    have H3 := Lib.hid h3
    have HB := Lib.hid hb
    clear h1 h2 h3 hb
    go_wp2
    rw [← HP.out]
    exact ⟨⟨_, ks, rfl, H1.out, H2.out, H3.out⟩, HB.out⟩

/-- Files.All. -/
theorem fall_any {w : World} {b : Nat} {m : Option Nat} {g : Int → Option (Int × Int)} {n : Nat} (h : FilesAt w b m g n) (hn : n ≤ 1000000000) :
    Calls Tryz.prog 43 #[.pointer (some ⟨b, 0, none⟩)] w fun e w' =>
      (∃ v ks, e = .returned v ∧ SlVals w' w.heap.size v (ks.map (Value.int .i64)) ∧ SortedKeys g ks ∧ ks.length = n) ∧ Below w.heap.size w w' := by
  have hc := h.1
  have hlt := h.2.2.1
  have H := Lib.hid h
  clear h
  generalize hP : (fun (e : Ending) (w' : World) => (∃ v ks, e = .returned v ∧ SlVals w' w.heap.size v (ks.map (Value.int .i64)) ∧ SortedKeys g ks ∧ ks.length = n) ∧ Below w.heap.size w w') = Post
  have HP := Lib.hid hP
  clear hP
  cases m with
  | none =>
    go_enter Tryz.func43, Tryz.ntmps43
    go_wp2_with fail
    refine (keys_fd _ _).mono ?_
    rintro e w' ⟨rfl, rfl⟩
    go_wp2_with fail
    refine (sorted_fd_nil w).mono ?_
    rintro e w' ⟨rfl, hb⟩
    go_wp2
    rw [← HP.out]
    obtain ⟨h1, h2⟩ := H.out.2.2.2
    exact ⟨⟨_, [], rfl, .inl ⟨rfl, rfl⟩, ⟨List.Pairwise.nil, fun k => by simp [h2]⟩, by simp [h1]⟩, hb⟩
  | some r =>
    go_enter Tryz.func43, Tryz.ntmps43
    go_wp2_with fail
    refine (keys_fd _ _).mono ?_
    rintro e w' ⟨rfl, rfl⟩
    go_wp2_with fail
    refine (sorted_fd H.out.2.2.2.2 hn).mono ?_
    rintro e w' ⟨⟨v, ks, rfl, h1, h2, h3⟩, hb⟩
    have H1 := Lib.hid h1
    have H2 := Lib.hid h2
    have H3 := Lib.hid h3
    have HB := Lib.hid hb
    clear h1 h2 h3 hb
    go_wp2
    rw [← HP.out]
    exact ⟨⟨_, ks, rfl, H1.out, H2.out, H3.out⟩, HB.out⟩

end Go.Proofs.YtjekpbkmhgfhoaaGreatDoor
end
