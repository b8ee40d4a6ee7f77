/- The walks of package dir: Set, Del. -/
import Derived.Test.YthominkfjfnkbaaDoorDir
namespace Go.Proofs.YthominkfjfnkbaaDoor
open Go Go.RowKit
set_option maxRecDepth 100000
set_option linter.unusedSimpArgs false
attribute [local go_sem] giv
variable {E : Nat → Addr} {B : Nat}

/-- What an operation that writes leaves. -/
def DirOut (b : Nat) (m : Option Nat) (g' : ByteArray → Option En) (n' : Nat) (w w' : World) : Prop :=
  ∃ m', DirAt w' b m' g' n' ∧ Touch (OwnD b m) w w' ∧ ∀ x, OwnD b m' x → OwnD b m x ∨ w.heap.size ≤ x

section
variable {w : World} {b n : Nat} {m : Option Nat} {g : ByteArray → Option En}

theorem dset_no (h : DirAt w b m g n) {k : ByteArray} (hk : k.size ≤ maxLen) (e : En) (hno : g k = none ∨ mayB e = false) :
    Calls Tryd.prog 56 #[.pointer (some ⟨b, 0, none⟩), .string k, encE e] w fun x w' => x = .returned (.bool false) ∧ Below w.heap.size w w' := by
  obtain ⟨nm, nd, kd⟩ := e
  have hc := h.1
  have hlt := h.2.2.1
  have H := Lib.hid h
  clear h
  have HMAY := fun w => dmay_any ⟨nm, nd, kd⟩ w
  unfold encE at *
  cases hs : (g k).isSome
  · go_enter Tryd.func56, Tryd.ntmps56
    generalize hx : (g k).getD noEn = x at *
    obtain ⟨xn, xd, xk⟩ := x
    have HS := Lib.hid hs
    clear hs hno
    go_wp2_with (at_lookup; refine wpList_look rfl _ _ _ _ rfl (dir_look (H.out.below (bl_alloc (Below.refl _ _) _)) hk) ?_; rw [hx, HS.out]; unfold encE)
    go_ret
    exact ⟨rfl, bl_alloc (bl_alloc (Below.refl _ _) _) _⟩
  · have hmay : mayB ⟨nm, nd, kd⟩ = false := by
      rcases hno with h | h
      · rw [h] at hs; cases hs
      · exact h
    have HM := Lib.hid hmay
    go_enter Tryd.func56, Tryd.ntmps56
    generalize hx : (g k).getD noEn = x at *
    obtain ⟨xn, xd, xk⟩ := x
    have HS := Lib.hid hs
    clear hs hno hmay
    go_wp2_with (at_lookup; refine wpList_look rfl _ _ _ _ rfl (dir_look (H.out.below (bl_alloc (Below.refl _ _) _)) hk) ?_; rw [hx, HS.out]; unfold encE)
    refine (HMAY _).mono ?_
    rintro e w3 ⟨rfl, hb3⟩
    rw [HM.out]
    have HB3 := Lib.hid (((bl_alloc (bl_alloc (Below.refl w.heap.size w) _) _).trans (hb3.mono (by simp; try omega))))
    clear hb3 HMAY
    go_wp2
    go_ret
    exact ⟨rfl, HB3.out⟩

set_option maxHeartbeats 1000000 in
theorem dset_yes (h : DirAt w b m g n) {k : ByteArray} (hk : k.size ≤ maxLen) (e : En) (hs : (g k).isSome = true) (hmay : mayB e = true) :
    Calls Tryd.prog 56 #[.pointer (some ⟨b, 0, none⟩), .string k, encE e] w fun x w' => x = .returned (.bool true) ∧ DirOut b m (upd g k ⟨k, e.node, e.kind⟩) n w w' := by
  obtain ⟨nm, nd, kd⟩ := e
  obtain ⟨r, rfl⟩ : ∃ r, m = some r := by
    cases m with
    | none => rw [h.2.2.2.2 k] at hs; cases hs
    | some r => exact ⟨r, rfl⟩
  have hc := h.1
  have hlt := h.2.2.1
  have H := Lib.hid h
  clear h
  have HMAY := fun w => dmay_any ⟨nm, nd, kd⟩ w
  obtain ⟨lk, hlk⟩ := keyS hk
  unfold encE at *
  have HM := Lib.hid hmay
  have HS := Lib.hid hs
  clear hs hmay
  go_enter Tryd.func56, Tryd.ntmps56
  generalize hx : (g k).getD noEn = x at *
  obtain ⟨xn, xd, xk⟩ := x
  go_wp2_with (at_lookup; refine wpList_look rfl _ _ _ _ rfl (dir_look (H.out.below (bl_alloc (Below.refl _ _) _)) hk) ?_; rw [hx, HS.out]; unfold encE)
  refine (HMAY _).mono ?_
  rintro e w3 ⟨rfl, hb3⟩
  rw [HM.out]
  have hbw : Below w.heap.size w w3 := ((bl_alloc (bl_alloc (Below.refl w.heap.size w) _) _).trans (hb3.mono (by simp; try omega)))
  have x0 : w3.cell? ⟨w.heap.size, 1, none⟩ = some (.int .i64 nd) := by rw [hb3.cell (p := ⟨w.heap.size, 1, none⟩) (by simp; try omega)]; simp
  have x1 : w3.cell? ⟨w.heap.size, 2, none⟩ = some (.int .i64 kd) := by rw [hb3.cell (p := ⟨w.heap.size, 2, none⟩) (by simp; try omega)]; simp
  have Y3 := Lib.hid (And.intro x0 x1)
  have LX3 : Hid (w.heap.size < w3.heap.size) := Lib.hid (by have := hb3.size; simp at this; omega)
  have H3 := Lib.hid (H.out.below hbw)
  have T3 := Lib.hid (Touch.of_below hbw (OwnD b (some r)))
  clear x0 x1 hb3 hbw HMAY hx
  generalize w.heap.size = bx at *
  go_wp2_with fail
  have S : ∀ w', Below w3.heap.size w3 w' → w'.cell? ⟨b, 0, none⟩ = some (.map (some r)) ∧ w'.cell? ⟨bx, 1, none⟩ = some (.int .i64 nd) ∧ w'.cell? ⟨bx, 2, none⟩ = some (.int .i64 kd) := by
    intro w' hb
    obtain ⟨hc, _⟩ := bcell hb
    exact ⟨(H3.out.below hb).1, (hc _ _ LX3.out).trans Y3.out.1, (hc _ _ LX3.out).trans Y3.out.2⟩
  apply wp_region_tail 11 _ (by kernel_rfl) (by kernel_rfl) (by kernel_rfl) (by decide) (fun w' => Below w3.heap.size w3 w') (fun w' w'' => Below w'.heap.size w' w'') (fun w' w'' h1 h2 => bl_trans h1 h2) (Below.refl _ _).drew
  simp only [List.take_succ_cons, List.take_zero, List.drop_succ_cons, List.drop_zero]
  repeat (first
    | (apply wpRel_skip (by rfl)
       simp only [Act.put, List.setIfInBounds_toArray, List.set_cons_zero, List.set_cons_succ])
    | (apply wpRel_fix (by rfl)
       · intro w' hC hf R hR
         go_simp
         exact hR _ (Below.refl _ _)
       simp only [Act.put, List.setIfInBounds_toArray, List.set_cons_zero, List.set_cons_succ]))
  refine wpRel_nil (fun w4 hC hf => ?_)
  clear S hf
  have H4 := H3.out.below hC
  apply wpList_upd rfl _ _ _ _ rfl
  · exact H4.2.2.2.2.put kdStr Tryd.underlying79 str_inj hlk ⟨k, nd, kd⟩
  rw [if_pos HS.out]
  rintro w5 ⟨hm5, ht5⟩
  have H5 := Lib.hid (H4.turned hm5 ht5)
  have T5 := Lib.hid ((T3.out.then hC).trans (Touch.of_turned ht5) (fun x hx _ => .inr (by rw [hx])))
  clear hm5 ht5 hC H4 H3 T3
  go_wp2
  go_ret
  exact ⟨rfl, some r, H5.out, T5.out, fun x hx => .inl hx⟩

theorem ddel_any (h : DirAt w b m g n) {k : ByteArray} (hk : k.size ≤ maxLen) :
    Calls Tryd.prog 70 #[.pointer (some ⟨b, 0, none⟩), .string k] w fun e w' => e = .returned (.tuple #[encE ((g k).getD noEn), .bool (g k).isSome]) ∧
      DirOut b m (del g k) (if (g k).isSome then n - 1 else n) w w' := by
  have hc := h.1
  have hlt := h.2.2.1
  have H := Lib.hid h
  clear h
  obtain ⟨lk, hlk⟩ := keyS hk
  generalize hnn : (if (g k).isSome = true then n - 1 else n) = n'
  have HNN := Lib.hid hnn
  clear hnn
  have HG := Lib.hid (rfl : g k = g k)
  cases m with
  | none =>
    go_enter Tryd.func70, Tryd.ntmps70
    generalize hx : (g k).getD noEn = x at *
    obtain ⟨xn, xd, xk⟩ := x
    go_wp2_with (first
      | (at_lookup; refine wpList_look rfl _ _ _ _ rfl (dir_look (H.out.below (bl_alloc (Below.refl _ _) _)) hk) ?_; rw [hx]; unfold encE)
      | (at_delete; refine wpList_drop rfl _ _ _ _ rfl ⟨_, Maps.drop_nil kdStr Tryd.underlying79 hlk _, rfl⟩ ?_; rintro w' rfl))
    refine bodyPost_ret (v := .tuple #[encE ⟨xn, xd, xk⟩, .bool (g k).isSome]) (by simp [results, Tryd.results70, go_sem, encE]) rfl ⟨rfl, none, ?_, ?_, fun _ h => .inl h⟩
    · obtain ⟨h1, h2⟩ := H.out.2.2.2
      have e1 : del g k = g := by
        funext y
        unfold del
        split
        · subst y; exact (h2 _).symm
        · rfl
      have e2 : n = n' := by
        have := HNN.out
        rw [h2 k] at this
        simpa using this
      rw [e1, ← e2]
      exact H.out.below (bl_alloc (bl_alloc (Below.refl _ _) _) _)
    · exact Touch.alloc (Touch.alloc (Touch.refl _ _) _) _
  | some r =>
    have nr : w.heap.size ≠ r := by have := H.out.own_lt r (.inr rfl); omega
    have nr1 : w.heap.size + 1 ≠ r := by have := H.out.own_lt r (.inr rfl); omega
    go_enter Tryd.func70, Tryd.ntmps70
    generalize hx : (g k).getD noEn = x at *
    obtain ⟨xn, xd, xk⟩ := x
    go_wp2_with (first
      | (at_lookup; refine wpList_look rfl _ _ _ _ rfl (dir_look (H.out.below (bl_alloc (Below.refl _ _) _)) hk) ?_; rw [hx]; unfold encE)
      | (at_delete
         apply wpList_drop rfl _ _ _ _ rfl
         · exact ((H.out.2.2.2.2.alloc _).alloc _).drop kdStr Tryd.underlying79 str_inj hlk _
         rintro w2 ⟨hm2, ht2⟩
         obtain ⟨c1, c2, c3⟩ := turned_cell ht2
         have q0 : w2.cell? ⟨w.heap.size, 0, none⟩ = some (.string { data := #[] }) := by rw [c1 _ _ nr]; simp
         have q1 : w2.cell? ⟨w.heap.size, 1, none⟩ = some (.int .i64 0) := by rw [c1 _ _ nr]; simp
         have q2 : w2.cell? ⟨w.heap.size, 2, none⟩ = some (.int .i64 0) := by rw [c1 _ _ nr]; simp
         have p0 : w2.frozen? ⟨w.heap.size, 0, none⟩ = false := by rw [c2 _ _ nr]; simp
         have p1 : w2.frozen? ⟨w.heap.size, 1, none⟩ = false := by rw [c2 _ _ nr]; simp
         have p2 : w2.frozen? ⟨w.heap.size, 2, none⟩ = false := by rw [c2 _ _ nr]; simp
         have q3 : w2.cell? ⟨w.heap.size + 1, 0, none⟩ = some (.string xn) := by rw [c1 _ _ nr1]; simp
         have q4 : w2.cell? ⟨w.heap.size + 1, 1, none⟩ = some (.int .i64 xd) := by rw [c1 _ _ nr1]; simp
         have q5 : w2.cell? ⟨w.heap.size + 1, 2, none⟩ = some (.int .i64 xk) := by rw [c1 _ _ nr1]; simp
         have l2 : w.heap.size + 1 < w2.heap.size := by rw [c3]; simp
         have FT := Lib.hid (HNN.out ▸ ((H.out.below (bl_alloc (bl_alloc (Below.refl _ _) _) _)).turned hm2 ht2))
         have TT := Lib.hid (Touch.of_turned ht2)
         clear hm2 ht2 c1 c2 c3))
    obtain ⟨w3, hw3⟩ : ∃ w3, w3 = ((w2.setCell ⟨w.heap.size, 0, none⟩ (.string xn)).setCell ⟨w.heap.size, 1, none⟩ (.int .i64 xd)).setCell ⟨w.heap.size, 2, none⟩ (.int .i64 xk) := ⟨_, rfl⟩
    rw [← hw3]
    have y0 : w3.cell? ⟨w.heap.size, 0, none⟩ = some (.string xn) := by rw [hw3]; go_simp
    have y1 : w3.cell? ⟨w.heap.size, 1, none⟩ = some (.int .i64 xd) := by rw [hw3]; go_simp
    have y2 : w3.cell? ⟨w.heap.size, 2, none⟩ = some (.int .i64 xk) := by rw [hw3]; go_simp
    refine bodyPost_ret (v := .tuple #[encE ⟨xn, xd, xk⟩, .bool (g k).isSome]) (by simp [results, Tryd.results70, go_sem, encE, y0, y1, y2]) rfl ⟨rfl, some r, ?_, ?_, fun _ h => .inl h⟩
    · rw [hw3]
      refine FT.out.touch (S := fun x => x = w.heap.size) ?_ (fun x hx e => ?_)
      · refine Touch.setCell (S := fun x => x = w.heap.size) ?_ (.inl rfl) _
        refine Touch.setCell (S := fun x => x = w.heap.size) ?_ (.inl rfl) _
        refine Touch.setCell (S := fun x => x = w.heap.size) ?_ (.inl rfl) _
        exact Touch.refl _ _
      · subst e
        exact Nat.lt_irrefl _ (H.out.own_lt _ hx)
    · rw [hw3]
      refine Touch.setCell (Touch.setCell (Touch.setCell ?_ (.inr (Nat.le_refl _)) _) (.inr (Nat.le_refl _)) _) (.inr (Nat.le_refl _)) _
      exact (Touch.alloc (Touch.alloc (Touch.refl _ _) _) _).trans TT.out (fun x hx _ => .inr (by rw [hx]))
end
end Go.Proofs.YthominkfjfnkbaaDoor
