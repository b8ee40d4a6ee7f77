/- The walk of package node's New. -/
import Derived.Test.YtjmbilbkmcebeaaDoorNodeTab
namespace Go.Proofs.YtjmbilbkmcebeaaDoor
open Go Go.RowKit
set_option maxRecDepth 100000
set_option linter.unusedSimpArgs false
attribute [local go_sem] giv
variable {E : Nat → Addr} {B : Nat}

/-- A new node. -/
def newNd (i k : Int) : Nd := ⟨i, k, 0, 0, if k = 3 then { data := #[47] } else noText, if k = 2 then 1 else 0⟩

theorem NodesOut.trans {w w1 w2 : World} {b : Nat} {m m1 : Option Nat} {g2 : Int → Option Nd} {n2 : Nat} {l2 : Int}
    (ht : Touch (OwnN b m) w w1) (ho : ∀ x, OwnN b m1 x → OwnN b m x ∨ w.heap.size ≤ x) (k : NodesOut b m1 g2 n2 l2 w1 w2) : NodesOut b m g2 n2 l2 w w2 := by
  obtain ⟨m2, h1, h2, h3⟩ := k
  refine ⟨m2, h1, ht.trans h2 (fun x hx hlt => (ho x hx).resolve_right (by omega)), fun x hx => ?_⟩
  rcases h3 x hx with h | h
  · exact ho x h
  · exact .inr (Nat.le_trans ht.size h)

theorem below_drewN (w : World) (n : Nat) : Below w.heap.size w (w.drewN n) := ⟨rfl, rfl, rfl, Nat.le_refl _, fun _ _ => rfl⟩

theorem nnew_bad {w : World} {b : Nat} {k : Int} (hk : kindB k = false) (hE : Env E B w) :
    Calls Tryd.prog 35 #[.pointer (some ⟨b, 0, none⟩), .int .i64 k] w fun e w' => e = .returned (.tuple #[.int .i64 0, errV E 4]) ∧ Below w.heap.size w w' := by
  have he := hE.cell 4 (by decide)
  have hlt : 4 < w.heap.size := Nat.lt_of_lt_of_le (hE.glt 4 (by decide)) hE.size
  clear hE
  go_enter Tryd.func35, Tryd.ntmps35
  go_wp2_with fail
  refine (kind_any _ _).mono ?_
  rintro e w1 ⟨rfl, rfl⟩
  rw [hk]
  go_wp2
  go_quiet (fail)
  go_wp2
  go_ret2
  exact ⟨rfl, below_drewN _ _⟩

theorem nnew_full {w : World} {b : Nat} {m : Option Nat} {g : Int → Option Nd} {n : Nat} {last : Int} (h : NodesAt w b m g n last) {k : Int} (hk : kindB k = true) (hf : 512 ≤ n ∨ 16777215 ≤ last) (hE : Env E B w) :
    Calls Tryd.prog 35 #[.pointer (some ⟨b, 0, none⟩), .int .i64 k] w fun e w' => e = .returned (.tuple #[.int .i64 0, errV E 9]) ∧ Below w.heap.size w w' := by
  have he := hE.cell 9 (by decide)
  have hlt : 9 < w.heap.size := Nat.lt_of_lt_of_le (hE.glt 9 (by decide)) hE.size
  have hc := h.map
  have hl := h.last
  have hb := h.lt
  have H := Lib.hid h
  clear hE h
  by_cases h5 : (512 : Int) ≤ n
  all_goals
    have hd : (512 : Int) ≤ n ∨ ((512 : Int) ≤ n) = False := by first | exact .inl h5 | exact .inr (by simpa using h5)
    have hx : ¬ (512 : Int) ≤ n → 16777215 ≤ last := by omega
    go_enter Tryd.func35, Tryd.ntmps35
    go_wp2_with fail
    refine (kind_any _ _).mono ?_
    rintro e w1 ⟨rfl, rfl⟩
    rw [hk]
    go_wp2_with (at_len; refine wpList_mlen rfl _ _ rfl (nodes_len H.out _) ?_)
    go_quiet (fail)
    go_wp2
    go_ret2
    exact ⟨rfl, below_drewN _ _⟩

theorem newNd_valid {i k : Int} (hi : 1 ≤ i ∧ i ≤ 16777215) (hk : k = 1 ∨ k = 2 ∨ k = 3) : validB (newNd i k) = true := by
  rcases hk with rfl | rfl | rfl
  · simp [validB, newNd, idB, kindB, hi]; decide
  · simp [validB, newNd, idB, kindB, hi]; decide
  · simp [validB, newNd, idB, kindB, hi]; decide

theorem NodesOut.refl' {w w' : World} {b : Nat} {m : Option Nat} {g : Int → Option Nd} {n : Nat} {last : Int} (h : NodesAt w b m g n last) (hb : Below w.heap.size w w') : NodesOut b m g n last w w' :=
  ⟨m, h.below hb, Touch.of_below hb _, fun _ h => .inl h⟩

/-- Put of a new node, and the same Put once more. -/
theorem put_phase {w0 w' : World} {b : Nat} {m : Option Nat} {g : Int → Option Nd} {n : Nat} {last : Int} (x : Nd) (hid : x.id = last + 1) (hv : validB x = true) (hn : n < 512) (hg : g (last + 1) = none) (hE : Env E B w0)
    (hown : ∀ x, OwnN b m x → B ≤ x) (hC : NodesOut b m g n last w0 w' ∨ NodesOut b m (upd g (last + 1) x) (n + 1) (last + 1) w0 w') :
    Calls Tryd.prog 63 #[.pointer (some ⟨b, 0, none⟩), encN x] w' fun e w'' => e = .returned .nilIface ∧ NodesOut b m (upd g (last + 1) x) (n + 1) (last + 1) w0 w'' := by
  rcases hC with ⟨m1, h1, t1, o1⟩ | ⟨m1, h1, t1, o1⟩
  · refine (nput_ok h1 x hv (fun _ => hn) (hE.keep (t1.below hE.size hown))).mono fun e w'' ⟨he, ho⟩ => ⟨he, ?_⟩
    rw [hid, hg] at ho
    have hm : max last (last + 1) = last + 1 := by omega
    rw [hm] at ho
    exact NodesOut.trans t1 o1 ho
  · have hs : (upd g (last + 1) x) (last + 1) = some x := by simp [upd]
    refine (nput_ok h1 x hv (fun h => by rw [hid, hs] at h; cases h) (hE.keep (t1.below hE.size hown))).mono fun e w'' ⟨he, ho⟩ => ⟨he, ?_⟩
    rw [hid, hs] at ho
    have hm : max (last + 1) (last + 1) = last + 1 := by omega
    have hu : upd (upd g (last + 1) x) (last + 1) x = upd g (last + 1) x := by
      funext y
      simp only [upd]
      split <;> rfl
    rw [hm, hu] at ho
    exact NodesOut.trans t1 o1 ho

set_option maxHeartbeats 1000000 in
theorem nnew_ok {w : World} {b : Nat} {m : Option Nat} {g : Int → Option Nd} {n : Nat} {last : Int} (h : NodesAt w b m g n last) {k : Int} (hk : kindB k = true) (hn : n < 512) (hl : 0 ≤ last ∧ last < 16777215) (hg : g (last + 1) = none) (hE : Env E B w)
    (hown : ∀ x, OwnN b m x → B ≤ x) :
    Calls Tryd.prog 35 #[.pointer (some ⟨b, 0, none⟩), .int .i64 k] w fun e w' => e = .returned (.tuple #[.int .i64 (last + 1), .nilIface]) ∧ NodesOut b m (upd g (last + 1) (newNd (last + 1) k)) (n + 1) (last + 1) w w' := by
  have hk' : k = 1 ∨ k = 2 ∨ k = 3 := by simp [kindB] at hk; omega
  have hc := h.map
  have hla := h.last
  have hb := h.lt
  have h512 : ¬ (512 : Int) ≤ n := by omega
  have hfull : ¬ 16777215 ≤ last := by omega
  have hw : IntKind.i64.wrap (last + 1) = last + 1 := IntWalk.i64_in _ (by omega)
  have H := Lib.hid h
  have HE := Lib.hid hE
  clear hE h
  rcases hk' with rfl | rfl | rfl
  all_goals
    go_enter Tryd.func35, Tryd.ntmps35
    go_wp2_with fail
    refine (kind_any _ _).mono ?_
    rintro e w1 ⟨rfl, rfl⟩
    rw [hk]
    go_wp2_with (first | (at_len; refine wpList_mlen rfl _ _ rfl (nodes_len H.out _) ?_))
  · obtain ⟨w0, hw0⟩ : ∃ w0, w0 = w.alloc (.cells #[.int .i64 (last + 1), .int .i64 1, .int .i64 0, .int .i64 0, .string { data := #[] }, .int .i64 0] 82) := ⟨_, rfl⟩
    rw [← hw0]
    have hx : newNd (last + 1) 1 = ⟨last + 1, 1, 0, 0, { data := #[] }, 0⟩ := by simp [newNd]
    have hv : validB ⟨last + 1, 1, 0, 0, { data := #[] }, 0⟩ = true := hx ▸ newNd_valid (by omega) (by omega)
    have hb0 : Below w.heap.size w w0 := by rw [hw0]; exact bl_alloc (Below.refl _ _) _
    have x0 : w0.cell? ⟨w.heap.size, 0, none⟩ = some (.int .i64 (last + 1)) := by rw [hw0]; simp
    have x1 : w0.cell? ⟨w.heap.size, 1, none⟩ = some (.int .i64 1) := by rw [hw0]; simp
    have x2 : w0.cell? ⟨w.heap.size, 2, none⟩ = some (.int .i64 0) := by rw [hw0]; simp
    have x3 : w0.cell? ⟨w.heap.size, 3, none⟩ = some (.int .i64 0) := by rw [hw0]; simp
    have x4 : w0.cell? ⟨w.heap.size, 4, none⟩ = some (.string { data := #[] }) := by rw [hw0]; simp
    have x5 : w0.cell? ⟨w.heap.size, 5, none⟩ = some (.int .i64 0) := by rw [hw0]; simp
    have l6 : w.heap.size < w0.heap.size := by rw [hw0]; simp
    have no6 : ¬ OwnN b m w.heap.size := fun h => Nat.lt_irrefl _ (H.out.own_lt _ h)
    have HE0 := Lib.hid (HE.out.below hb0)
    have H0 := Lib.hid (H.out.below hb0)
    have TB := Lib.hid (Touch.of_below hb0 (OwnN b m))
    clear hw0 hb0 hc hla
    generalize w.heap.size = c6 at *
    obtain ⟨C1, hC1⟩ : ∃ C1 : World → Prop, C1 = fun w' => NodesOut b m g n last w0 w' := ⟨_, rfl⟩
    obtain ⟨C2, hC2⟩ : ∃ C2 : World → Prop, C2 = fun w' => NodesOut b m (upd g (last + 1) ⟨last + 1, 1, 0, 0, { data := #[] }, 0⟩) (n + 1) (last + 1) w0 w' := ⟨_, rfl⟩
    have tou : ∀ w', C1 w' ∨ C2 w' → Touch (OwnN b m) w0 w' := by
      intro w' h
      rw [hC1, hC2] at h
      rcases h with ⟨_, _, t, _⟩ | ⟨_, _, t, _⟩ <;> exact t
    have S : ∀ w', C1 w' ∨ C2 w' → w'.cell? ⟨c6, 0, none⟩ = some (.int .i64 (last + 1)) ∧ w'.cell? ⟨c6, 1, none⟩ = some (.int .i64 1) ∧ w'.cell? ⟨c6, 2, none⟩ = some (.int .i64 0) ∧ w'.cell? ⟨c6, 3, none⟩ = some (.int .i64 0) ∧
        w'.cell? ⟨c6, 4, none⟩ = some (.string { data := #[] }) ∧ w'.cell? ⟨c6, 5, none⟩ = some (.int .i64 0) := by
      intro w' h
      have t := tou w' h
      have hc : ∀ o, w'.cell? ⟨c6, o, none⟩ = w0.cell? ⟨c6, o, none⟩ := fun o => t.cell (p := ⟨c6, o, none⟩) l6 no6
      exact ⟨(hc _).trans x0, (hc _).trans x1, (hc _).trans x2, (hc _).trans x3, (hc _).trans x4, (hc _).trans x5⟩
    have PP : ∀ w', C1 w' ∨ C2 w' → Calls Tryd.prog 63 #[.pointer (some ⟨b, 0, none⟩), .agg #[.int .i64 (last + 1), .int .i64 1, .int .i64 0, .int .i64 0, .string { data := #[] }, .int .i64 0]] w' fun e w'' => e = .returned .nilIface ∧ C2 w'' := by
      intro w' h
      rw [hC1, hC2] at h
      rw [hC2]
      exact put_phase ⟨last + 1, 1, 0, 0, { data := #[] }, 0⟩ rfl hv hn hg HE0.out hown h
    have hC0 : C1 w0.drew := by rw [hC1]; exact NodesOut.refl' H0.out (Below.refl _ _).drew
    have fin : ∀ w', C2 w' → NodesOut b m (upd g (last + 1) (newNd (last + 1) 1)) (n + 1) (last + 1) w w' := by
      intro w' h
      rw [hx]
      rw [hC2] at h
      exact NodesOut.trans TB.out (fun _ h => .inl h) h
    have FIN := Lib.hid fin
    have PPH := Lib.hid PP
    clear x0 x1 x2 x3 x4 x5 tou hC1 hC2 fin PP
    apply wp_region_rel _ (by kernel_rfl) (by kernel_rfl) (fun w' => C1 w' ∨ C2 w') (fun w' w'' => (C1 w'' ∨ C2 w'') ∧ (C2 w' → C2 w'')) (fun w' w'' _ h2 => h2.1) (.inl hC0)
    repeat (first
      | (apply wpRel_fix (by rfl)
         · intro w' hC hf R hR
           go_simp
           exact hR _ ⟨hC, id⟩
         simp only [Act.put, List.setIfInBounds_toArray, List.set_cons_zero, List.set_cons_succ]))
    apply wpRel_rel (fun v w' => v = .nilIface ∧ C2 w') (by rfl) (fun v w' w'' h h2 => ⟨h.1, h2.2 h.2⟩)
    · intro w' hC hf R hR
      go_simp
      refine (PPH.out w' hC).mono ?_
      rintro e w3 ⟨rfl, hp⟩
      exact ⟨_, rfl, hR _ _ ⟨rfl, hp⟩ ⟨.inr hp, fun _ => hp⟩⟩
    intro v
    simp only [Act.put, List.setIfInBounds_toArray, List.set_cons_zero, List.set_cons_succ]
    repeat (first
      | (apply wpRel_fix (by rfl)
         · intro w' hC hf R hR
           go_simp
           exact hR _ ⟨hC, id⟩
         simp only [Act.put, List.setIfInBounds_toArray, List.set_cons_zero, List.set_cons_succ]))
    apply wpRel_fix (by rfl)
    · intro w' hC hf R hR
      obtain ⟨rfl, _⟩ := hf _ (List.mem_cons_self ..) (by kernel_rfl)
      go_simp
      exact hR _ ⟨hC, id⟩
    simp only [Act.put, List.setIfInBounds_toArray, List.set_cons_zero, List.set_cons_succ]
    refine wpRel_nil (fun w9 hC hf => ?_)
    obtain ⟨rfl, hp⟩ := hf _ (List.mem_cons_self ..)
    have HP := Lib.hid (FIN.out _ hp)
    clear S hf hC hp
    go_wp2
    go_ret2
    exact ⟨rfl, HP.out⟩
  · obtain ⟨w0, hw0⟩ : ∃ w0, w0 = w.alloc (.cells #[.int .i64 (last + 1), .int .i64 2, .int .i64 0, .int .i64 0, .string { data := #[] }, .int .i64 1] 82) := ⟨_, rfl⟩
    rw [← hw0]
    have hx : newNd (last + 1) 2 = ⟨last + 1, 2, 0, 0, { data := #[] }, 1⟩ := by simp [newNd]
    have hv : validB ⟨last + 1, 2, 0, 0, { data := #[] }, 1⟩ = true := hx ▸ newNd_valid (by omega) (by omega)
    have hb0 : Below w.heap.size w w0 := by rw [hw0]; exact bl_alloc (Below.refl _ _) _
    have x0 : w0.cell? ⟨w.heap.size, 0, none⟩ = some (.int .i64 (last + 1)) := by rw [hw0]; simp
    have x1 : w0.cell? ⟨w.heap.size, 1, none⟩ = some (.int .i64 2) := by rw [hw0]; simp
    have x2 : w0.cell? ⟨w.heap.size, 2, none⟩ = some (.int .i64 0) := by rw [hw0]; simp
    have x3 : w0.cell? ⟨w.heap.size, 3, none⟩ = some (.int .i64 0) := by rw [hw0]; simp
    have x4 : w0.cell? ⟨w.heap.size, 4, none⟩ = some (.string { data := #[] }) := by rw [hw0]; simp
    have x5 : w0.cell? ⟨w.heap.size, 5, none⟩ = some (.int .i64 1) := by rw [hw0]; simp
    have l6 : w.heap.size < w0.heap.size := by rw [hw0]; simp
    have no6 : ¬ OwnN b m w.heap.size := fun h => Nat.lt_irrefl _ (H.out.own_lt _ h)
    have HE0 := Lib.hid (HE.out.below hb0)
    have H0 := Lib.hid (H.out.below hb0)
    have TB := Lib.hid (Touch.of_below hb0 (OwnN b m))
    clear hw0 hb0 hc hla
    generalize w.heap.size = c6 at *
    obtain ⟨C1, hC1⟩ : ∃ C1 : World → Prop, C1 = fun w' => NodesOut b m g n last w0 w' := ⟨_, rfl⟩
    obtain ⟨C2, hC2⟩ : ∃ C2 : World → Prop, C2 = fun w' => NodesOut b m (upd g (last + 1) ⟨last + 1, 2, 0, 0, { data := #[] }, 1⟩) (n + 1) (last + 1) w0 w' := ⟨_, rfl⟩
    have tou : ∀ w', C1 w' ∨ C2 w' → Touch (OwnN b m) w0 w' := by
      intro w' h
      rw [hC1, hC2] at h
      rcases h with ⟨_, _, t, _⟩ | ⟨_, _, t, _⟩ <;> exact t
    have S : ∀ w', C1 w' ∨ C2 w' → w'.cell? ⟨c6, 0, none⟩ = some (.int .i64 (last + 1)) ∧ w'.cell? ⟨c6, 1, none⟩ = some (.int .i64 2) ∧ w'.cell? ⟨c6, 2, none⟩ = some (.int .i64 0) ∧ w'.cell? ⟨c6, 3, none⟩ = some (.int .i64 0) ∧
        w'.cell? ⟨c6, 4, none⟩ = some (.string { data := #[] }) ∧ w'.cell? ⟨c6, 5, none⟩ = some (.int .i64 1) := by
      intro w' h
      have t := tou w' h
      have hc : ∀ o, w'.cell? ⟨c6, o, none⟩ = w0.cell? ⟨c6, o, none⟩ := fun o => t.cell (p := ⟨c6, o, none⟩) l6 no6
      exact ⟨(hc _).trans x0, (hc _).trans x1, (hc _).trans x2, (hc _).trans x3, (hc _).trans x4, (hc _).trans x5⟩
    have PP : ∀ w', C1 w' ∨ C2 w' → Calls Tryd.prog 63 #[.pointer (some ⟨b, 0, none⟩), .agg #[.int .i64 (last + 1), .int .i64 2, .int .i64 0, .int .i64 0, .string { data := #[] }, .int .i64 1]] w' fun e w'' => e = .returned .nilIface ∧ C2 w'' := by
      intro w' h
      rw [hC1, hC2] at h
      rw [hC2]
      exact put_phase ⟨last + 1, 2, 0, 0, { data := #[] }, 1⟩ rfl hv hn hg HE0.out hown h
    have hC0 : C1 w0.drew := by rw [hC1]; exact NodesOut.refl' H0.out (Below.refl _ _).drew
    have fin : ∀ w', C2 w' → NodesOut b m (upd g (last + 1) (newNd (last + 1) 2)) (n + 1) (last + 1) w w' := by
      intro w' h
      rw [hx]
      rw [hC2] at h
      exact NodesOut.trans TB.out (fun _ h => .inl h) h
    have FIN := Lib.hid fin
    have PPH := Lib.hid PP
    clear x0 x1 x2 x3 x4 x5 tou hC1 hC2 fin PP
    apply wp_region_rel _ (by kernel_rfl) (by kernel_rfl) (fun w' => C1 w' ∨ C2 w') (fun w' w'' => (C1 w'' ∨ C2 w'') ∧ (C2 w' → C2 w'')) (fun w' w'' _ h2 => h2.1) (.inl hC0)
    repeat (first
      | (apply wpRel_fix (by rfl)
         · intro w' hC hf R hR
           go_simp
           exact hR _ ⟨hC, id⟩
         simp only [Act.put, List.setIfInBounds_toArray, List.set_cons_zero, List.set_cons_succ]))
    apply wpRel_rel (fun v w' => v = .nilIface ∧ C2 w') (by rfl) (fun v w' w'' h h2 => ⟨h.1, h2.2 h.2⟩)
    · intro w' hC hf R hR
      go_simp
      refine (PPH.out w' hC).mono ?_
      rintro e w3 ⟨rfl, hp⟩
      exact ⟨_, rfl, hR _ _ ⟨rfl, hp⟩ ⟨.inr hp, fun _ => hp⟩⟩
    intro v
    simp only [Act.put, List.setIfInBounds_toArray, List.set_cons_zero, List.set_cons_succ]
    repeat (first
      | (apply wpRel_fix (by rfl)
         · intro w' hC hf R hR
           go_simp
           exact hR _ ⟨hC, id⟩
         simp only [Act.put, List.setIfInBounds_toArray, List.set_cons_zero, List.set_cons_succ]))
    apply wpRel_fix (by rfl)
    · intro w' hC hf R hR
      obtain ⟨rfl, _⟩ := hf _ (List.mem_cons_self ..) (by kernel_rfl)
      go_simp
      exact hR _ ⟨hC, id⟩
    simp only [Act.put, List.setIfInBounds_toArray, List.set_cons_zero, List.set_cons_succ]
    refine wpRel_nil (fun w9 hC hf => ?_)
    obtain ⟨rfl, hp⟩ := hf _ (List.mem_cons_self ..)
    have HP := Lib.hid (FIN.out _ hp)
    clear S hf hC hp
    go_wp2
    go_ret2
    exact ⟨rfl, HP.out⟩
  · obtain ⟨w0, hw0⟩ : ∃ w0, w0 = w.alloc (.cells #[.int .i64 (last + 1), .int .i64 3, .int .i64 0, .int .i64 0, .string { data := #[47] }, .int .i64 0] 82) := ⟨_, rfl⟩
    rw [← hw0]
    have hx : newNd (last + 1) 3 = ⟨last + 1, 3, 0, 0, { data := #[47] }, 0⟩ := by simp [newNd]
    have hv : validB ⟨last + 1, 3, 0, 0, { data := #[47] }, 0⟩ = true := hx ▸ newNd_valid (by omega) (by omega)
    have hb0 : Below w.heap.size w w0 := by rw [hw0]; exact bl_alloc (Below.refl _ _) _
    have x0 : w0.cell? ⟨w.heap.size, 0, none⟩ = some (.int .i64 (last + 1)) := by rw [hw0]; simp
    have x1 : w0.cell? ⟨w.heap.size, 1, none⟩ = some (.int .i64 3) := by rw [hw0]; simp
    have x2 : w0.cell? ⟨w.heap.size, 2, none⟩ = some (.int .i64 0) := by rw [hw0]; simp
    have x3 : w0.cell? ⟨w.heap.size, 3, none⟩ = some (.int .i64 0) := by rw [hw0]; simp
    have x4 : w0.cell? ⟨w.heap.size, 4, none⟩ = some (.string { data := #[47] }) := by rw [hw0]; simp
    have x5 : w0.cell? ⟨w.heap.size, 5, none⟩ = some (.int .i64 0) := by rw [hw0]; simp
    have l6 : w.heap.size < w0.heap.size := by rw [hw0]; simp
    have no6 : ¬ OwnN b m w.heap.size := fun h => Nat.lt_irrefl _ (H.out.own_lt _ h)
    have HE0 := Lib.hid (HE.out.below hb0)
    have H0 := Lib.hid (H.out.below hb0)
    have TB := Lib.hid (Touch.of_below hb0 (OwnN b m))
    clear hw0 hb0 hc hla
    generalize w.heap.size = c6 at *
    obtain ⟨C1, hC1⟩ : ∃ C1 : World → Prop, C1 = fun w' => NodesOut b m g n last w0 w' := ⟨_, rfl⟩
    obtain ⟨C2, hC2⟩ : ∃ C2 : World → Prop, C2 = fun w' => NodesOut b m (upd g (last + 1) ⟨last + 1, 3, 0, 0, { data := #[47] }, 0⟩) (n + 1) (last + 1) w0 w' := ⟨_, rfl⟩
    have tou : ∀ w', C1 w' ∨ C2 w' → Touch (OwnN b m) w0 w' := by
      intro w' h
      rw [hC1, hC2] at h
      rcases h with ⟨_, _, t, _⟩ | ⟨_, _, t, _⟩ <;> exact t
    have S : ∀ w', C1 w' ∨ C2 w' → w'.cell? ⟨c6, 0, none⟩ = some (.int .i64 (last + 1)) ∧ w'.cell? ⟨c6, 1, none⟩ = some (.int .i64 3) ∧ w'.cell? ⟨c6, 2, none⟩ = some (.int .i64 0) ∧ w'.cell? ⟨c6, 3, none⟩ = some (.int .i64 0) ∧
        w'.cell? ⟨c6, 4, none⟩ = some (.string { data := #[47] }) ∧ w'.cell? ⟨c6, 5, none⟩ = some (.int .i64 0) := by
      intro w' h
      have t := tou w' h
      have hc : ∀ o, w'.cell? ⟨c6, o, none⟩ = w0.cell? ⟨c6, o, none⟩ := fun o => t.cell (p := ⟨c6, o, none⟩) l6 no6
      exact ⟨(hc _).trans x0, (hc _).trans x1, (hc _).trans x2, (hc _).trans x3, (hc _).trans x4, (hc _).trans x5⟩
    have PP : ∀ w', C1 w' ∨ C2 w' → Calls Tryd.prog 63 #[.pointer (some ⟨b, 0, none⟩), .agg #[.int .i64 (last + 1), .int .i64 3, .int .i64 0, .int .i64 0, .string { data := #[47] }, .int .i64 0]] w' fun e w'' => e = .returned .nilIface ∧ C2 w'' := by
      intro w' h
      rw [hC1, hC2] at h
      rw [hC2]
      exact put_phase ⟨last + 1, 3, 0, 0, { data := #[47] }, 0⟩ rfl hv hn hg HE0.out hown h
    have hC0 : C1 w0.drew := by rw [hC1]; exact NodesOut.refl' H0.out (Below.refl _ _).drew
    have fin : ∀ w', C2 w' → NodesOut b m (upd g (last + 1) (newNd (last + 1) 3)) (n + 1) (last + 1) w w' := by
      intro w' h
      rw [hx]
      rw [hC2] at h
      exact NodesOut.trans TB.out (fun _ h => .inl h) h
    have FIN := Lib.hid fin
    have PPH := Lib.hid PP
    clear x0 x1 x2 x3 x4 x5 tou hC1 hC2 fin PP
    apply wp_region_rel _ (by kernel_rfl) (by kernel_rfl) (fun w' => C1 w' ∨ C2 w') (fun w' w'' => (C1 w'' ∨ C2 w'') ∧ (C2 w' → C2 w'')) (fun w' w'' _ h2 => h2.1) (.inl hC0)
    repeat (first
      | (apply wpRel_fix (by rfl)
         · intro w' hC hf R hR
           go_simp
           exact hR _ ⟨hC, id⟩
         simp only [Act.put, List.setIfInBounds_toArray, List.set_cons_zero, List.set_cons_succ]))
    apply wpRel_rel (fun v w' => v = .nilIface ∧ C2 w') (by rfl) (fun v w' w'' h h2 => ⟨h.1, h2.2 h.2⟩)
    · intro w' hC hf R hR
      go_simp
      refine (PPH.out w' hC).mono ?_
      rintro e w3 ⟨rfl, hp⟩
      exact ⟨_, rfl, hR _ _ ⟨rfl, hp⟩ ⟨.inr hp, fun _ => hp⟩⟩
    intro v
    simp only [Act.put, List.setIfInBounds_toArray, List.set_cons_zero, List.set_cons_succ]
    repeat (first
      | (apply wpRel_fix (by rfl)
         · intro w' hC hf R hR
           go_simp
           exact hR _ ⟨hC, id⟩
         simp only [Act.put, List.setIfInBounds_toArray, List.set_cons_zero, List.set_cons_succ]))
    apply wpRel_fix (by rfl)
    · intro w' hC hf R hR
      obtain ⟨rfl, _⟩ := hf _ (List.mem_cons_self ..) (by kernel_rfl)
      go_simp
      exact hR _ ⟨hC, id⟩
    simp only [Act.put, List.setIfInBounds_toArray, List.set_cons_zero, List.set_cons_succ]
    refine wpRel_nil (fun w9 hC hf => ?_)
    obtain ⟨rfl, hp⟩ := hf _ (List.mem_cons_self ..)
    have HP := Lib.hid (FIN.out _ hp)
    clear S hf hC hp
    go_wp2
    go_ret2
    exact ⟨rfl, HP.out⟩
end Go.Proofs.YtjmbilbkmcebeaaDoor
