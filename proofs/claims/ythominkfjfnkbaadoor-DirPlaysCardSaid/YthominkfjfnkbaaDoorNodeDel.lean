/- The walks of package node's table: Put where there are too many, Del. -/
import Derived.Test.YthominkfjfnkbaaDoorNodeLaw
namespace Go.Proofs.YthominkfjfnkbaaDoor
open Go Go.RowKit
set_option maxRecDepth 100000
set_option linter.unusedSimpArgs false
attribute [local go_sem] giv
variable {E : Nat → Addr} {B : Nat}

set_option maxHeartbeats 1000000 in
theorem nput_many {w : World} {b : Nat} {m : Option Nat} {g : Int → Option Nd} {n : Nat} {last : Int} (h : NodesAt w b m g n last) (x : Nd) (hx : validB x = true) (hg : g x.id = none) (hn : 512 ≤ n) (hE : Env E B w)  :
    Calls Tryd.prog 29 #[.pointer (some ⟨b, 0, none⟩), encN x] w fun e w' => e = .returned (errV E 4) ∧ Below w.heap.size w w' := by
  have hid : 1 ≤ x.id ∧ x.id ≤ 16777215 := by
    simp only [validB, Bool.and_eq_true, idB, decide_eq_true_eq] at hx
    exact hx.1
  obtain ⟨i, k, l, s, t, p⟩ := x
  simp only at hg hid
  have hb0 : Below w.heap.size w (w.alloc (.cells #[.int .i64 i, .int .i64 k, .int .i64 l, .int .i64 s, .string t, .int .i64 p] 44)) := bl_alloc (Below.refl _ _) _
  have HE1 := Lib.hid (hE.alloc (.cells #[.int .i64 i, .int .i64 k, .int .i64 l, .int .i64 s, .string t, .int .i64 p] 44))
  have H := Lib.hid h
  have HE0 := Lib.hid hE
  have HX := Lib.hid hx
  have HI := Lib.hid hid
  have HB0 := Lib.hid hb0
  clear hE hb0 h hx hid
  unfold encN
  have his : (g i).isSome = false := by rw [hg]; rfl
  have HN5 : ¬ ((n : Int) < 512) := by omega
  clear hg hn
  · go_enter Tryd.func29, Tryd.ntmps29
    go_wp2_with fail
    refine (valid_any ⟨i, k, l, s, t, p⟩ _ HE1.out).mono ?_
    rintro e w1 ⟨rfl, hb⟩
    rw [vRes_is HX.out]
    go_wp2_with fail
    have h1 := H.out.below (HB0.out.trans (hb.mono (by simp)))
    have HB1 := Lib.hid (HB0.out.trans (hb.mono (by simp)))
    have lx : w.heap.size < w1.heap.size := by have := hb.size; simp at this; omega
    have nbx : b ≠ w.heap.size := by have := H.out.lt; omega
    have cx : ∀ j, w1.cell? ⟨w.heap.size, j, none⟩ = (#[.int .i64 i, .int .i64 k, .int .i64 l, .int .i64 s, .string t, .int .i64 p] : Array Value)[j]? := by
      intro j
      rw [hb.cell (p := ⟨w.heap.size, j, none⟩) (by simp)]
      simp
    have H1 := Lib.hid h1
    have hown : ∀ x, OwnN b m x → x < w.heap.size := H.out.own_lt
    have HO := Lib.hid hown
    clear hb HE1 HB0 hown
    generalize hbx : w.heap.size = bx at *
    have HBX := Lib.hid hbx
    clear hbx
    have HL : ∀ w', Shp w1.heap.size w1 w' → (Instr.lookup 39 (.map m) (.int .i64 i) true).run Tryd.prog w' = .ok (.tuple #[encN ((g i).getD noNd), .bool (g i).isSome]) w' :=
      fun w' hs => nodes_look (H1.out.below hs.bel) (by have := HI.out; omega)
    generalize hq : (g i).getD noNd = q at HL
    obtain ⟨q1, q2, q3, q4, q5, q6⟩ := q
    rw [his] at HL
    unfold encN at HL
    dsimp only at HL
    have c0 := cx 0
    clear hq
    have S : ∀ w', Shp w1.heap.size w1 w' → w'.cell? ⟨b, 0, none⟩ = some (.map m) ∧ w'.cell? ⟨bx, 0, none⟩ = some (.int .i64 i) := by
      intro w' hs
      exact ⟨(H1.out.below hs.bel).map, (hs.bel.cell (p := ⟨bx, 0, none⟩) lx).trans (by simpa using cx 0)⟩
    clear c0 h1
    have CX := Lib.hid cx
    clear cx
    apply wp_region_rel _ (by kernel_rfl) (by kernel_rfl) (fun w' => Shp w1.heap.size w1 w') (fun w' w'' => Shp w1.heap.size w' w'') (fun w' w'' h1 h2 => h1.trans h2) (Shp.refl _ _).drew
    repeat (first
      | (apply wpRel_fix (by rfl)
         · intro w' hC hf R hR
           go_simp
           exact hR _ (Shp.refl _ _)
         simp only [Act.put, List.setIfInBounds_toArray, List.set_cons_zero, List.set_cons_succ])
      | (apply wpRel_fix (by rfl)
         · intro w' hC hf R hR
           exact giv_look _ _ _ _ rfl (HL w' hC) (hR _ (Shp.refl _ _))
         simp only [Act.put, List.setIfInBounds_toArray, List.set_cons_zero, List.set_cons_succ]))
    apply wpRel_rel (PtBlk w1.heap.size 6) (by rfl) ptBlk_keep
    · intro w' hC hf R hR
      go_simp
      exact hR _ _ ⟨_, rfl, hC.bel.size, IsBlk.new' _ _ _ rfl⟩ (Shp.alloc (Shp.refl _ _) hC.bel.size _)
    intro v6
    simp only [Act.put, List.setIfInBounds_toArray, List.set_cons_zero, List.set_cons_succ]
    apply wpRel_fix (by rfl)
    · intro w' hC hf R hR
      obtain ⟨c, rfl, hc, hk⟩ := hf _ (List.mem_cons_self ..) (by kernel_rfl)
      obtain ⟨u0, e0⟩ := hk.cell (i := 0) (by omega)
      obtain ⟨u1, e1⟩ := hk.cell (i := 1) (by omega)
      obtain ⟨u2, e2⟩ := hk.cell (i := 2) (by omega)
      obtain ⟨u3, e3⟩ := hk.cell (i := 3) (by omega)
      obtain ⟨u4, e4⟩ := hk.cell (i := 4) (by omega)
      obtain ⟨u5, e5⟩ := hk.cell (i := 5) (by omega)
      have f0 := hk.froz 0
      have f1 := hk.froz 1
      have f2 := hk.froz 2
      have f3 := hk.froz 3
      have f4 := hk.froz 4
      have f5 := hk.froz 5
      go_simp
      refine hR _ ?_
      iterate 6 (refine Shp.setCell ?_ hc _)
      exact Shp.refl _ _
    simp only [Act.put, List.setIfInBounds_toArray, List.set_cons_zero, List.set_cons_succ]
    apply wpRel_fix (by rfl)
    · intro w' hC hf R hR
      go_simp
      exact hR _ (Shp.refl _ _)
    simp only [Act.put, List.setIfInBounds_toArray, List.set_cons_zero, List.set_cons_succ]
    refine wpRel_nil (fun w2 hC hf => ?_)
    have H2 := Lib.hid (H1.out.below hC.bel)
    have hc2 := H2.out.map
    have hlt2 := H2.out.lt
    have hf2 := H2.out.fmap
    have hmm := @run_makeMap Tryd.prog
    have CX2 : Hid (∀ j, w2.cell? ⟨bx, j, none⟩ = (#[.int .i64 i, .int .i64 k, .int .i64 l, .int .i64 s, .string t, .int .i64 p] : Array Value)[j]?) :=
      Lib.hid fun j => (hC.bel.cell (p := ⟨bx, j, none⟩) lx).trans (CX.out j)
    have lx2 : bx < w2.heap.size := Nat.lt_of_lt_of_le lx hC.bel.size
    have HT2 : Hid (Below w.heap.size w w2) := Lib.hid (HBX.out ▸ (HB1.out.trans (hC.bel.mono (Nat.le_of_lt lx))))
    have h512 : (512 : Int) ≤ n := by omega
    have hEE := HE0.out.below HT2.out
    have he := hEE.cell 4 (by decide)
    have hlt : 4 < w2.heap.size := Nat.lt_of_lt_of_le (hEE.glt 4 (by decide)) hEE.size
    clear HL S hf CX HB1 hC H1 hEE
    go_wp2_with (first
      | (at_len; refine wpList_glen (by rfl) _ _ rfl (nodes_len H2.out _) ?_))
    go_ret
    exact ⟨rfl, HT2.out⟩

theorem ndel_any {w : World} {b : Nat} {m : Option Nat} {g : Int → Option Nd} {n : Nat} {last : Int} (h : NodesAt w b m g n last) {k : Int} (hk : -9223372036854775808 ≤ k ∧ k ≤ 9223372036854775807) :
    Calls Tryd.prog 30 #[.pointer (some ⟨b, 0, none⟩), .int .i64 k] w fun e w' => e = .returned (.bool (g k).isSome) ∧
      NodesOut b m (del g k) (if (g k).isSome then n - 1 else n) last w w' := by
  have hc := h.map
  have hlt := h.lt
  have H := Lib.hid h
  clear h
  generalize hnn : (if (g k).isSome = true then n - 1 else n) = n'
  have HNN := Lib.hid hnn
  clear hnn
  cases m with
  | none =>
    go_enter Tryd.func30, Tryd.ntmps30
    generalize hx : (g k).getD noNd = x at *
    obtain ⟨i, kd, l, s, t, p⟩ := x
    go_wp2_with (first
      | (at_lookup; refine wpList_look rfl _ _ _ _ rfl (nodes_look H.out hk) ?_; rw [hx]; unfold encN)
      | (at_delete; refine wpList_drop rfl _ _ _ _ rfl ⟨_, Maps.drop_nil kdInt Tryd.underlying39 (keyI hk) _, rfl⟩ ?_; rintro w' rfl))
    go_ret
    have hg : g k = none := H.out.made.2 k
    refine ⟨rfl, none, ?_, ?_, fun _ h => .inl h⟩
    · have h2 := H.out.below (bl_alloc (Below.refl _ _) (.cells #[.int .i64 i, .int .i64 kd, .int .i64 l, .int .i64 s, .string t, .int .i64 p] 44))
      have e1 : del g k = g := by
        funext x
        unfold del
        split
        · subst x; exact hg.symm
        · rfl
      have e2 : n = n' := by
        have := HNN.out
        rw [hg] at this
        simpa using this
      rw [e1, ← e2]
      exact h2
    · exact Touch.alloc (Touch.refl _ _) _
  | some r =>
    have nr : w.heap.size ≠ r := by have := H.out.own_lt r (.inr rfl); omega
    go_enter Tryd.func30, Tryd.ntmps30
    generalize hx : (g k).getD noNd = x at *
    obtain ⟨i, kd, l, s, t, p⟩ := x
    go_wp2_with (first
      | (at_lookup; refine wpList_look rfl _ _ _ _ rfl (nodes_look H.out hk) ?_; rw [hx]; unfold encN)
      | (at_delete
         apply wpList_drop rfl _ _ _ _ rfl
         · exact (H.out.made.2.alloc _).drop kdInt Tryd.underlying39 inj64 (keyI hk) _
         rintro w2 ⟨hm2, ht2⟩
         have FT := Lib.hid (HNN.out ▸ ((H.out.below (bl_alloc (Below.refl _ _) _)).turned hm2 ht2))
         have TT := Lib.hid (Touch.of_turned ht2)
         clear hm2 ht2))
    go_ret
    exact ⟨rfl, some r, FT.out, (Touch.alloc (Touch.refl _ _) _).trans TT.out (fun x hx _ => .inr (by rw [hx])), fun _ h => .inl h⟩

section
variable {L : List Nat} {w w' : World} {b n : Nat} {g : Int → Option Nd} {last : Int}
theorem nb_put_many (h : NB B L w b g n last) (x : Nd) (hx : validB x = true) (hg : g x.id = none) (hn : 512 ≤ n) (hE : Env E B w) :
    Calls Tryd.prog 29 #[.pointer (some ⟨b, 0, none⟩), encN x] w fun e w' => e = .returned (errV E 4) ∧ NB B L w' b g n last ∧ Kept B L w w' := by
  have h' := h
  obtain ⟨_, _, m, h3, _⟩ := h
  exact (nput_many h3 x hx hg hn hE).mono fun _ _ ⟨he, hb⟩ => ⟨he, h'.below hb⟩
theorem nb_del (h : NB B L w b g n last) {k : Int} (hk : -9223372036854775808 ≤ k ∧ k ≤ 9223372036854775807) :
    Calls Tryd.prog 30 #[.pointer (some ⟨b, 0, none⟩), .int .i64 k] w fun e w' => e = .returned (.bool (g k).isSome) ∧ NB B L w' b (del g k) (if (g k).isSome then n - 1 else n) last ∧ Kept B L w w' := by
  obtain ⟨h1, h2, m, h3, h4⟩ := h
  exact (ndel_any h3 hk).mono fun e w' ⟨he, ho⟩ => ⟨he, NB.out h1 h2 h4 ho⟩
end
end Go.Proofs.YthominkfjfnkbaaDoor
