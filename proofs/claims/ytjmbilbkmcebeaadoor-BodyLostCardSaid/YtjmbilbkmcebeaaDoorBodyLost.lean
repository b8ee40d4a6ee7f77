/- The walk of the law BodyLost. -/
import Derived.Test.YtjmbilbkmcebeaaDoorBodyX
namespace Go.Proofs.YtjmbilbkmcebeaaDoor
open Go Go.RowKit
set_option maxRecDepth 100000
set_option linter.unusedSimpArgs false
attribute [local go_sem] giv
variable {E : Nat → Addr} {B : Nat}

/-- The first n cells of node 7. -/
def lc (n : Nat) : List Cl := (List.range n).map fun (i : Nat) => ((7 : Int), (i : Int))
theorem lc_mem {n : Nat} {c : Cl} : c ∈ lc n ↔ ∃ i : Nat, i < n ∧ c = (7, (i : Int)) := by
  unfold lc
  rw [List.mem_map]
  constructor
  · rintro ⟨i, hi, rfl⟩; exact ⟨i, List.mem_range.1 hi, rfl⟩
  · rintro ⟨i, hi, rfl⟩; exact ⟨i, List.mem_range.2 hi, rfl⟩
theorem lc_len (n : Nat) : (lc n).length = n := by simp [lc]
theorem lc_nodup (n : Nat) : (lc n).Nodup := by
  unfold lc
  refine List.pairwise_map.2 (List.nodup_range.imp fun {a b} h e => h ?_)
  injection e with _ e
  omega
/-- What the body has behind i sets. -/
def lg : Nat → Cl → Option (Option (List Int))
  | 0 => fun _ => none
  | i + 1 => upd (lg i) (7, (i : Int)) (some (pad [(i : Int)]))
def ld : Nat → Cl → Option Int
  | 0 => fun _ => none
  | i + 1 => upd (ld i) (7, (i : Int)) 1
theorem lg_get (n : Nat) (c : Cl) : lg n c = if c ∈ lc n then some (some (pad [c.2])) else none := by
  induction n with
  | zero => simp [lg, lc]
  | succ n ih =>
    by_cases h : c = (7, (n : Int))
    · subst h
      have hm : ((7 : Int), (n : Int)) ∈ lc (n + 1) := lc_mem.2 ⟨n, by omega, rfl⟩
      rw [if_pos hm]
      simp [lg, upd]
    · have hm : c ∈ lc (n + 1) ↔ c ∈ lc n := by
        rw [lc_mem, lc_mem]
        constructor
        · rintro ⟨i, hi, rfl⟩
          exact ⟨i, by
            rcases Nat.lt_or_ge i n with h1 | h1
            · exact h1
            · exact absurd (by rw [show i = n by omega]) h, rfl⟩
        · rintro ⟨i, hi, rfl⟩; exact ⟨i, by omega, rfl⟩
      rw [show lg (n + 1) c = lg n c by simp [lg, upd, h], ih]
      by_cases hc : c ∈ lc n
      · rw [if_pos hc, if_pos (hm.2 hc)]
      · rw [if_neg hc, if_neg (fun h => hc (hm.1 h))]
theorem ld_get (n : Nat) (c : Cl) : (ld n c).isSome = true ↔ c ∈ lc n := by
  induction n with
  | zero => simp [ld, lc]
  | succ n ih =>
    rw [lc_mem]
    by_cases h : c = (7, (n : Int))
    · subst h
      simp only [ld, upd, if_true, Option.isSome_some, true_iff]
      exact ⟨n, by omega, rfl⟩
    · rw [show ld (n + 1) c = ld n c by simp [ld, upd, h], ih, lc_mem]
      constructor
      · rintro ⟨i, hi, rfl⟩; exact ⟨i, by omega, rfl⟩
      · rintro ⟨i, hi, rfl⟩
        exact ⟨i, by
          rcases Nat.lt_or_ge i n with h1 | h1
          · exact h1
          · exact absurd (by rw [show i = n by omega]) h, rfl⟩

set_option maxHeartbeats 4000000 in
theorem lost_any (a0 a1 : Int) (a2 : Bool) (w : World) (hE : Env E B w) :
    Calls Tryd.prog 4 #[.int .i64 a0, .int .i64 a1, .bool a2] w fun e w' => e = .returned (.bool true) ∧ Below B w w' := by
  have hB := hE.size
  have HE := Lib.hid hE
  clear hE
  go_enter Tryd.func4, Tryd.ntmps4
  go_wp2_with fail
  refine (first16 _).mono ?_
  rintro e w1 ⟨rfl, hb1⟩
  have HB1 := Lib.hid (hb1.mono hB)
  have HE1 := Lib.hid (HE.out.below hb1)
  clear hb1
  go_wp2_with fail
  refine (number_any a0 20 (by omega) _).mono ?_
  rintro e w2 ⟨rfl, rfl⟩
  obtain ⟨N, hN, hNe⟩ : ∃ N : Nat, N < 20 ∧ a0 % 20 = N := ⟨(a0 % 20).toNat, by omega, by omega⟩
  rw [hNe]
  clear hNe
  go_wp2_with fail
  refine (number_any a1 ((N : Int) + 1) (by omega) _).mono ?_
  rintro e w2 ⟨rfl, rfl⟩
  obtain ⟨AT, hAT, hATe⟩ : ∃ T : Nat, T < N + 1 ∧ a1 % ((N : Int) + 1) = T := ⟨(a1 % ((N : Int) + 1)).toNat, by
    have := Int.emod_lt_of_pos a1 (b := (N : Int) + 1) (by omega)
    have := Int.emod_nonneg a1 (b := (N : Int) + 1) (by omega)
    omega, by
    have := Int.emod_nonneg a1 (b := (N : Int) + 1) (by omega)
    omega⟩
  rw [hATe]
  clear hATe
  go_wp2_with fail
  refine (bx_new (B := B) w1 [] (fun x hx => by cases hx) HE1.out.size).mono ?_
  rintro e w2 ⟨⟨b, m, d, rfl, hx, _, _, _⟩, hb2⟩
  have HX := Lib.hid hx
  have HB2 := Lib.hid (HB1.out.trans (hb2.mono HE1.out.size))
  have HE2 := Lib.hid (HE1.out.below hb2)
  clear hx hb2 HB1 HE1
  go_wp2_with fail
  go_loopw [9] (fun i wr => ∃ j : Nat, j ≤ N + 1 ∧ i = .int .i64 j ∧ Hid (BX B [] wr b m d (lg j) (ld j)) ∧ Hid (Env E B wr) ∧ Hid (Below B w wr)) (fun i _ => N + 1 - (intOf i).toNat)
  case atStart => exact ⟨0, Nat.zero_le _, rfl, HX, HE2, HB2⟩
  case round =>
    obtain ⟨j, hj, rfl, HXr, HEr, HBr⟩ := hrel
    clear HX HE2 HB2
    by_cases hlt : j < N + 1
    · have hw8 : IntKind.u8.wrap (j : Int) = j := by simp [IntKind.wrap, IntKind.bits, IntKind.signed]; omega
      have hrow := Row.new wr 5 [.int .u8 j]
      have HRD : Hid (RdB (wr.alloc (.cells #[.int .u8 j] 5)) (.slice (some ⟨wr.heap.size, 0, none⟩) 1 1) [(j : Int)]) := Lib.hid (RdB.of_row hrow rfl)
      have HX1 := Lib.hid (HXr.out.below (bl_alloc (Below.refl _ _) (.cells #[.int .u8 j] 5)))
      clear hrow
      go_wp2_with fail
      refine (bx_set (c := (7, (j : Int))) (l := [(j : Int)]) HX1.out (by unfold cellOk; simp only; omega) (by simp) HRD.out.slIn).mono ?_
      rintro e w3 ⟨rfl, ho⟩
      have HO := Lib.hid ho
      have HK := Lib.hid (BXOut.kept HX1.out ho)
      clear ho
      go_wp2
      go_roundw
      case rel =>
        refine ⟨j + 1, by omega, by go_num, Lib.hid HO.out.1, Lib.hid ((HEr.out.alloc _).keep HK.out.below), Lib.hid ((HBr.out.trans ((Below.refl B wr).alloc HEr.out.size _)).trans HK.out.below)⟩
      case measure => simp [intOf]; omega
    · obtain rfl : j = N + 1 := by omega
      have hS : Hid (∀ c, (lg (N + 1) c).isSome = true → c ∈ lc (N + 1)) := Lib.hid fun c hc => by
        rw [lg_get] at hc
        split at hc
        · assumption
        · cases hc
      have hSd : Hid (∀ c, (ld (N + 1) c).isSome = true → c ∈ lc (N + 1)) := Lib.hid fun c hc => (ld_get _ _).1 hc
      have hin7 : ∀ i : Nat, i < 100 → In64 ((7, (i : Int)) : Cl).1 ∧ In64 ((7, (i : Int)) : Cl).2 := fun i hi => by unfold In64; simp only; omega
      have HIN7 := Lib.hid hin7
      clear hin7
      have hb4 := bl_alloc (Below.refl wr.heap.size wr) (.cells #[.int .i64 7, .int .i64 AT] 39)
      have hrow := Row.new wr 39 [.int .i64 7, .int .i64 AT]
      have HX4 := Lib.hid (HXr.out.add hb4 [wr.heap.size] (fun x hx => by obtain rfl := List.mem_singleton.1 hx; exact ⟨Nat.le_refl _, by simp⟩))
      have HE4 := Lib.hid (HEr.out.below hb4)
      have HB4 := Lib.hid (HBr.out.trans (hb4.mono HEr.out.size))
      have HR4 := Lib.hid hrow
      clear hrow hb4 HXr HEr HBr
      go_wp2_with fail
      generalize hw4 : wr.alloc (.cells #[.int .i64 7, .int .i64 AT] 39) = w4 at *
      generalize hc0 : wr.heap.size = c0 at *
      clear hw4 hc0
      refine (bx_dirty HX4.out hSd.out (by rw [lc_len]; omega)).mono ?_
      rintro e w5 ⟨⟨v, zs, rfl, hnd, hmem, _, hsl, _⟩, hb5⟩
      obtain ⟨sp, cap, rfl⟩ := hsl.shape
      have hlen : zs.length = N + 1 := by
        rw [nodup_len_eq hnd (lc_nodup (N + 1)) fun c => (hmem c).trans (ld_get _ _), lc_len]
      rw [hlen]
      have HX5 := Lib.hid (HX4.out.below hb5)
      have HE5 := Lib.hid (HE4.out.below hb5)
      have HB5 := Lib.hid (HB4.out.trans (hb5.mono HE4.out.size))
      have HR5 := Lib.hid (HR4.out.below hb5)
      clear hlen hsl hmem hnd hb5 HX4 HE4 HB4 HR4
      go_wp2_with fail
      refine (bx_lose_no (c := (7, (N : Int) + 1)) HX5.out (by unfold In64; simp) (by unfold In64; simp only; omega) (by
        rw [lg_get, if_neg]
        rw [lc_mem]
        rintro ⟨i, hi, he⟩
        injection he with _ he
        omega)).mono ?_
      rintro e w6 ⟨rfl, hb6⟩
      have HX6 := Lib.hid (HX5.out.below hb6)
      have HE6 := Lib.hid (HE5.out.below hb6)
      have HB6 := Lib.hid (HB5.out.trans (hb6.mono HE5.out.size))
      have HR6 := Lib.hid (HR5.out.below hb6)
      clear hb6 HX5 HE5 HB5 HR5
      have q0 := HR6.out.cell 0
      have q1 := HR6.out.cell 1
      have ql := HR6.out.lt
      go_wp2_with fail
      have hmem : ((7 : Int), (AT : Int)) ∈ lc (N + 1) := lc_mem.2 ⟨AT, hAT, rfl⟩
      refine (bx_lose (c := (7, (AT : Int))) HX6.out (HIN7.out AT (by omega)).1 (HIN7.out AT (by omega)).2 (o := some (pad [(AT : Int)])) (by rw [lg_get, if_pos hmem])).mono ?_
      rintro e w7 ⟨rfl, ho⟩
      have HMEM := Lib.hid hmem
      have HK := Lib.hid (BXOut.kept HX6.out ho)
      have HX7 := Lib.hid ho.1
      have HR7 := Lib.hid (HR6.out.touch ho.2 (fun hx => (HX6.out.own c0 hx).2.2 (List.mem_cons_self ..)))
      have HE7 := Lib.hid (HE6.out.keep HK.out.below)
      have HB7 := Lib.hid (HB6.out.trans HK.out.below)
      clear hmem ho HK HX6 HE6 HB6 HR6 q0 q1 ql
      obtain ⟨g7, hg7⟩ : ∃ g7, g7 = upd (lg (N + 1)) (7, (AT : Int)) none := ⟨_, rfl⟩
      rw [← hg7] at HX7
      have HG7 := Lib.hid hg7
      clear hg7
      go_wp2_with fail
      refine (bx_dirty HX7.out (S := lc (N + 1)) (fun c hc => by
        unfold del at hc
        split at hc
        · cases hc
        · exact (ld_get _ _).1 hc) (by rw [lc_len]; omega)).mono ?_
      rintro e w8 ⟨⟨v, zs, rfl, hnd, hmem, _, hsl, _⟩, hb8⟩
      obtain ⟨sp8, cap8, rfl⟩ := hsl.shape
      have hlen : zs.length = N := by
        rw [nodup_len_eq hnd ((lc_nodup (N + 1)).erase (7, (AT : Int))) fun c => (hmem c).trans (by
          rw [(lc_nodup (N + 1)).mem_erase_iff]
          unfold del
          by_cases h : c = (7, (AT : Int))
          · simp [h]
          · rw [if_neg h, ld_get]; simp [h]), List.length_erase_of_mem HMEM.out, lc_len]
        rfl
      rw [hlen]
      have HX8 := Lib.hid (HX7.out.below hb8)
      have HE8 := Lib.hid (HE7.out.below hb8)
      have HB8 := Lib.hid (HB7.out.trans (hb8.mono HE7.out.size))
      have HR8 := Lib.hid (HR7.out.below hb8)
      have q0 := HR8.out.cell 0
      have q1 := HR8.out.cell 1
      have ql := HR8.out.lt
      clear hlen hsl hmem hnd hb8 HX7 HE7 HB7 HR7
      go_wp2_with fail
      refine (bx_has (c := (7, (AT : Int))) HX8.out (HIN7.out AT (by omega)).1 (HIN7.out AT (by omega)).2).mono ?_
      rintro e w9 ⟨rfl, hb9⟩
      rw [show (g7 (7, (AT : Int))).isSome = true by rw [HG7.out]; simp [upd]]
      have HX9 := Lib.hid (HX8.out.below hb9)
      have HE9 := Lib.hid (HE8.out.below hb9)
      have HB9 := Lib.hid (HB8.out.trans (hb9.mono HE8.out.size))
      have HR9 := Lib.hid (HR8.out.below hb9)
      clear hb9 HX8 HE8 HB8 HR8 q0 q1 ql
      go_wp2_with fail
      refine (bx_clean HX9.out).mono ?_
      rintro e w10 ⟨rfl, d2, hx, hd2, ht⟩
      have HKC := Lib.hid (Kept.of_touch ht HX9.out.hB HX9.out.hL (fun x hx => by subst hx; exact ⟨(HX9.out.own x (.inl rfl)).1, (HX9.out.own x (.inl rfl)).2.2⟩))
      have HR10 := Lib.hid (HR9.out.touch ht (fun hx => (HX9.out.own c0 (.inl hx)).2.2 (List.mem_cons_self ..)))
      have HX10 := Lib.hid hx
      have HE10 := Lib.hid (HE9.out.keep HKC.out.below)
      have HB10 := Lib.hid (HB9.out.trans HKC.out.below)
      clear hx hd2 ht HKC HX9 HE9 HB9 HR9
      have HS10 : Hid (∀ c, (g7 c).isSome = true → c ∈ lc (N + 1)) := Lib.hid fun c hc => by
        rw [HG7.out] at hc
        unfold upd at hc
        split at hc
        · rename_i h; rw [h]; exact HMEM.out
        · exact hS.out c hc
      go_wp2_with fail
      refine (bx_lost HX10.out HS10.out (by rw [lc_len]; omega)).mono ?_
      rintro e w11 ⟨⟨v, zs, rfl, hnd, hmem, _, hsl, _⟩, hb11⟩
      obtain ⟨sp11, cap11, rfl⟩ := hsl.shape
      have hzs : zs = [((7 : Int), (AT : Int))] := by
        have hmm : ∀ c, c ∈ zs ↔ c ∈ [((7 : Int), (AT : Int))] := fun c => by
          rw [hmem, List.mem_singleton]
          unfold isLost
          rw [HG7.out]
          unfold upd
          by_cases h : c = (7, (AT : Int))
          · simp [h]
          · rw [if_neg h, lg_get]
            by_cases h2 : c ∈ lc (N + 1)
            · simp [h2, h]
            · simp [h2, h]
        exact List.perm_singleton.1 ((List.perm_ext_iff_of_nodup hnd (List.pairwise_singleton _ _)).2 hmm)
      subst hzs
      have HX11 := Lib.hid (HX10.out.below hb11)
      have HE11 := Lib.hid (HE10.out.below hb11)
      have HB11 := Lib.hid (HB10.out.trans (hb11.mono HE10.out.size))
      have HR11 := Lib.hid (HR10.out.below hb11)
      obtain ⟨h11, rfl, hl11, p0, p1⟩ : ∃ h11, sp11 = some ⟨h11, 0, none⟩ ∧ h11 < w11.heap.size ∧ w11.cell? ⟨h11, 0, none⟩ = some (.int .i64 7) ∧ w11.cell? ⟨h11, 1, none⟩ = some (.int .i64 AT) := by
        obtain ⟨sp', cap', he', _, _, h3⟩ := hsl.rd (fun _ => rfl)
        obtain ⟨h', off', h4, h5, h6⟩ := h3 (by simp)
        rcases hsl.cases with ⟨_, h⟩ | ⟨g', cap'', e1, _⟩
        · cases h
        · injection e1 with e1
          injection he' with he1 he2 he3
          subst he1
          rw [e1] at h4 ⊢
          injection h4 with h4
          injection h4 with h4 h4'
          subst h4 h4'
          have a0 := h6 0 0 (by simp) (by omega)
          have a1 := h6 0 1 (by simp) (by omega)
          exact ⟨_, rfl, h5, by simpa [encK] using a0, by simpa [encK] using a1⟩
      have S : ∀ w', Below w11.heap.size w11 w' → w'.cell? ⟨h11, 0, none⟩ = some (.int .i64 7) ∧ w'.cell? ⟨h11, 1, none⟩ = some (.int .i64 AT) ∧ w'.cell? ⟨c0, 0, none⟩ = some (.int .i64 7) ∧ w'.cell? ⟨c0, 1, none⟩ = some (.int .i64 AT) := fun w' hb => by
        obtain ⟨hc, _⟩ := bcell hb
        exact ⟨(hc _ _ hl11).trans p0, (hc _ _ hl11).trans p1, (hc _ _ HR11.out.lt).trans (HR11.out.cell 0), (hc _ _ HR11.out.lt).trans (HR11.out.cell 1)⟩
      have OF : ∀ w', Below w11.heap.size w11 w' → Calls Tryd.prog 23 #[.pointer (some ⟨b, 0, none⟩), .int .i64 7] w' fun e w'' => (∃ v, e = .returned v ∧ ∃ sp cap, v = .slice sp (N + 1) cap) ∧ Below w'.heap.size w' w'' := fun w' hb => by
        refine (bx_of (HX11.out.below hb) HS10.out (by rw [lc_len]; omega) 7).mono ?_
        rintro e w'' ⟨⟨v, zs, rfl, hm, hr, hs, _⟩, hb2⟩
        obtain ⟨sp, cap, rfl⟩ := hs.shape
        have hlen : zs.length = N + 1 := by
          have h1 : (zs.map fun i => ((7 : Int), i)).length = (lc (N + 1)).length := nodup_len_eq (List.pairwise_map.2 (hr.imp fun {a b} h e => by injection e with _ e; omega)) (lc_nodup _) fun c => by
            rw [List.mem_map]
            constructor
            · rintro ⟨i, hi, rfl⟩
              exact HS10.out _ ((hm i).1 hi)
            · intro hc
              obtain ⟨i, hi, rfl⟩ := lc_mem.1 hc
              refine ⟨i, (hm _).2 ?_, rfl⟩
              rw [HG7.out]
              unfold upd
              split
              · rfl
              · rw [lg_get, if_pos hc]; rfl
          rw [List.length_map, lc_len] at h1
          exact h1
        exact ⟨⟨_, rfl, sp, cap, by rw [hlen]⟩, hb2⟩
      clear hsl hmem hnd hb11 HX10 HE10 HB10 HR10 p0 p1 hl11
      go_wp2_with fail
      apply wp_region_rel _ (by kernel_rfl) (by kernel_rfl) (fun w' => Below w11.heap.size w11 w') (fun w' w'' => Below w'.heap.size w' w'') (fun w' w'' h1 h2 => bl_trans h1 h2) (Below.refl _ _).drew
      repeat (first
        | (apply wpRel_skip (by rfl)
           simp only [Act.put, List.setIfInBounds_toArray, List.set_cons_zero, List.set_cons_succ])
        | (apply wpRel_fix (by rfl)
           · intro w' hC hf R hR
             have hS := S w' hC
             go_simp
             exact hR _ (Below.refl _ _)
           simp only [Act.put, List.setIfInBounds_toArray, List.set_cons_zero, List.set_cons_succ]))
      apply wpRel_fix (v := .bool true) (by rfl)
      · intro w' hC hf R hR
        go_simp
        refine (samecell_any (7, (AT : Int)) (7, (AT : Int)) w').mono ?_
        rintro e w3 ⟨rfl, hb⟩
        exact ⟨_, rfl, by simpa using hR _ hb⟩
      simp only [Act.put, List.setIfInBounds_toArray, List.set_cons_zero, List.set_cons_succ]
      repeat (first
        | (apply wpRel_skip (by rfl)
           simp only [Act.put, List.setIfInBounds_toArray, List.set_cons_zero, List.set_cons_succ])
        | (apply wpRel_fix (by rfl)
           · intro w' hC hf R hR
             have hS := S w' hC
             go_simp
             exact hR _ (Below.refl _ _)
           simp only [Act.put, List.setIfInBounds_toArray, List.set_cons_zero, List.set_cons_succ]))
      apply wpRel_rel (fun v _ => ∃ sp cap, v = .slice sp (N + 1) cap) (by rfl) (fun v w' w'' h _ => h)
      · intro w' hC hf R hR
        go_simp
        refine (OF w' hC).mono ?_
        rintro e w3 ⟨⟨v, rfl, hv⟩, hb⟩
        exact ⟨_, rfl, hR _ _ hv hb⟩
      intro vOf
      simp only [Act.put, List.setIfInBounds_toArray, List.set_cons_zero, List.set_cons_succ]
      apply wpRel_fix (v := .int .i64 ((N : Int) + 1)) (by rfl)
      · intro w' hC hf R hR
        obtain ⟨sp, cap, rfl⟩ := hf _ (List.mem_cons_self ..) (by kernel_rfl)
        go_simp
        exact hR _ (Below.refl _ _)
      simp only [Act.put, List.setIfInBounds_toArray, List.set_cons_zero, List.set_cons_succ]
      repeat (first
        | (apply wpRel_skip (by rfl)
           simp only [Act.put, List.setIfInBounds_toArray, List.set_cons_zero, List.set_cons_succ])
        | (apply wpRel_fix (by rfl)
           · intro w' hC hf R hR
             have hS := S w' hC
             go_simp
             exact hR _ (Below.refl _ _)
           simp only [Act.put, List.setIfInBounds_toArray, List.set_cons_zero, List.set_cons_succ]))
      refine wpRel_nil (fun w12 hC hf => ?_)
      have HX12 := Lib.hid (HX11.out.below hC)
      have HE12 := Lib.hid (HE11.out.below hC)
      have HB12 := Lib.hid (HB11.out.trans (hC.mono HE11.out.size))
      have HR12 := Lib.hid (HR11.out.below hC)
      clear hC hf S OF HX11 HE11 HB11 HR11
      have q0 := HR12.out.cell 0
      have q1 := HR12.out.cell 1
      have ql := HR12.out.lt
      have HI1 := Lib.hid (HIN7.out AT (by omega)).1
      have HI2 := Lib.hid (HIN7.out AT (by omega)).2
      have HNL : Hid (∀ c, c ≠ (7, (AT : Int)) → isLost g7 c = false) := Lib.hid fun c hc => by
        unfold isLost
        rw [HG7.out]
        unfold upd
        rw [if_neg hc, lg_get]
        by_cases h2 : c ∈ lc (N + 1) <;> simp [h2]
      have HAT7 : Hid (g7 (7, (AT : Int)) = some none) := Lib.hid (by rw [HG7.out]; simp [upd])
      clear hlt
      cases a2
      case' false =>
        go_wp2_with fail
        have hrow := Row.new w12 5 [.int .u8 9]
        have HRD : Hid (RdB (w12.alloc (.cells #[.int .u8 9] 5)) (.slice (some ⟨w12.heap.size, 0, none⟩) 1 1) [(9 : Int)]) := Lib.hid (RdB.of_row hrow rfl)
        have HX1 := Lib.hid (HX12.out.below (bl_alloc (Below.refl _ _) (.cells #[.int .u8 9] 5)))
        have HR1 := Lib.hid (HR12.out.below (bl_alloc (Below.refl _ _) (.cells #[.int .u8 9] 5)))
        clear hrow q0 q1 ql
        refine (bx_set (c := (7, (AT : Int))) (l := [(9 : Int)]) HX1.out (by unfold cellOk; simp only; omega) (by simp) HRD.out.slIn).mono ?_
        rintro e w13 ⟨rfl, ho⟩
        have HK := Lib.hid (BXOut.kept HX1.out ho)
        have HX13 := Lib.hid ho.1
        have HR13 := Lib.hid (HR1.out.touch ho.2 (fun hx => (HX1.out.own c0 hx).2.2 (List.mem_cons_self ..)))
        have HE13 := Lib.hid ((HE12.out.alloc (.cells #[.int .u8 9] 5)).keep HK.out.below)
        have HB13 := Lib.hid ((HB12.out.trans ((Below.refl B w12).alloc HE12.out.size (.cells #[.int .u8 9] 5))).trans HK.out.below)
        clear ho HK HX1 HR1 HX12 HE12 HB12 HR12
        obtain ⟨g13, hg13⟩ : ∃ g13, g13 = upd g7 (7, (AT : Int)) (some (pad [9])) := ⟨_, rfl⟩
        rw [← hg13] at HX13
        have HL13 : Hid (∀ c, isLost g13 c = false) := Lib.hid fun c => by
          by_cases hc : c = (7, (AT : Int))
          · unfold isLost; rw [hg13, hc]; simp [upd]
          · have := HNL.out c hc
            unfold isLost at this ⊢
            rw [hg13]
            unfold upd
            rw [if_neg hc]
            exact this
        have HS13 : Hid (∀ c, (g13 c).isSome = true → c ∈ lc (N + 1)) := Lib.hid fun c hc => by
          rw [hg13] at hc
          unfold upd at hc
          split at hc
          · rename_i h; rw [h]; exact HMEM.out
          · exact HS10.out c hc
        have HGAT : Hid (g13 (7, (AT : Int)) = some (some (pad [9]))) := Lib.hid (by rw [hg13]; simp [upd])
        clear hg13
        have q0 := HR13.out.cell 0
        have q1 := HR13.out.cell 1
        have ql := HR13.out.lt
        go_wp2_with fail
        refine (bx_get_some (c := (7, (AT : Int))) HX13.out HI1.out HI2.out HGAT.out (pad_len (by simp))).mono ?_
        rintro e w14 ⟨⟨v, rfl, hv⟩, hb14⟩
        have HHAS : Hid ((g13 (7, (AT : Int))).isSome = true) := Lib.hid (by rw [HGAT.out]; rfl)
        clear HGAT
        have HV := Lib.hid hv
        have HX14 := Lib.hid (HX13.out.below hb14)
        have HE14 := Lib.hid (HE13.out.below hb14)
        have HB14 := Lib.hid (HB13.out.trans (hb14.mono HE13.out.size))
        have HR14 := Lib.hid (HR13.out.below hb14)
        clear hv hb14 HX13 HE13 HB13 HR13 q0 q1 ql
        have hrow := Row.new w14 5 [.int .u8 9]
        have HRD9 : Hid (RdB (w14.alloc (.cells #[.int .u8 9] 5)) (.slice (some ⟨w14.heap.size, 0, none⟩) 1 1) [(9 : Int)]) := Lib.hid (RdB.of_row hrow rfl)
        clear hrow
        have b14 := bl_alloc (Below.refl w14.heap.size w14) (.cells #[.int .u8 9] 5)
        have HX15 := Lib.hid (HX14.out.below b14)
        have HE15 := Lib.hid (HE14.out.below b14)
        have HB15 := Lib.hid (HB14.out.trans (b14.mono HE14.out.size))
        have HR15 := Lib.hid (HR14.out.below b14)
        have HV15 := Lib.hid (HV.out.below b14)
        clear b14 HX14 HE14 HB14 HR14 HV
        go_wp2_with fail
        refine (full_any HRD9.out (by simp)).mono ?_
        rintro e w16 ⟨⟨hf, rfl, _, hrf⟩, hb16⟩
        have HF16 := Lib.hid (RdB.of_row hrf (pad_len (by simp)))
        have HX16 := Lib.hid (HX15.out.below hb16)
        have HE16 := Lib.hid (HE15.out.below hb16)
        have HB16 := Lib.hid (HB15.out.trans (hb16.mono HE15.out.size))
        have HR16 := Lib.hid (HR15.out.below hb16)
        have HV16 := Lib.hid (HV15.out.below hb16)
        clear hrf hb16 HX15 HE15 HB15 HR15 HV15 HRD9
        have HF17 := HF16
        have HX17 := HX16
        have HE17 := HE16
        have HB17 := HB16
        have HR17 := HR16
        have HV17 := HV16
        clear HF16 HX16 HE16 HB16 HR16 HV16
      case' true =>
        go_wp2_with fail
        refine (bx_del (c := (7, (AT : Int))) HX12.out HI1.out HI2.out HAT7.out).mono ?_
        rintro e w13 ⟨rfl, ho⟩
        have HK := Lib.hid (BXOut.kept HX12.out ho)
        have HX13 := Lib.hid ho.1
        have HR13 := Lib.hid (HR12.out.touch ho.2 (fun hx => (HX12.out.own c0 hx).2.2 (List.mem_cons_self ..)))
        have HE13 := Lib.hid (HE12.out.keep HK.out.below)
        have HB13 := Lib.hid (HB12.out.trans HK.out.below)
        clear ho HK HX12 HE12 HB12 HR12 q0 q1 ql
        obtain ⟨g13, hg13⟩ : ∃ g13, g13 = del g7 (7, (AT : Int)) := ⟨_, rfl⟩
        rw [← hg13] at HX13
        have HL13 : Hid (∀ c, isLost g13 c = false) := Lib.hid fun c => by
          by_cases hc : c = (7, (AT : Int))
          · unfold isLost; rw [hg13, hc]; simp [del]
          · have := HNL.out c hc
            unfold isLost at this ⊢
            rw [hg13]
            unfold del
            rw [if_neg hc]
            exact this
        have HS13 : Hid (∀ c, (g13 c).isSome = true → c ∈ lc (N + 1)) := Lib.hid fun c hc => by
          rw [hg13] at hc
          unfold del at hc
          split at hc
          · cases hc
          · exact HS10.out c hc
        have HGAT : Hid (g13 (7, (AT : Int)) = none) := Lib.hid (by rw [hg13]; simp [del])
        clear hg13
        have q0 := HR13.out.cell 0
        have q1 := HR13.out.cell 1
        have ql := HR13.out.lt
        go_wp2_with fail
        refine (bx_del_no (c := (7, (AT : Int))) HX13.out HI1.out HI2.out HGAT.out).mono ?_
        rintro e w13' ⟨rfl, hbb⟩
        have HX13' := Lib.hid (HX13.out.below hbb)
        have HE13' := Lib.hid (HE13.out.below hbb)
        have HB13' := Lib.hid (HB13.out.trans (hbb.mono HE13.out.size))
        have HR13' := Lib.hid (HR13.out.below hbb)
        clear hbb HX13 HE13 HB13 HR13 q0 q1 ql
        have HX13 := HX13'
        have HE13 := HE13'
        have HB13 := HB13'
        have HR13 := HR13'
        clear HX13' HE13' HB13' HR13'
        have q0 := HR13.out.cell 0
        have q1 := HR13.out.cell 1
        have ql := HR13.out.lt
        go_wp2_with fail
        refine (bx_get_none (c := (7, (AT : Int))) HX13.out HI1.out HI2.out HGAT.out).mono ?_
        rintro e w14 ⟨⟨v, rfl, hv⟩, hb14⟩
        have HHAS : Hid ((g13 (7, (AT : Int))).isSome = false) := Lib.hid (by rw [HGAT.out]; rfl)
        clear HGAT
        have HV := Lib.hid hv
        have HX14 := Lib.hid (HX13.out.below hb14)
        have HE14 := Lib.hid (HE13.out.below hb14)
        have HB14 := Lib.hid (HB13.out.trans (hb14.mono HE13.out.size))
        have HR14 := Lib.hid (HR13.out.below hb14)
        clear hv hb14 HX13 HE13 HB13 HR13 q0 q1 ql
        have hrow := Row.new w14 5 [.int .u8 9]
        have HRD9 : Hid (RdB (w14.alloc (.cells #[.int .u8 9] 5)) (.slice (some ⟨w14.heap.size, 0, none⟩) 1 1) [(9 : Int)]) := Lib.hid (RdB.of_row hrow rfl)
        clear hrow
        have b14 := bl_alloc (Below.refl w14.heap.size w14) (.cells #[.int .u8 9] 5)
        have HX15 := Lib.hid (HX14.out.below b14)
        have HE15 := Lib.hid (HE14.out.below b14)
        have HB15 := Lib.hid (HB14.out.trans (b14.mono HE14.out.size))
        have HR15 := Lib.hid (HR14.out.below b14)
        have HV15 := Lib.hid (HV.out.below b14)
        clear b14 HX14 HE14 HB14 HR14 HV
        go_wp2_with fail
        refine (full_any HRD9.out (by simp)).mono ?_
        rintro e w16 ⟨⟨hf, rfl, _, hrf⟩, hb16⟩
        have HF16 := Lib.hid (RdB.of_row hrf (pad_len (by simp)))
        have HX16 := Lib.hid (HX15.out.below hb16)
        have HE16 := Lib.hid (HE15.out.below hb16)
        have HB16 := Lib.hid (HB15.out.trans (hb16.mono HE15.out.size))
        have HR16 := Lib.hid (HR15.out.below hb16)
        have HV16 := Lib.hid (HV15.out.below hb16)
        clear hrf hb16 HX15 HE15 HB15 HR15 HV15 HRD9
        go_wp2_with fail
        clear HF16
        refine (full_any (RdB.nil w16) (by simp)).mono ?_
        rintro e w17 ⟨⟨hf2, rfl, _, hrf⟩, hb17⟩
        have HF17 := Lib.hid (RdB.of_row hrf (pad_len (by simp)))
        have HX17 := Lib.hid (HX16.out.below hb17)
        have HE17 := Lib.hid (HE16.out.below hb17)
        have HB17 := Lib.hid (HB16.out.trans (hb17.mono HE16.out.size))
        have HR17 := Lib.hid (HR16.out.below hb17)
        have HV17 := Lib.hid (HV16.out.below hb17)
        clear hrf hb17 HX16 HE16 HB16 HR16 HV16
      all_goals
        go_wp2_with fail
        refine (samebytes_any HV17.out HF17.out (by rw [pad_len (by simp)]; omega)).mono ?_
        rintro e w18 ⟨rfl, hb18⟩
        rw [decide_eq_true rfl]
        have HX18 := Lib.hid (HX17.out.below hb18)
        have HE18 := Lib.hid (HE17.out.below hb18)
        have HB18 := Lib.hid (HB17.out.trans (hb18.mono HE17.out.size))
        have HR18 := Lib.hid (HR17.out.below hb18)
        clear hb18 HX17 HE17 HB17 HR17 HV17 HF17
        go_wp2_with fail
        refine (bx_lost HX18.out HS13.out (by rw [lc_len]; omega)).mono ?_
        rintro e w19 ⟨⟨vl, zl, rfl, _, hmem, _, hsl, _⟩, hb19⟩
        obtain ⟨sp19, cap19, rfl⟩ := hsl.shape
        have hz : zl = [] := by
          cases zl with
          | nil => rfl
          | cons c zl =>
            have := (hmem c).1 (List.mem_cons_self ..)
            rw [HL13.out c] at this
            cases this
        subst hz
        rw [List.length_nil]
        have HX19 := Lib.hid (HX18.out.below hb19)
        have HE19 := Lib.hid (HE18.out.below hb19)
        have HB19 := Lib.hid (HB18.out.trans (hb19.mono HE18.out.size))
        have HR19 := Lib.hid (HR18.out.below hb19)
        clear hmem hsl hb19 HX18 HE18 HB18 HR18
        go_wp2_with fail
        refine (bx_dirty HX19.out (S := [((7 : Int), (AT : Int))]) (fun c hc => by
          unfold upd at hc
          split at hc
          · rename_i h; rw [h]; exact List.mem_cons_self ..
          · cases hc) (by simp)).mono ?_
        rintro e w20 ⟨⟨vd, zd, rfl, hnd, hmem, _, hsl, _⟩, hb20⟩
        obtain ⟨sp20, cap20, rfl⟩ := hsl.shape
        have hz : zd.length = 1 := by
          rw [nodup_len_eq hnd (List.pairwise_singleton _ ((7 : Int), (AT : Int))) fun c => (hmem c).trans (by
            unfold upd
            rw [List.mem_singleton]
            by_cases h : c = (7, (AT : Int))
            · simp [h]
            · simp [h])]
          rfl
        rw [hz]
        have HX20 := Lib.hid (HX19.out.below hb20)
        have HE20 := Lib.hid (HE19.out.below hb20)
        have HB20 := Lib.hid (HB19.out.trans (hb20.mono HE19.out.size))
        have HR20 := Lib.hid (HR19.out.below hb20)
        clear hz hmem hsl hnd hb20 HX19 HE19 HB19 HR19
        have q0 := HR20.out.cell 0
        have q1 := HR20.out.cell 1
        have ql := HR20.out.lt
        go_wp2_with fail
        refine (bx_has (c := (7, (AT : Int))) HX20.out HI1.out HI2.out).mono ?_
        rintro e w21 ⟨rfl, hb21⟩
        rw [HHAS.out]
        have HE21 := Lib.hid (HE20.out.below hb21)
        have HB21 := Lib.hid (HB20.out.trans (hb21.mono HE20.out.size))
        clear hb21 HX20 HE20 HB20 HR20 q0 q1 ql
        go_wp2_with fail
        refine (bset_bad (c := (7, (64 : Int))) (len := 0) (by unfold cellOk; simp only; omega) HE21.out).mono ?_
        rintro e w22 ⟨rfl, hb22⟩
        have HE22 := Lib.hid (HE21.out.below hb22)
        have HB22 := Lib.hid (HB21.out.trans (hb22.mono HE21.out.size))
        clear hb22 HE21 HB21
        go_wp2_with fail
        refine (is_err (g := 4) (by decide) 103 _ HE22.out).mono ?_
        rintro e w23 ⟨rfl, hb23⟩
        have HB23 := Lib.hid (HB22.out.trans (hb23.mono HE22.out.size))
        clear hb23
        rw [show (codeOf 4 == 103) = true by decide]
        go_wp2
        go_ret
        exact ⟨rfl, HB23.out⟩
end Go.Proofs.YtjmbilbkmcebeaaDoor
