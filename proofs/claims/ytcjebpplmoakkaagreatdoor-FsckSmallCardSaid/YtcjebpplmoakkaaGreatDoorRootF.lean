/- Package root over a device that was never written: one, Places, found, Load. -/
import Derived.Test.YtcjebpplmoakkaaGreatDoorRootN
namespace Go.Proofs.YtcjebpplmoakkaaGreatDoor
open Go Go.RowKit
set_option maxRecDepth 100000
set_option linter.unusedSimpArgs false
set_option linter.unusedVariables false
attribute [local go_sem] giv
variable {E : Nat → Addr} {B : Nat} {w w' : World} {d bl : Nat} {calls fuse : Int} {dn : Bool}
theorem eql_nil_err (a : Addr) (w : World) : (binOp .eql 26 .nilIface (.iface 384 (.pointer (some a)))).run Tryz.prog w = .ok (.bool false) w := by
  first
    | rfl
    | simp [go_sem]
theorem root_one (h : DevN w d bl calls fuse false) {i : Nat} (hi : i < bl) (hb : bl ≤ 6000) (hE : Env E B w) : Calls Tryz.prog 149 #[.pointer (some ⟨d, 0, none⟩), .int .i64 i] w fun e w' => e = .returned (.tuple #[rootZ, .bool false, .nilIface]) ∧ Below w.heap.size w w' := by
  have H := Lib.hid h
  have HE := Lib.hid hE
  have hq := fun a w => eql_nil_err a w
  obtain ⟨C, hC⟩ : ∃ C, w.heap.size = C := ⟨_, rfl⟩
  obtain ⟨w1, hw1⟩ : ∃ w1, w1 = w.alloc (.cells #[.int .i64 0, .slice none 0 0] 93) := ⟨_, rfl⟩
  have hb1 : Below w.heap.size w w1 := by rw [hw1]; exact bl_alloc (Below.refl _ _) _
  have R1 : Hid (Row w1 C 93 [.int .i64 0, .slice none 0 0]) := Lib.hid (by rw [hw1, ← hC]; exact Row.new _ _ _)
  have HB1 := Lib.hid hb1
  have HW1 := Lib.hid hw1
  have HC := Lib.hid hC
  generalize hP : (fun (e : Ending) (w' : World) => e = .returned (.tuple #[rootZ, .bool false, .nilIface]) ∧ Below w.heap.size w w') = Post
  have HP := Lib.hid hP
  clear hP h hE hC hw1 hb1
  go_enter Tryz.func149, Tryz.ntmps149
  go_wp2_with fail
  rw [← HW1.out]
  simp only [HC.out]
  refine (dev_read (H.out.below HB1.out) hi hb).mono ?_
  rintro e w2 ⟨⟨h, cap, rfl, hbuf⟩, hb2⟩
  have R2 := Lib.hid (R1.out.below hb2)
  have HB2 := Lib.hid (HB1.out.trans (hb2.mono HB1.out.size))
  have HBF := Lib.hid hbuf
  have e2 := HE.out.below HB2.out
  have he := e2.cell 3 (by decide)
  have hl2 : 3 < w2.heap.size := Nat.lt_of_lt_of_le (e2.glt 3 (by decide)) e2.size
  have HE2 := Lib.hid e2
  clear hb2 hbuf e2 R1 HB1
  go_wp2_with fail
  refine (root_read HBF.out HE2.out).mono ?_
  rintro e w3 ⟨rfl, hb3⟩
  have r3 := R2.out.below hb3
  have HB3 := Lib.hid (HB2.out.trans (hb3.mono HB2.out.size))
  have R3 := Lib.hid r3
  obtain ⟨w4, hw4⟩ : ∃ w4, w4 = w3.alloc (.cells #[.int .i64 0, .slice none 0 0] 93) := ⟨_, rfl⟩
  have hb4 : Below w3.heap.size w3 w4 := by rw [hw4]; exact bl_alloc (Below.refl _ _) _
  obtain ⟨D, hD⟩ : ∃ D, w3.heap.size = D := ⟨_, rfl⟩
  have r4 : Row w4 D 93 [.int .i64 0, .slice none 0 0] := by rw [hw4, ← hD]; exact Row.new _ _ _
  have HB4 := Lib.hid (HB3.out.trans (hb4.mono HB3.out.size))
  have r3' := r3.below hb4
  have x0 := r3'.cell' (i := 0) rfl
  have x1 := r3'.cell' (i := 1) rfl
  have xf := fun i => r3'.froz i
  have xl := r3'.lt
  have y0 := r4.cell' (i := 0) rfl
  have y1 := r4.cell' (i := 1) rfl
  have yl := r4.lt
  have HCC : Hid (w.heap.size ≤ C) := Lib.hid (by have := HC.out; omega)
  have HW4 := Lib.hid hw4
  have HD := Lib.hid hD
  clear hb3 r3 hw4 hb4 hD r4 r3' he hl2
  go_upto_region 7 with fail
  rw [← HW4.out]
  simp only [HD.out]
  go_wp2
  rw [← HP.out]
  refine bodyPost_ret (v := .tuple #[rootZ, .bool false, .nilIface]) (by simp [results, Tryz.results149, go_sem, x0, x1, xl]) rfl ⟨rfl, ?_⟩
  repeat (first | with_reducible exact HB4.out | with_reducible refine Below.setCell ?_ HCC.out _ | with_reducible refine Below.drew ?_)
theorem root_one_down (h : DevN w d bl calls fuse true) (i : Int) (hE : Env E B w) : Calls Tryz.prog 149 #[.pointer (some ⟨d, 0, none⟩), .int .i64 i] w fun e w' => e = .returned (.tuple #[rootZ, .bool false, errV E 1]) ∧ Below w.heap.size w w' := by
  have H := Lib.hid h
  have HE := Lib.hid hE
  obtain ⟨C, hC⟩ : ∃ C, w.heap.size = C := ⟨_, rfl⟩
  obtain ⟨w1, hw1⟩ : ∃ w1, w1 = w.alloc (.cells #[.int .i64 0, .slice none 0 0] 93) := ⟨_, rfl⟩
  have hb1 : Below w.heap.size w w1 := by rw [hw1]; exact bl_alloc (Below.refl _ _) _
  have R1 : Hid (Row w1 C 93 [.int .i64 0, .slice none 0 0]) := Lib.hid (by rw [hw1, ← hC]; exact Row.new _ _ _)
  have HB1 := Lib.hid hb1
  have HW1 := Lib.hid hw1
  have HC := Lib.hid hC
  generalize hP : (fun (e : Ending) (w' : World) => e = .returned (.tuple #[rootZ, .bool false, errV E 1]) ∧ Below w.heap.size w w') = Post
  have HP := Lib.hid hP
  clear hP h hE hC hw1 hb1
  go_enter Tryz.func149, Tryz.ntmps149
  go_wp2_with fail
  rw [← HW1.out]
  simp only [HC.out]
  refine (dev_read_down (H.out.below HB1.out) (HE.out.below HB1.out) i).mono ?_
  rintro e w2 ⟨rfl, hb2⟩
  have r2 := R1.out.below hb2
  have HB2 := Lib.hid (HB1.out.trans (hb2.mono HB1.out.size))
  have e2 := HE.out.below HB2.out
  have he := e2.cell 3 (by decide)
  have hl2 : 3 < w2.heap.size := Nat.lt_of_lt_of_le (e2.glt 3 (by decide)) e2.size
  obtain ⟨ca, ta, hba⟩ := e2.blk 1 (by decide)
  obtain ⟨cb, tb, hbb⟩ := e2.blk 3 (by decide)
  have hq := run_eql_err_other (a := E 1) (b := E 3) (fun e => absurd (e2.inj _ (by decide) _ (by decide) e) (by decide)) w2 hba hbb
  have x0 := r2.cell' (i := 0) rfl
  have x1 := r2.cell' (i := 1) rfl
  have xf := fun i => r2.froz i
  have xl := r2.lt
  have HCC : Hid (w.heap.size ≤ C) := Lib.hid (by have := HC.out; omega)
  clear hb2 r2 e2 hba hbb R1 HB1
  go_wp2
  rw [← HP.out]
  refine bodyPost_ret (v := .tuple #[rootZ, .bool false, errV E 1]) (by simp [results, Tryz.results149, go_sem, x0, x1, xl]) rfl ⟨rfl, ?_⟩
  repeat (first | with_reducible exact HB2.out | with_reducible refine Below.setCell ?_ HCC.out _ | with_reducible refine Below.drew ?_)
/-- The two blocks of an epoch. -/
theorem root_places (e : Nat) (he : e < 2) (hf : Nat) (hh : hf ≤ 512) (w : World) : Calls Tryz.prog 148 #[.agg #[.int .i64 bl, .int .i64 hf], .int .i64 e] w fun r w' => (∃ h, r = .returned (.slice (some ⟨h, 0, none⟩) 2 2) ∧ Row w' h 3 [.int .i64 e, .int .i64 ((e + hf : Nat) : Int)]) ∧ Below w.heap.size w w' := by
  have q1 : Int.tmod (e : Int) 2 = (e : Int) := Int.tmod_eq_of_lt (by omega) (by omega)
  have q2 : wrap64 ((e : Int) + (hf : Int)) = ((e + hf : Nat) : Int) := by unfold wrap64; omega
  go_enter Tryz.func148, Tryz.ntmps148
  go_wp2
  go_ret
  have r := Row.new (w.alloc (.cells #[.int .i64 bl, .int .i64 hf] 47)) 3 [.int .i64 e, .int .i64 ((e : Int) + hf)]
  refine ⟨⟨_, rfl, ?_⟩, bl_alloc (bl_alloc (Below.refl _ _) _) _⟩
  rw [Int.natCast_add]
  simpa using r
/-! ### slices.Concat of two slices of ints -/
def encZ (x : Int) : List Value := [.int .i64 x]
theorem infZ : (Tryz.prog.info? 3).map (fun i => (i.zero, i.size, i.bytes)) = some (some (.int .i64 0), 1, 8) := by kernel_rfl
theorem intZ : ElemT Tryz.prog 32 3 1 8 encZ :=
  ⟨Tryz.underlying32, ⟨.int .i64 0, rfl, infZ⟩, fun _ => rfl, fun x u hu => by simp [encZ] at hu; rw [hu]; rfl, by omega⟩
theorem rdZ {h : Nat} {l : List Int} (r : Row w h 3 (l.map (Value.int .i64))) : RdE w 1 encZ (.slice (some ⟨h, 0, none⟩) l.length l.length) l := by
  refine ⟨_, _, rfl, Nat.le_refl _, (fun h => by cases h), fun _ => ⟨_, _, rfl, r.lt, fun i j hi hj => ?_⟩⟩
  obtain rfl : j = 0 := by omega
  rw [Nat.mul_one, Nat.add_zero, Nat.zero_add, r.cell, List.getElem?_map, List.getElem?_eq_getElem hi]
  rfl
theorem growI_any (n : Nat) (hn : n ≤ 1000000) (w : World) : Calls Tryz.prog 194 #[.slice none 0 0, .int .i64 n] w fun e w' => (∃ v, e = .returned v ∧ SlE w' w.heap.size 3 1 encZ v []) ∧ Below w.heap.size w w' := by
  by_cases h0 : n = 0
  · subst h0
    refine (Any8.slices_Grow_room Tryz.growI none 0 0 0 w (Nat.le_refl _) (by decide) (by decide) (Nat.le_refl _)).mono ?_
    rintro e w' ⟨rfl, rfl⟩
    exact ⟨⟨_, rfl, SlE.nil _ _ _ _ _⟩, Below.refl _ _⟩
  · obtain ⟨i, hi, hz, hs, hb⟩ := info_parts infZ
    refine (Any8.slices_Grow_grow Tryz.growI i (.int .i64 0) hi hz (by omega) none 0 0 n [] w (Nat.le_refl _) (by omega) (by rw [hb]; omega) (by omega) (by simp) (fun _ => rfl) (fun a h => by cases h)).mono ?_
    rintro e w' ⟨rfl, rfl⟩
    refine ⟨⟨_, rfl, rfl, .inr ⟨w.heap.size, _, _, rfl, Nat.le_refl _, heap_alloc_new w.drew _, ?_, ?_, ?_, ?_⟩⟩, (Below.refl w.heap.size w).drew.alloc (Nat.le_refl _) _⟩
    · exact Nat.zero_le _
    · exact grownCap_le_maxLen w (0 + n) 0 3 (by unfold maxLen; omega)
    · have := grownCap_ge w (0 + n) 0 (Tryz.growI_ren.t 25)
      rw [Array.size_append, Array.size_append, size_zeroCells, size_zeroCells]
      simp only [Value.cells, List.size_toArray, List.length_nil, List.length_singleton, Nat.mul_one, Nat.zero_add, Nat.sub_zero] at this ⊢
      omega
    · rfl
/-- What has been put together behind j slices. -/
def piecesZ (xs ys : List Int) : Nat → List Int
  | 0 => []
  | 1 => xs
  | _ => xs ++ ys
set_option maxHeartbeats 1000000 in
theorem concatI_any {w : World} {h : Nat} {su sv : Option Addr} {nu nv cu cv : Nat} {xs ys : List Int} (r : Row w h 32 [.slice su nu cu, .slice sv nv cv]) (ru : RdE w 1 encZ (.slice su nu cu) xs) (rv : RdE w 1 encZ (.slice sv nv cv) ys) (hlen : xs.length + ys.length ≤ 1000000) :
    Calls Tryz.prog 147 #[.slice (some ⟨h, 0, none⟩) 2 2] w fun e w' => (∃ z, e = .returned z ∧ SlE w' w.heap.size 3 1 encZ z (xs ++ ys)) ∧ Below w.heap.size w w' := by
  have hnu := ru.len
  have hnv := rv.len
  have c0 : w.cell? ⟨h, 0, none⟩ = some (.slice su nu cu) := (r.cell 0).trans rfl
  have c1 : w.cell? ⟨h, 1, none⟩ = some (.slice sv nv cv) := (r.cell 1).trans rfl
  have hlt := r.lt
  have HU := Lib.hid ru
  have HV := Lib.hid rv
  have HNU := Lib.hid hnu
  have HNV := Lib.hid hnv
  have hle : nu + nv ≤ 1000000 := by omega
  generalize hP : (fun (e : Ending) (w' : World) => (∃ z, e = .returned z ∧ SlE w' w.heap.size 3 1 encZ z (xs ++ ys)) ∧ Below w.heap.size w w') = Post
  have HP := Lib.hid hP
  clear r ru rv hnu hnv hlen hP
  have hw1 : wrap64 (0 + (nu : Int)) = nu := by unfold wrap64; omega
  have hw2 : wrap64 ((nu : Int) + nv) = ((nu + nv : Nat) : Int) := by unfold wrap64; omega
  go_enter Tryz.func147, Tryz.ntmps147
  go_wp2_with fail
  go_loop [3, 11] (fun s v => (v = .int .i64 0 ∧ s = .int .i64 0) ∨ (v = .int .i64 1 ∧ s = .int .i64 nu) ∨ (v = .int .i64 2 ∧ s = .int .i64 (nu + nv : Nat))) (fun _ v => 2 - (intOf v).toNat)
  case atStart => exact .inl ⟨rfl, rfl⟩
  case round =>
    rcases hrel with ⟨rfl, rfl⟩ | ⟨rfl, rfl⟩ | ⟨rfl, rfl⟩
    · go_wp2
      go_round
      case rel => exact .inr (.inl ⟨rfl, rfl⟩)
      case measure => simp [intOf]
    · go_wp2
      go_round
      case rel => exact .inr (.inr ⟨rfl, rfl⟩)
      case measure => simp [intOf]
    · clear hw1 hw2
      go_wp2_with fail
      refine (growI_any (nu + nv) hle w).mono ?_
      rintro e w1 ⟨⟨z1, rfl, hs1⟩, hb1⟩
      have HS1 := Lib.hid hs1
      have HB1 := Lib.hid hb1
      clear hs1 hb1
      go_wp2_with fail
      go_loopw [6, 27] (fun s v wr => ∃ j : Nat, ((v = .int .i64 0 ∧ j = 0) ∨ (v = .int .i64 1 ∧ j = 1) ∨ (v = .int .i64 2 ∧ j = 2)) ∧ Hid (SlE wr w.heap.size 3 1 encZ s (piecesZ xs ys j) ∧ Below w.heap.size w wr)) (fun _ v _ => 2 - (intOf v).toNat)
      case atStart => exact ⟨0, .inl ⟨rfl, rfl⟩, Lib.hid ⟨HS1.out, HB1.out⟩⟩
      case round =>
        obtain ⟨j, hj, HI⟩ := hrel
        have d0 : wr.cell? ⟨h, 0, none⟩ = some (.slice su nu cu) := (HI.out.2.cell (p := ⟨h, 0, none⟩) hlt).trans c0
        have d1 : wr.cell? ⟨h, 1, none⟩ = some (.slice sv nv cv) := (HI.out.2.cell (p := ⟨h, 1, none⟩) hlt).trans c1
        have lw : h < wr.heap.size := Nat.lt_of_lt_of_le hlt HI.out.2.size
        have HOWN := Lib.hid HI.out.1
        have HBS := Lib.hid HI.out.2.size
        have HRU := Lib.hid (HU.out.below HI.out.2)
        have HRV := Lib.hid (HV.out.below HI.out.2)
        have HLE : Hid (xs.length + ys.length ≤ 1000000) := Lib.hid (by have := HNU.out; have := HNV.out; omega)
        clear hle
        rcases hj with ⟨rfl, rfl⟩ | ⟨rfl, rfl⟩ | ⟨rfl, rfl⟩
        · go_wp2_with (at_builtin; refine wpList_app intZ rfl _ _ rfl rfl HOWN.out rfl HRU.out (by have := HLE.out; unfold maxLen; simp [piecesZ]; omega) (by have := HLE.out; simp [piecesZ]; omega) HBS.out ?_; intro v' w' hs' ht'; have HS' := Lib.hid hs'; have HT' := Lib.hid ht'; clear hs' ht')
          have HB2 := Lib.hid (HI.out.2.trans (HT'.out.below HBS.out (fun x hx => (HOWN.out.lt x hx).1)))
          go_roundw
          case rel => exact ⟨1, .inr (.inl ⟨rfl, rfl⟩), Lib.hid ⟨HS'.out, HB2.out⟩⟩
          case measure => simp [intOf]
        · go_wp2_with (at_builtin; refine wpList_app intZ rfl _ _ rfl rfl HOWN.out rfl HRV.out (by have := HLE.out; unfold maxLen; simp [piecesZ]; omega) (by have := HLE.out; simp [piecesZ]; omega) HBS.out ?_; intro v' w' hs' ht'; have HS' := Lib.hid hs'; have HT' := Lib.hid ht'; clear hs' ht')
          have HB2 := Lib.hid (HI.out.2.trans (HT'.out.below HBS.out (fun x hx => (HOWN.out.lt x hx).1)))
          go_roundw
          case rel => exact ⟨2, .inr (.inr ⟨rfl, rfl⟩), Lib.hid ⟨HS'.out, HB2.out⟩⟩
          case measure => simp [intOf]
        · go_wp2
          rw [← HP.out]
          exact ⟨⟨_, rfl, HI.out.1⟩, HI.out.2⟩

end Go.Proofs.YtcjebpplmoakkaaGreatDoor
