/- Package root over a device that was never written: nothing is found. -/
import Derived.Test.YtcjebpplmoakkaaGreatDoorGeoN
import Derived.Test.YtcjebpplmoakkaaGreatDoorGrowS
import Derived.Test.YtcjebpplmoakkaaGreatDoorApp
import Derived.Deep.DeepCutAuto
import Derived.Deep.CutBlock
namespace Go.Proofs.YtcjebpplmoakkaaGreatDoor
open Go Go.RowKit
set_option maxRecDepth 100000
set_option linter.unusedSimpArgs false
set_option linter.unusedVariables false
attribute [local go_sem] giv
variable {E : Nat → Addr} {B : Nat} {w w' : World} {d bl : Nat} {calls fuse : Int} {dn : Bool}
theorem buf_zs {h cap : Nat} (r : Buf w h 5 cap (zs.map (Value.int .u8))) : h < w.heap.size ∧ ∀ j, j < 256 → w.cell? ⟨h, j, none⟩ = some (.int .u8 0) := by
  obtain ⟨cur, h1, h2, h3⟩ := r
  refine ⟨(Array.getElem?_eq_some_iff.1 h1).1, fun j hj => ?_⟩
  have e : (cur.toList.take (zs.map (Value.int .u8)).length)[j]? = some (.int .u8 0) := by
    rw [h3, List.map_replicate, List.getElem?_replicate, if_pos hj]
  rw [List.getElem?_take, if_pos (by simpa using hj)] at e
  simp [World.cell?, h1]
  simpa using e
theorem root_says {h cap : Nat} (r : Buf w h 5 cap (zs.map (Value.int .u8))) : Calls Tryz.prog 237 #[.slice (some ⟨h, 0, none⟩) 256 cap, .int .i64 6] w fun e w' => e = .returned (.int .u64 0) ∧ w = w' := by
  obtain ⟨lt, hc⟩ := buf_zs r
  have c0 := hc 0 (by decide)
  have c1 := hc 1 (by decide)
  have c2 := hc 2 (by decide)
  have c3 := hc 3 (by decide)
  have c4 := hc 4 (by decide)
  have c5 := hc 5 (by decide)
  clear hc r
  go_enter Tryz.func237, Tryz.ntmps237
  go_wp2_with fail
  go_loop [5, 6, 8] (fun v5 _ v8 => ∃ j : Nat, j ≤ 6 ∧ v5 = .int .u64 0 ∧ v8 = .int .i64 j) (fun _ _ v8 => 6 - (intOf v8).toNat)
  case atStart => exact ⟨0, by omega, rfl, rfl⟩
  case round =>
    obtain ⟨j, hj, rfl, rfl⟩ := hrel
    have h6 : j = 0 ∨ j = 1 ∨ j = 2 ∨ j = 3 ∨ j = 4 ∨ j = 5 ∨ j = 6 := by omega
    clear hj
    rcases h6 with rfl | rfl | rfl | rfl | rfl | rfl | rfl
    · go_wp2
      go_round
      case rel => exact ⟨1, by omega, rfl, rfl⟩
      case measure => simp [intOf]
    · go_wp2
      go_round
      case rel => exact ⟨2, by omega, rfl, rfl⟩
      case measure => simp [intOf]
    · go_wp2
      go_round
      case rel => exact ⟨3, by omega, rfl, rfl⟩
      case measure => simp [intOf]
    · go_wp2
      go_round
      case rel => exact ⟨4, by omega, rfl, rfl⟩
      case measure => simp [intOf]
    · go_wp2
      go_round
      case rel => exact ⟨5, by omega, rfl, rfl⟩
      case measure => simp [intOf]
    · go_wp2
      go_round
      case rel => exact ⟨6, by omega, rfl, rfl⟩
      case measure => simp [intOf]
    · go_wp2
      go_ret
      exact ⟨rfl, rfl⟩
/-- Root{}. -/
abbrev rootZ : Value := .agg #[.int .i64 0, .slice none 0 0]
theorem root_fits (w : World) (hE : Env E B w) : Calls Tryz.prog 199 #[rootZ] w fun e w' => e = .returned (errV E 0) ∧ Below w.heap.size w w' := by
  have he := hE.cell 0 (by decide)
  have hl2 : 0 < w.heap.size := Nat.lt_of_lt_of_le (hE.glt 0 (by decide)) hE.size
  go_enter Tryz.func199, Tryz.ntmps199
  go_wp2
  go_ret
  exact ⟨rfl, bl_alloc (Below.refl _ _) _⟩
theorem root_bytes (w : World) (hE : Env E B w) : Calls Tryz.prog 153 #[rootZ] w fun e w' => e = .returned (.tuple #[.slice none 0 0, errV E 0]) ∧ Below w.heap.size w w' := by
  have HE := Lib.hid hE
  go_enter Tryz.func153, Tryz.ntmps153
  go_wp2_with fail
  refine (root_fits _ (HE.out.alloc _)).mono ?_
  rintro e w2 ⟨rfl, hb2⟩
  have HB2 := Lib.hid ((bl_alloc (Below.refl w.heap.size w) (.cells #[.int .i64 0, .slice none 0 0] 93)).trans (hb2.mono (by simp)))
  clear hb2 hE
  go_wp2
  go_ret2
  exact ⟨rfl, HB2.out⟩
theorem root_read {h cap : Nat} (r : Buf w h 5 cap (zs.map (Value.int .u8))) (hE : Env E B w) : Calls Tryz.prog 195 #[.slice (some ⟨h, 0, none⟩) 256 cap] w fun e w' => e = .returned (.tuple #[rootZ, .bool false]) ∧ Below w.heap.size w w' := by
  have HB := Lib.hid r
  have HE := Lib.hid hE
  obtain ⟨lt, hc⟩ := buf_zs r
  have c6 := hc 6 (by decide)
  clear hc r hE
  generalize hP : (fun (e : Ending) (w' : World) => e = .returned (.tuple #[rootZ, .bool false]) ∧ Below w.heap.size w w') = Post
  have HP := Lib.hid hP
  clear hP
  go_enter Tryz.func195, Tryz.ntmps195
  go_wp2_with fail
  refine (root_says (HB.out.below (bl_alloc (Below.refl _ _) _))).mono ?_
  rintro e wx ⟨rfl, hw⟩
  subst hw
  obtain ⟨C, hC⟩ : ∃ C, w.heap.size = C := ⟨_, rfl⟩
  obtain ⟨w3, hw3⟩ : ∃ w3, w3 = (w.alloc (.cells #[.int .i64 0, .slice none 0 0] 93)).alloc (.cells #[.int .i64 0, .slice none 0 0] 93) := ⟨_, rfl⟩
  have hb3 : Below w.heap.size w w3 := by rw [hw3]; exact bl_alloc (bl_alloc (Below.refl _ _) _) _
  have r2 : Row w3 C 93 [.int .i64 0, .slice none 0 0] := by rw [hw3, ← hC]; exact (Row.new _ _ _).alloc _
  have r4 : Row w3 (C + 1) 93 [.int .i64 0, .slice none 0 0] := by
    have r := Row.new (w.alloc (.cells #[.int .i64 0, .slice none 0 0] 93)) 93 [.int .i64 0, .slice none 0 0]
    rw [hw3, ← hC]
    simpa using r
  have HB3 := Lib.hid hb3
  have R2 := Lib.hid r2
  have HW3 := Lib.hid hw3
  have HC := Lib.hid hC
  have d6 : w3.cell? ⟨h, 6, none⟩ = some (.int .u8 0) := (hb3.cell (p := ⟨h, 6, none⟩) lt).trans c6
  have y0 := r4.cell' (i := 0) rfl
  have y1 := r4.cell' (i := 1) rfl
  have yl := r4.lt
  have lt3 : h < w3.heap.size := Nat.lt_of_lt_of_le lt hb3.size
  clear hw3 hb3 r2 r4 hC c6 lt
  go_upto_region 4 with fail
  rw [← HW3.out]
  simp only [HC.out]
  go_wp2_with fail
  go_loopw [5, 6, 27] (fun _ _ v27 wr => v27 = .int .i64 0 ∧ w3 = wr) (fun _ _ _ _ => 0)
  case atStart => exact ⟨rfl, rfl⟩
  case round =>
    obtain ⟨rfl, rfl⟩ := hrel
    go_wp2_with fail
    refine (root_bytes w3 (HE.out.below HB3.out)).mono ?_
    rintro e w4 ⟨rfl, hb4⟩
    have HB4 := Lib.hid (HB3.out.trans (hb4.mono HB3.out.size))
    have r2 := R2.out.below hb4
    have x0 := r2.cell' (i := 0) rfl
    have x1 := r2.cell' (i := 1) rfl
    have xf := fun i => r2.froz i
    have xl := r2.lt
    have HCC : Hid (w.heap.size ≤ C) := Lib.hid (by have := HC.out; omega)
    clear hb4 r2 d6 y0 y1 yl lt3
    go_wp2
    rw [← HP.out]
    refine bodyPost_ret (v := .tuple #[rootZ, .bool false]) (by simp [results, Tryz.results195, go_sem, x0, x1, xl]) rfl ⟨rfl, ?_⟩
    repeat (first | with_reducible exact HB4.out | with_reducible refine Below.setCell ?_ HCC.out _ | with_reducible refine Below.drew ?_)
end Go.Proofs.YtcjebpplmoakkaaGreatDoor
