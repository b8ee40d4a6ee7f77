/- Package geo's Of; package pair's Open. -/
import Derived.Test.YtcjebpplmoakkaaGreatDoorDevN
namespace Go.Proofs.YtcjebpplmoakkaaGreatDoor
open Go Go.RowKit
set_option maxRecDepth 100000
set_option linter.unusedSimpArgs false
set_option linter.unusedVariables false
attribute [local go_sem] giv
variable {E : Nat → Addr} {B : Nat} {w w' : World} {d bl : Nat} {calls fuse : Int} {dn : Bool}
def halfOf (bl : Nat) : Nat := min (bl / 4) 512
theorem geo_ok (h1 : 300 ≤ bl) (h2 : bl ≤ 6000) (w : World) : Calls Tryz.prog 15 #[.int .i64 bl] w fun e w' => e = .returned (.tuple #[.agg #[.int .i64 bl, .int .i64 (halfOf bl)], .nilIface]) ∧ Below w.heap.size w w' := by
  have q1 : ¬ ((bl : Int) < 300) := by omega
  have q2 : ¬ ((bl : Int) > 6000) := by omega
  have HQ : Hid (min ((bl : Int) / 4) 512 = (halfOf bl : Int)) := Lib.hid (by
    unfold halfOf
    omega)
  go_enter Tryz.func15, Tryz.ntmps15
  go_wp2
  refine bodyPost_ret (v := .tuple #[.agg #[.int .i64 bl, .int .i64 (min ((bl : Int) / 4) 512)], .nilIface]) (by simp [results, Tryz.results15, go_sem]) rfl ⟨by rw [HQ.out], bl_alloc (Below.refl _ _) _⟩
theorem geo_bad (h1 : bl < 300) (w : World) (hE : Env E B w) : Calls Tryz.prog 15 #[.int .i64 bl] w fun e w' => e = .returned (.tuple #[.agg #[.int .i64 0, .int .i64 0], errV E 0]) ∧ Below w.heap.size w w' := by
  have q1 : (bl : Int) < 300 := by omega
  have he := hE.cell 0 (by decide)
  have hl2 : 0 < w.heap.size := Nat.lt_of_lt_of_le (hE.glt 0 (by decide)) hE.size
  go_enter Tryz.func15, Tryz.ntmps15
  go_wp2_with fail
  go_region
  go_wp2
  refine bodyPost_ret (v := .tuple #[.agg #[.int .i64 0, .int .i64 0], errV E 0]) (by simp [results, Tryz.results15, go_sem]) rfl ⟨rfl, ?_⟩
  repeat (first | exact Below.refl _ _ | refine bl_alloc ?_ _ | refine Below.drew ?_ | refine Below.setCell ?_ (by simp) _)
theorem pair_open (h : DevN w d bl calls fuse dn) (h1 : 300 ≤ bl) (h2 : bl ≤ 6000) : Calls Tryz.prog 35 #[.pointer (some ⟨d, 0, none⟩)] w fun e w' => (∃ p, e = .returned (.tuple #[.pointer (some p), .nilIface])) ∧ Below w.heap.size w w' := by
  go_enter Tryz.func35, Tryz.ntmps35
  go_wp2_with fail
  refine (dev_blocks h).mono ?_
  rintro e wx ⟨rfl, hw⟩
  subst hw
  go_wp2_with fail
  refine (geo_ok h1 h2 w).mono ?_
  rintro e w2 ⟨rfl, hb2⟩
  have HB2 := Lib.hid hb2
  clear hb2
  go_wp2
  go_ret2
  refine ⟨⟨_, rfl⟩, ?_⟩
  repeat (first | exact HB2.out | refine bl_alloc ?_ _)
end Go.Proofs.YtcjebpplmoakkaaGreatDoor
