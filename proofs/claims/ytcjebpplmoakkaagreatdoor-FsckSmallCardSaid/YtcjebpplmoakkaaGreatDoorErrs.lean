/- The package variables of api (the errors) as the law's world holds them, and the walks of breviarysee: Is of nil, Is of one of api's errors. -/
import Derived.Test.YtcjebpplmoakkaaGreatDoorRegion
import Derived.Test.YtcjebpplmoakkaaGreatDoorProg
import Derived.WalkKit
import Derived.Lib.Hide
import Derived.LaidEql
namespace Go.Proofs.YtcjebpplmoakkaaGreatDoor
open Go.RowKit
set_option maxRecDepth 100000

/-- The numbers of api's errors, in the order of 'sentinels'. -/
def errs : List Nat := [11, 10, 0, 9, 8, 1, 3, 12, 4, 7, 13, 14, 15, 6, 5, 16, 17, 18, 19, 20, 21, 2, 22, 23]

/-- The value of error g. -/
abbrev errV (E : Nat → Addr) (g : Nat) : Value := .iface 384 (.pointer (some (E g)))

/-- Below block B the world holds api's errors: each its own pointer. -/
structure Env (E : Nat → Addr) (B : Nat) (w : World) : Prop where
  size : B ≤ w.heap.size
  glt : ∀ g ∈ errs, g < B
  elt : ∀ g ∈ errs, (E g).block < B
  cell : ∀ g ∈ errs, w.cell? ⟨g, 0, none⟩ = some (errV E g)
  blk : ∀ g ∈ errs, ∃ c t, w.heap[(E g).block]? = some (.cells c t (0, 0))
  inj : ∀ g ∈ errs, ∀ h ∈ errs, E g = E h → g = h

variable {E : Nat → Addr} {B : Nat}

theorem Env.keep {w w' : World} (h : Env E B w) (hb : Below B w w') : Env E B w' :=
  ⟨Nat.le_trans h.size hb.size, h.glt, h.elt, fun g hg => (hb.cell (p := ⟨g, 0, none⟩) (h.glt g hg)).trans (h.cell g hg),
    fun g hg => by obtain ⟨c, t, e⟩ := h.blk g hg; exact ⟨c, t, (hb.block _ (h.elt g hg)).trans e⟩, h.inj⟩
theorem Env.below {w w' : World} (h : Env E B w) (hb : Below w.heap.size w w') : Env E B w' := h.keep (hb.mono h.size)
theorem Env.alloc {w : World} (h : Env E B w) (o : Obj) : Env E B (w.alloc o) := h.keep ((Below.refl _ _).alloc h.size o)
theorem Env.drew {w : World} (h : Env E B w) : Env E B w.drew := h.keep (Below.refl _ _).drew

theorem bl_alloc {a w : World} (h : Below a.heap.size a w) (o : Obj) : Below a.heap.size a (w.alloc o) := h.alloc h.size o
theorem bl_trans {a w w1 : World} (h : Below a.heap.size a w) (k : Below w.heap.size w w1) : Below a.heap.size a w1 := h.trans (k.mono h.size)
theorem bcell {W w1 : World} (hb : Below W.heap.size W w1) : (∀ b o, b < W.heap.size → w1.cell? ⟨b, o, none⟩ = W.cell? ⟨b, o, none⟩) ∧ W.heap.size ≤ w1.heap.size :=
  ⟨fun b o h => hb.cell (p := ⟨b, o, none⟩) h, hb.size⟩
theorem bfroz {W w1 : World} (hb : Below W.heap.size W w1) : ∀ b o, b < W.heap.size → w1.frozen? ⟨b, o, none⟩ = W.frozen? ⟨b, o, none⟩ :=
  fun b o h => hb.frozen (p := ⟨b, o, none⟩) h
theorem ret_int {k : IntKind} {a b : Int} (h : a = b) : Ending.returned (.int k a) = .returned (.int k b) := by rw [h]
theorem ret_bool {a b : Bool} (h : a = b) : Ending.returned (.bool a) = .returned (.bool b) := by rw [h]

/-- A slice that a call made: its cells are these. -/
def SlAt (xs : Array Value) (n : Nat) (v : Value) (w : World) : Prop := ∃ b, v = .slice (some ⟨b, 0, none⟩) n n ∧ b < w.heap.size ∧ ∀ i, w.cell? ⟨b, i, none⟩ = xs[i]?
theorem slAt_keep {xs : Array Value} {n : Nat} (v : Value) (w w' : World) (h : SlAt xs n v w) (hb : Below w.heap.size w w') : SlAt xs n v w' := by
  obtain ⟨b, rfl, h1, h2⟩ := h
  exact ⟨b, rfl, Nat.lt_of_lt_of_le h1 hb.size, fun i => (hb.cell (p := ⟨b, i, none⟩) h1).trans (h2 i)⟩
theorem slAt_new (w : World) (xs : Array Value) (n : Nat) (T : TypeId) : SlAt xs n (.slice (some ⟨w.heap.size, 0, none⟩) n n) (w.alloc (.cells xs T)) :=
  ⟨_, rfl, by simp, fun i => by simp⟩

theorem bare_any (c : Int) (w : World) : Calls Tryz.prog 34 #[.int .i64 c] w fun e w' => e = .returned (.agg #[.int .i64 c, .bool false, .int .i64 0]) ∧ Below w.heap.size w w' := by
  go_enter Tryz.func34, Tryz.ntmps34
  go_wp2
  exact bodyPost_ret (v := .agg #[.int .i64 c, .bool false, .int .i64 0]) (by simp [results, Tryz.results34, go_sem]) rfl ⟨rfl, (Below.refl _ _).alloc (Nat.le_refl _) _⟩

theorem none_any (w : World) : Calls Tryz.prog 144 #[] w fun e w' => e = .returned (.agg #[.int .i64 0, .bool false, .int .i64 0]) ∧ Below w.heap.size w w' := by
  go_enter Tryz.func144, Tryz.ntmps144
  go_wp2
  exact bodyPost_ret (v := .agg #[.int .i64 0, .bool false, .int .i64 0]) (by simp [results, Tryz.results144, go_sem]) rfl ⟨rfl, (Below.refl _ _).alloc (Nat.le_refl _) _⟩

theorem samefault_any (c d : Int) (w : World) : Calls Tryz.prog 82 #[.agg #[.int .i64 c, .bool false, .int .i64 0], .agg #[.int .i64 d, .bool false, .int .i64 0]] w
    fun e w' => e = .returned (.bool (c == d)) ∧ Below w.heap.size w w' := by
  by_cases h : c = d
  · subst h
    go_enter Tryz.func82, Tryz.ntmps82
    go_wp2
    go_ret
    exact ⟨by simp, bl_alloc (bl_alloc (Below.refl _ _) _) _⟩
  · have h1 : (c == d) = false := by simpa using h
    go_enter Tryz.func82, Tryz.ntmps82
    go_wp2
    go_ret
    exact ⟨by simp [h], bl_alloc (bl_alloc (Below.refl _ _) _) _⟩

theorem run_eql_err_same (a : Addr) (w : World) : (binOp .eql 26 (.iface 384 (.pointer (some a))) (.iface 384 (.pointer (some a)))).run Tryz.prog w = .ok (.bool true) w := by
  have hi : ∃ i, Tryz.prog.info? 384 = some i ∧ i.comparable = true := by
    have h : (Tryz.prog.info? 384).map (·.comparable) = some true := by kernel_rfl
    cases h1 : Tryz.prog.info? 384 with
    | none => rw [h1] at h; cases h
    | some i => rw [h1] at h; exact ⟨i, rfl, by simpa using h⟩
  have hj : ∃ j, Tryz.prog.info? 400 = some j := by
    have h : (Tryz.prog.info? 400).isSome = true := by kernel_rfl
    exact Option.isSome_iff_exists.1 h
  obtain ⟨i, h1, h2⟩ := hi
  obtain ⟨j, h3⟩ := hj
  exact run_eql_iface_ptr_same w a Tryz.underlying26 Tryz.underlying384 h1 h2 h3

theorem run_eql_err_other {a b : Addr} (hne : a ≠ b) {ca cb : Array Value} {ta tb : TypeId} (w : World) (ha : w.heap[a.block]? = some (.cells ca ta (0, 0))) (hb : w.heap[b.block]? = some (.cells cb tb (0, 0))) :
    (binOp .eql 26 (.iface 384 (.pointer (some a))) (.iface 384 (.pointer (some b)))).run Tryz.prog w = .ok (.bool false) w := by
  have hi : ∃ i, Tryz.prog.info? 384 = some i ∧ i.comparable = true := by
    have h : (Tryz.prog.info? 384).map (·.comparable) = some true := by kernel_rfl
    cases h1 : Tryz.prog.info? 384 with
    | none => rw [h1] at h; cases h
    | some i => rw [h1] at h; exact ⟨i, rfl, by simpa using h⟩
  have hj : ∃ j, Tryz.prog.info? 400 = some j ∧ j.size ≠ 0 := by
    have h : (Tryz.prog.info? 400).map (·.size) = some 1 := by kernel_rfl
    cases h1 : Tryz.prog.info? 400 with
    | none => rw [h1] at h; cases h
    | some i =>
      rw [h1] at h
      have : i.size = 1 := by simpa using h
      exact ⟨i, rfl, by omega⟩
  obtain ⟨i, h1, h2⟩ := hi
  obtain ⟨j, h3, h4⟩ := hj
  exact run_eql_iface_ptr_other w Tryz.underlying26 Tryz.underlying384 h1 h2 h3 h4 hne ha hb

theorem alike_same (a : Addr) (w : World) : Calls Tryz.prog 193 #[.iface 384 (.pointer (some a)), .iface 384 (.pointer (some a))] w
    fun e w' => e = .returned (.bool true) ∧ w = w' := by
  have hr := run_eql_err_same a
  go_enter Tryz.func193, Tryz.ntmps193
  go_wp2
  go_ret
  exact ⟨rfl, rfl⟩

theorem alike_other {g h : Nat} (hg : g ∈ errs) (hh : h ∈ errs) (hne : g ≠ h) (w : World) (hE : Env E B w) : Calls Tryz.prog 193 #[errV E g, errV E h] w
    fun e w' => e = .returned (.bool false) ∧ w = w' := by
  obtain ⟨c, t, h1⟩ := hE.blk g hg
  obtain ⟨c', t', h2⟩ := hE.blk h hh
  have hr := run_eql_err_other (fun he => hne (hE.inj g hg h hh he)) w h1 h2
  clear h1 h2
  go_enter Tryz.func193, Tryz.ntmps193
  go_wp2
  go_ret
  exact ⟨rfl, rfl⟩

def RetSl (xs : Array Value) (n : Nat) (w : World) (e : Ending) (w' : World) : Prop := ∃ b, e = .returned (.slice (some ⟨b, 0, none⟩) n n) ∧ w.heap.size ≤ b ∧ b < w'.heap.size ∧ (∀ i, w'.cell? ⟨b, i, none⟩ = xs[i]?) ∧ Below w.heap.size w w'

attribute [local go_sem] giv

theorem sentinels_any (w : World) (hE : Env E B w) : Calls Tryz.prog 192 #[] w (RetSl (errs.map (errV E)).toArray 24 w) := by
  have c0 := hE.cell 11 (by decide)
  have c1 := hE.cell 10 (by decide)
  have c2 := hE.cell 0 (by decide)
  have c3 := hE.cell 9 (by decide)
  have c4 := hE.cell 8 (by decide)
  have c5 := hE.cell 1 (by decide)
  have c6 := hE.cell 3 (by decide)
  have c7 := hE.cell 12 (by decide)
  have c8 := hE.cell 4 (by decide)
  have c9 := hE.cell 7 (by decide)
  have c10 := hE.cell 13 (by decide)
  have c11 := hE.cell 14 (by decide)
  have c12 := hE.cell 15 (by decide)
  have c13 := hE.cell 6 (by decide)
  have c14 := hE.cell 5 (by decide)
  have c15 := hE.cell 16 (by decide)
  have c16 := hE.cell 17 (by decide)
  have c17 := hE.cell 18 (by decide)
  have c18 := hE.cell 19 (by decide)
  have c19 := hE.cell 20 (by decide)
  have c20 := hE.cell 21 (by decide)
  have c21 := hE.cell 2 (by decide)
  have c22 := hE.cell 22 (by decide)
  have c23 := hE.cell 23 (by decide)
  clear hE
  go_enter Tryz.func192, Tryz.ntmps192
  go_wp2
  go_ret
  exact ⟨w.heap.size, rfl, Nat.le_refl _, by simp, fun i => by simp [errs], bl_alloc (Below.refl _ _) _⟩

/-- Error g's number as plain data. -/
def codeOf (g : Nat) : Int := 101 + (errs.idxOf g : Nat)

theorem idx_errs : ∀ k, (h : k < 24) → errs.idxOf (errs[k]'(by simpa [errs] using h)) = k := by decide

set_option maxHeartbeats 400000 in
theorem sentinel_any {g : Nat} (hg : g ∈ errs) (w : World) (hE : Env E B w) : Calls Tryz.prog 145 #[errV E g] w
    fun e w' => e = .returned (.int .i64 (codeOf g)) ∧ Below w.heap.size w w' := by
  have hlt : errs.idxOf g < 24 := by
    have := List.idxOf_lt_length_iff.2 hg
    simpa [errs] using this
  go_enter Tryz.func145, Tryz.ntmps145
  go_wp2_with fail
  refine (sentinels_any w hE).mono ?_
  rintro e w1 ⟨b, rfl, hb0, hb1, hc, hbl⟩
  go_wp2_with fail
  go_loop [4] (fun v => ∃ k : Nat, k ≤ errs.idxOf g ∧ v = .int .i64 k) (fun v => 24 - (intOf v).toNat)
  case atStart => exact ⟨0, Nat.zero_le _, rfl⟩
  case round =>
    obtain ⟨k, hk, rfl⟩ := hrel
    have hk24 : k < 24 := by omega
    have hkm : errs[k]'(by simpa [errs] using hk24) ∈ errs := List.getElem_mem _
    have hcell : w1.cell? ⟨b, k, none⟩ = some (errV E (errs[k]'(by simpa [errs] using hk24))) := by
      rw [hc]
      simp [List.getElem?_toArray, List.getElem?_eq_getElem (show k < errs.length by simpa [errs] using hk24)]
    have hE1 := hE.below hbl
    clear hc
    by_cases hkg : k = errs.idxOf g
    · have hgk : errs[k]'(by simpa [errs] using hk24) = g := by
        subst hkg
        exact List.getElem_idxOf _
      rw [hgk] at hcell
      have HK := Lib.hid hkg
      clear hgk hkm hkg
      go_wp2_with fail
      refine (alike_same _ _).mono ?_
      rintro e w2 ⟨rfl, rfl⟩
      go_wp2
      go_ret
      exact ⟨ret_int (by unfold codeOf; rw [← HK.out]), hbl⟩
    · have hne : errs[k]'(by simpa [errs] using hk24) ≠ g := fun he => hkg (by
        rw [← he]
        exact (idx_errs k hk24).symm)
      generalize errs[k]'(by simpa [errs] using hk24) = h at hcell hkm hne
      have hne' := Lib.hid hne
      clear hne
      go_wp2_with fail
      refine (alike_other hg hkm (fun e => hne'.out e.symm) _ hE1).mono ?_
      rintro e w2 ⟨rfl, rfl⟩
      go_wp2
      go_round
      case rel => exact ⟨k + 1, by omega, by go_num⟩
      case measure => simp [intOf]; omega

theorem fault_nil (w : World) : Calls Tryz.prog 83 #[.nilIface] w
    fun e w' => e = .returned (.agg #[.int .i64 0, .bool false, .int .i64 0]) ∧ Below w.heap.size w w' := by
  go_enter Tryz.func83, Tryz.ntmps83
  go_wp2_with fail
  refine (none_any _).mono ?_
  rintro e w1 ⟨rfl, hb⟩
  obtain ⟨hc, hs⟩ := bcell hb
  have hf := bfroz hb
  go_wp2
  refine bodyPost_ret (v := .agg #[.int .i64 0, .bool false, .int .i64 0]) (by simp [results, Tryz.results83, go_sem, hc]) rfl ⟨rfl, ?_⟩
  exact (((((Below.refl _ _).alloc (Nat.le_refl _) _).trans (hb.mono (by simp))).setCell (by simp) _).setCell (by simp) _).setCell (by simp) _

theorem run_ta (a : Addr) (w : World) : (Instr.typeAssert (.iface 384 (.pointer (some a))) 26 236 true).run Tryz.prog w = .ok (.tuple #[.pointer none, .bool false]) w := by kernel_rfl

theorem fault_err {g : Nat} (hg : g ∈ errs) (w : World) (hE : Env E B w) : Calls Tryz.prog 83 #[errV E g] w
    fun e w' => e = .returned (.agg #[.int .i64 (codeOf g), .bool false, .int .i64 0]) ∧ Below w.heap.size w w' := by
  have hta := run_ta (E g)
  go_enter Tryz.func83, Tryz.ntmps83
  go_wp2_with fail
  refine (sentinel_any hg _ (hE.alloc _)).mono ?_
  rintro e w1 ⟨rfl, hb⟩
  obtain ⟨hc, hs⟩ := bcell hb
  have hf := bfroz hb
  have hs' : w.heap.size < w1.heap.size := by simp at hs; omega
  go_wp2_with fail
  refine (bare_any _ _).mono ?_
  rintro e w2 ⟨rfl, hb2⟩
  obtain ⟨hc2, hs2⟩ := bcell hb2
  have hf2 := bfroz hb2
  go_wp2
  refine bodyPost_ret (v := .agg #[.int .i64 (codeOf g), .bool false, .int .i64 0]) (by simp [results, Tryz.results83, go_sem, hc, hc2, hs']) rfl ⟨rfl, ?_⟩
  exact ((((((Below.refl _ _).alloc (Nat.le_refl _) _).trans (hb.mono (by simp))).trans (hb2.mono (by omega))).setCell (by simp) _).setCell (by simp) _).setCell (by simp) _

theorem same_nil (c : Int) (w : World) : Calls Tryz.prog 33 #[.nilIface, .agg #[.int .i64 c, .bool false, .int .i64 0]] w
    fun e w' => e = .returned (.bool (0 == c)) ∧ Below w.heap.size w w' := by
  go_enter Tryz.func33, Tryz.ntmps33
  go_wp2_with fail
  obtain ⟨w0, hw0⟩ : ∃ w0, w0 = w.alloc (.cells #[.int .i64 c, .bool false, .int .i64 0] 85) := ⟨_, rfl⟩
  have hb0 : Below w.heap.size w w0 := by rw [hw0]; exact bl_alloc (Below.refl _ _) _
  have hlt : w.heap.size < w0.heap.size := by rw [hw0]; simp
  have k : ∀ i, w0.cell? ⟨w.heap.size, i, none⟩ = #[Value.int .i64 c, .bool false, .int .i64 0][i]? := by rw [hw0]; intro i; simp
  rw [← hw0]
  clear hw0
  have S : ∀ w', Below w0.heap.size w0 w' → w'.cell? ⟨w.heap.size, 0, none⟩ = some (.int .i64 c) ∧ w'.cell? ⟨w.heap.size, 1, none⟩ = some (.bool false) ∧ w'.cell? ⟨w.heap.size, 2, none⟩ = some (.int .i64 0) := by
    intro w' hb
    obtain ⟨hc, _⟩ := bcell hb
    rw [hc _ _ hlt, hc _ _ hlt, hc _ _ hlt, k, k, k]
    exact ⟨rfl, rfl, rfl⟩
  clear k
  apply wp_region_rel _ (by kernel_rfl) (by kernel_rfl) (fun w' => Below w0.heap.size w0 w') (fun w' w'' => Below w'.heap.size w' w'') (fun w' w'' h1 h2 => bl_trans h1 h2) (Below.refl _ _).drew
  repeat (first
    | (apply wpRel_skip (by rfl)
       simp only [Act.put, List.setIfInBounds_toArray, List.set_cons_zero, List.set_cons_succ])
    | (apply wpRel_fix (by rfl)
       · intro w' hC hf R hR
         go_simp
         exact hR _ (Below.refl _ _)
       simp only [Act.put, List.setIfInBounds_toArray, List.set_cons_zero, List.set_cons_succ]))
  apply wpRel_fix (by rfl)
  · intro w' hC hf R hR
    go_simp
    refine (fault_nil _).mono ?_
    rintro e w3 ⟨rfl, hb3⟩
    exact ⟨_, rfl, hR _ hb3⟩
  simp only [Act.put, List.setIfInBounds_toArray, List.set_cons_zero, List.set_cons_succ]
  repeat (first
    | (apply wpRel_skip (by rfl)
       simp only [Act.put, List.setIfInBounds_toArray, List.set_cons_zero, List.set_cons_succ])
    | (apply wpRel_fix (by rfl)
       · intro w' hC hf R hR
         go_simp
         exact hR _ (Below.refl _ _)
       simp only [Act.put, List.setIfInBounds_toArray, List.set_cons_zero, List.set_cons_succ]))
  apply wpRel_fix (by rfl)
  · intro w' hC hf R hR
    go_simp
    refine (samefault_any _ _ _).mono ?_
    rintro e w3 ⟨rfl, hb3⟩
    exact ⟨_, rfl, hR _ hb3⟩
  simp only [Act.put, List.setIfInBounds_toArray, List.set_cons_zero, List.set_cons_succ]
  repeat (first
    | (apply wpRel_skip (by rfl)
       simp only [Act.put, List.setIfInBounds_toArray, List.set_cons_zero, List.set_cons_succ])
    | (apply wpRel_fix (by rfl)
       · intro w' hC hf R hR
         go_simp
         exact hR _ (Below.refl _ _)
       simp only [Act.put, List.setIfInBounds_toArray, List.set_cons_zero, List.set_cons_succ]))
  refine wpRel_nil (fun w' hC hf => ?_)
  go_wp2
  go_ret
  exact ⟨by simp, hb0.trans (hC.mono hb0.size)⟩

theorem same_err {g : Nat} (hg : g ∈ errs) (c : Int) (w : World) (hE : Env E B w) : Calls Tryz.prog 33 #[errV E g, .agg #[.int .i64 c, .bool false, .int .i64 0]] w
    fun e w' => e = .returned (.bool (codeOf g == c)) ∧ Below w.heap.size w w' := by
  go_enter Tryz.func33, Tryz.ntmps33
  go_wp2_with fail
  obtain ⟨w0, hw0⟩ : ∃ w0, w0 = w.alloc (.cells #[.int .i64 c, .bool false, .int .i64 0] 85) := ⟨_, rfl⟩
  have hb0 : Below w.heap.size w w0 := by rw [hw0]; exact bl_alloc (Below.refl _ _) _
  have hlt : w.heap.size < w0.heap.size := by rw [hw0]; simp
  have k : ∀ i, w0.cell? ⟨w.heap.size, i, none⟩ = #[Value.int .i64 c, .bool false, .int .i64 0][i]? := by rw [hw0]; intro i; simp
  have hE0 := hE.below hb0
  rw [← hw0]
  clear hw0
  have S : ∀ w', Below w0.heap.size w0 w' → w'.cell? ⟨w.heap.size, 0, none⟩ = some (.int .i64 c) ∧ w'.cell? ⟨w.heap.size, 1, none⟩ = some (.bool false) ∧ w'.cell? ⟨w.heap.size, 2, none⟩ = some (.int .i64 0) := by
    intro w' hb
    obtain ⟨hc, _⟩ := bcell hb
    rw [hc _ _ hlt, hc _ _ hlt, hc _ _ hlt, k, k, k]
    exact ⟨rfl, rfl, rfl⟩
  clear k
  apply wp_region_rel _ (by kernel_rfl) (by kernel_rfl) (fun w' => Below w0.heap.size w0 w') (fun w' w'' => Below w'.heap.size w' w'') (fun w' w'' h1 h2 => bl_trans h1 h2) (Below.refl _ _).drew
  repeat (first
    | (apply wpRel_skip (by rfl)
       simp only [Act.put, List.setIfInBounds_toArray, List.set_cons_zero, List.set_cons_succ])
    | (apply wpRel_fix (by rfl)
       · intro w' hC hf R hR
         go_simp
         exact hR _ (Below.refl _ _)
       simp only [Act.put, List.setIfInBounds_toArray, List.set_cons_zero, List.set_cons_succ]))
  apply wpRel_fix (by rfl)
  · intro w' hC hf R hR
    go_simp
    refine (fault_err hg _ (hE0.below hC)).mono ?_
    rintro e w3 ⟨rfl, hb3⟩
    exact ⟨_, rfl, hR _ hb3⟩
  simp only [Act.put, List.setIfInBounds_toArray, List.set_cons_zero, List.set_cons_succ]
  repeat (first
    | (apply wpRel_skip (by rfl)
       simp only [Act.put, List.setIfInBounds_toArray, List.set_cons_zero, List.set_cons_succ])
    | (apply wpRel_fix (by rfl)
       · intro w' hC hf R hR
         go_simp
         exact hR _ (Below.refl _ _)
       simp only [Act.put, List.setIfInBounds_toArray, List.set_cons_zero, List.set_cons_succ]))
  apply wpRel_fix (by rfl)
  · intro w' hC hf R hR
    go_simp
    refine (samefault_any _ _ _).mono ?_
    rintro e w3 ⟨rfl, hb3⟩
    exact ⟨_, rfl, hR _ hb3⟩
  simp only [Act.put, List.setIfInBounds_toArray, List.set_cons_zero, List.set_cons_succ]
  repeat (first
    | (apply wpRel_skip (by rfl)
       simp only [Act.put, List.setIfInBounds_toArray, List.set_cons_zero, List.set_cons_succ])
    | (apply wpRel_fix (by rfl)
       · intro w' hC hf R hR
         go_simp
         exact hR _ (Below.refl _ _)
       simp only [Act.put, List.setIfInBounds_toArray, List.set_cons_zero, List.set_cons_succ]))
  refine wpRel_nil (fun w' hC hf => ?_)
  go_wp2
  go_ret
  exact ⟨by simp, hb0.trans (hC.mono hb0.size)⟩

theorem is_nil (c : Int) (w : World) : Calls Tryz.prog 11 #[.nilIface, .int .i64 c] w
    fun e w' => e = .returned (.bool (0 == c)) ∧ Below w.heap.size w w' := by
  go_enter Tryz.func11, Tryz.ntmps11
  go_wp2_with fail
  refine (bare_any _ _).mono ?_
  rintro e w1 ⟨rfl, hb1⟩
  go_wp2_with fail
  refine (same_nil _ _).mono ?_
  rintro e w2 ⟨rfl, hb2⟩
  go_wp2
  go_ret
  exact ⟨by simp, bl_trans hb1 hb2⟩

theorem is_err {g : Nat} (hg : g ∈ errs) (c : Int) (w : World) (hE : Env E B w) : Calls Tryz.prog 11 #[errV E g, .int .i64 c] w
    fun e w' => e = .returned (.bool (codeOf g == c)) ∧ Below w.heap.size w w' := by
  go_enter Tryz.func11, Tryz.ntmps11
  go_wp2_with fail
  refine (bare_any _ _).mono ?_
  rintro e w1 ⟨rfl, hb1⟩
  go_wp2_with fail
  refine (same_err hg _ _ (hE.below hb1)).mono ?_
  rintro e w2 ⟨rfl, hb2⟩
  go_wp2
  go_ret
  exact ⟨by simp, bl_trans hb1 hb2⟩

end Go.Proofs.YtcjebpplmoakkaaGreatDoor
