/- Merged texts: Dir DirSet DirAdd. -/
import Derived.Test.YtjekpbkmhgfhoaaGreatDoorGBase10
import Derived.Test.YtjekpbkmhgfhoaaGreatDoorGBase08
import Derived.Test.YtjekpbkmhgfhoaaGreatDoorGBase02
import Derived.Deep.QuietTactic
import Derived.BigQuiet
import Derived.Outline
section
/- The walks of package dir over a directory that is a function of its names: may, Get, Len, Set. -/
namespace Go.Proofs.YtjekpbkmhgfhoaaGreatDoor
open Go Go.RowKit
set_option maxRecDepth 100000
set_option linter.unusedSimpArgs false

/-- An entry. -/
structure En where
  name : ByteArray
  node : Int
  kind : Int
def encE (e : En) : Value := .agg #[.string e.name, .int .i64 e.node, .int .i64 e.kind]
def mayB (e : En) : Bool := decide (1 ≤ e.node) && (decide (e.node ≤ 16777215) && (decide (1 ≤ e.kind) && decide (e.kind ≤ 3)))
def noEn : En := ⟨{ data := #[] }, 0, 0⟩

abbrev EMap (w : World) (r : Nat) (g : ByteArray → Option En) (n : Nat) : Prop := MapAt Tryz.prog 9 Value.string encE w r g n

/-- Block b is a directory: its map's block m (none: not made), what it has, how many. -/
def DirAt (w : World) (b : Nat) (m : Option Nat) (g : ByteArray → Option En) (n : Nat) : Prop :=
  w.cell? ⟨b, 0, none⟩ = some (.map m) ∧ w.frozen? ⟨b, 0, none⟩ = false ∧ b < w.heap.size ∧
    match m with
    | none => n = 0 ∧ ∀ k, g k = none
    | some r => r ≠ b ∧ EMap w r g n
/-- The blocks of a directory. -/
def OwnD (b : Nat) (m : Option Nat) : Nat → Prop := fun x => x = b ∨ m = some x

section
variable {w w' : World} {b n : Nat} {m : Option Nat} {g : ByteArray → Option En}
theorem DirAt.touch {S : Nat → Prop} (h : DirAt w b m g n) (ht : Touch S w w') (hn : ∀ x, OwnD b m x → ¬ S x) : DirAt w' b m g n := by
  obtain ⟨h1, h2, h3, h4⟩ := h
  have hb := hn b (.inl rfl)
  refine ⟨(ht.cell (p := ⟨b, 0, none⟩) h3 hb).trans h1, (ht.frozen (p := ⟨b, 0, none⟩) h3 hb).trans h2, Nat.lt_of_lt_of_le h3 ht.size, ?_⟩
  cases m with
  | none => exact h4
  | some r => exact ⟨h4.1, h4.2.touch ht (hn r (.inr rfl))⟩
theorem DirAt.below (h : DirAt w b m g n) (hb : Below w.heap.size w w') : DirAt w' b m g n := h.touch (Touch.of_below hb NoB) (fun _ _ h => h)
theorem DirAt.own_lt (h : DirAt w b m g n) : ∀ x, OwnD b m x → x < w.heap.size := by
  rintro x (rfl | hx)
  · exact h.2.2.1
  · subst hx; exact h.2.2.2.2.lt
theorem DirAt.turned {r n' : Nat} {g' : ByteArray → Option En} (h : DirAt w b (some r) g n) (hm : EMap w' r g' n') (ht : w.mapTurned w' r) : DirAt w' b (some r) g' n' := by
  obtain ⟨h1, h2, h3, h4, _⟩ := h
  obtain ⟨c1, c2, c3⟩ := turned_cell ht
  exact ⟨(c1 _ _ (Ne.symm h4)).trans h1, (c2 _ _ (Ne.symm h4)).trans h2, by omega, h4, hm⟩

theorem kdStr : Maps.Keyed Tryz.prog 9 := Maps.string_keyed Tryz.underlying9
theorem str_inj : ∀ a b : ByteArray, Value.string a = Value.string b → a = b := fun _ _ h => by cases h; rfl
theorem keyS {s : ByteArray} (h : s.size ≤ maxLen) : ∃ l, keyOf Tryz.prog 9 (.string s) = some l := ⟨_, WideMaps.keyOf_string_mk Tryz.underlying9 h⟩
theorem zeroE (w : World) : (zeroValue 51).run Tryz.prog w = .ok (encE noEn) w := by kernel_rfl

theorem dir_look (h : DirAt w b m g n) {k : ByteArray} (hk : k.size ≤ maxLen) :
    (Instr.lookup 188 (.map m) (.string k) true).run Tryz.prog w = .ok (.tuple #[encE ((g k).getD noEn), .bool (g k).isSome]) w := by
  obtain ⟨_, _, _, h4⟩ := h
  obtain ⟨l, hl⟩ := keyS hk
  cases m with
  | none =>
    obtain ⟨_, hg⟩ := h4
    rw [hg k]
    exact Maps.look_nil true kdStr Tryz.underlying188 (zeroE w) hl
  | some r =>
    obtain ⟨_, hm⟩ := h4
    cases hg : g k with
    | none => exact hm.look_none kdStr Tryz.underlying188 str_inj (zeroE w) hl hg true
    | some h => exact hm.look_some kdStr Tryz.underlying188 str_inj hl hg true
theorem dir_len (h : DirAt w b m g n) (ty : TypeId) : (Builtin.len_ #[188] ty #[.map m]).run Tryz.prog w = .ok (.int .i64 n) w := by
  obtain ⟨_, _, _, h4⟩ := h
  cases m with
  | none =>
    obtain ⟨rfl, _⟩ := h4
    exact Maps.len_nil Tryz.underlying188 ty
  | some r => exact h4.2.len Tryz.underlying188 ty
end

attribute [local go_sem] giv
variable {E : Nat → Addr} {B : Nat}

theorem dmay_any (e : En) (w : World) : Calls Tryz.prog 150 #[encE e] w fun x w' => x = .returned (.bool (mayB e)) ∧ Below w.heap.size w w' := by
  obtain ⟨nm, nd, kd⟩ := e
  generalize hr : mayB ⟨nm, nd, kd⟩ = r
  have HR := Lib.hid hr
  clear hr
  unfold encE
  by_cases h1 : 1 ≤ nd
  · by_cases h2 : nd ≤ 16777215
    · by_cases h3 : 1 ≤ kd
      · have hr : r = decide (kd ≤ 3) := by rw [← HR.out]; simp [mayB, h1, h2, h3]
        subst hr
        go_enter Tryz.func150, Tryz.ntmps150
        go_wp2
        go_ret
        exact ⟨ret_bool (by simp), bl_alloc (Below.refl _ _) _⟩
      · have hr : r = false := by rw [← HR.out]; simp [mayB, h3]
        subst hr
        have h3' : decide (1 ≤ kd) = false := decide_eq_false h3
        go_enter Tryz.func150, Tryz.ntmps150
        go_wp2
        go_ret
        exact ⟨rfl, bl_alloc (Below.refl _ _) _⟩
    · have hr : r = false := by rw [← HR.out]; simp [mayB, h2]
      subst hr
      have h3' : decide (nd ≤ 16777215) = false := decide_eq_false h2
      go_enter Tryz.func150, Tryz.ntmps150
      go_wp2
      go_ret
      exact ⟨rfl, bl_alloc (Below.refl _ _) _⟩
  · have hr : r = false := by rw [← HR.out]; simp [mayB, h1]
    subst hr
    have h3' : decide (1 ≤ nd) = false := decide_eq_false h1
    go_enter Tryz.func150, Tryz.ntmps150
    go_wp2
    go_ret
    exact ⟨rfl, bl_alloc (Below.refl _ _) _⟩

section
variable {w : World} {b n : Nat} {m : Option Nat} {g : ByteArray → Option En}
theorem dlen_any (h : DirAt w b m g n) : Calls Tryz.prog 80 #[.pointer (some ⟨b, 0, none⟩)] w fun e w' => e = .returned (.int .i64 n) ∧ w = w' := by
  have hc := h.1
  have hlt := h.2.2.1
  have H := Lib.hid h
  clear h
  go_enter Tryz.func80, Tryz.ntmps80
  go_wp2_with (at_len; refine wpList_mlen rfl _ _ rfl (dir_len H.out _) ?_)
  go_ret
  exact ⟨rfl, rfl⟩
theorem dget_any (h : DirAt w b m g n) {k : ByteArray} (hk : k.size ≤ maxLen) :
    Calls Tryz.prog 138 #[.pointer (some ⟨b, 0, none⟩), .string k] w fun e w' => e = .returned (.tuple #[encE ((g k).getD noEn), .bool (g k).isSome]) ∧ Below w.heap.size w w' := by
  have hc := h.1
  have hlt := h.2.2.1
  have H := Lib.hid h
  clear h
  go_enter Tryz.func138, Tryz.ntmps138
  generalize hx : (g k).getD noEn = x at *
  obtain ⟨nm, nd, kd⟩ := x
  go_wp2_with (at_lookup; refine wpList_look rfl _ _ _ _ rfl (dir_look (H.out.below (bl_alloc (Below.refl _ _) _)) hk) ?_; rw [hx]; unfold encE)
  refine bodyPost_ret (v := .tuple #[encE ⟨nm, nd, kd⟩, .bool (g k).isSome]) (by simp [results, Tryz.results138, go_sem, encE]) rfl ⟨rfl, ?_⟩
  exact bl_alloc (bl_alloc (Below.refl _ _) _) _
end
end Go.Proofs.YtjekpbkmhgfhoaaGreatDoor
end

section
/- The walks of package dir: Set, Del. -/
namespace Go.Proofs.YtjekpbkmhgfhoaaGreatDoor
open Go Go.RowKit
set_option maxRecDepth 100000
set_option linter.unusedSimpArgs false
attribute [local go_sem] giv
variable {E : Nat → Addr} {B : Nat}

/-- What an operation that writes leaves. -/
def DirOut (b : Nat) (m : Option Nat) (g' : ByteArray → Option En) (n' : Nat) (w w' : World) : Prop :=
  ∃ m', DirAt w' b m' g' n' ∧ Touch (OwnD b m) w w' ∧ ∀ x, OwnD b m' x → OwnD b m x ∨ w.heap.size ≤ x

section
variable {w : World} {b n : Nat} {m : Option Nat} {g : ByteArray → Option En}

end
end Go.Proofs.YtjekpbkmhgfhoaaGreatDoor
end

section
/- The walks of package dir: Add. -/
namespace Go.Proofs.YtjekpbkmhgfhoaaGreatDoor
open Go Go.RowKit
set_option maxRecDepth 100000
set_option linter.unusedSimpArgs false
attribute [local go_sem] giv
variable {E : Nat → Addr} {B : Nat}

/-- What is amiss with an entry that is added: a code. -/
def addCode (g : ByteArray → Option En) (e : En) : Int :=
  if nmCode e.name = 0 then (if nmSpecial e.name then 114 else if mayB e then (if (g e.name).isSome then 110 else 0) else 103) else nmCode e.name
theorem addCode_zero {g : ByteArray → Option En} {e : En} (h : addCode g e = 0) : nmCode e.name = 0 ∧ nmSpecial e.name = false ∧ mayB e = true ∧ (g e.name).isSome = false := by
  unfold addCode at h
  split at h
  · rename_i h1
    split at h
    · omega
    · split at h
      · split at h
        · omega
        · exact ⟨h1, by simp_all, by simp_all, by simp_all⟩
      · omega
  · rename_i h1
    exact (h1 h).elim

section
variable {w : World} {b n : Nat} {m : Option Nat} {g : ByteArray → Option En}

theorem nm_size {s : ByteArray} (h : nmCode s = 0) : s.size ≤ 24 ∧ s.data.toList ≠ [] := by
  unfold nmCode at h
  split at h
  · omega
  · rename_i h1
    split at h
    · omega
    · exact ⟨by omega, h1⟩

theorem DirAt.made {r : Nat} (h : DirAt w b m g n) (hg : ∀ k, g k = none) (hr : r = w.heap.size) : DirAt ((w.setCell ⟨b, 0, none⟩ (.map (some r))).alloc (.map #[] 0)) b (some r) g 0 := by
  obtain ⟨h1, h2, h3, _⟩ := h
  refine ⟨by go_simp, by go_simp, by simp; omega, by omega, ?_⟩
  rw [funext hg]
  exact mapAt_new' _ _ _ _ _ (by simp [hr])

set_option maxHeartbeats 1000000 in
theorem dadd_no (h : DirAt w b m g n) (e : En) (hk : e.name.size ≤ maxLen) (hno : addCode g e ≠ 0) (hE : Env E B w) :
    Calls Tryz.prog 116 #[.pointer (some ⟨b, 0, none⟩), encE e] w fun x w' => x = .returned (errOf E (addCode g e)) ∧ Below w.heap.size w w' := by
  obtain ⟨nm, nd, kd⟩ := e
  have hc := h.1
  have hlt := h.2.2.1
  have HE := Lib.hid (hE.alloc (.cells #[.string nm, .int .i64 nd, .int .i64 kd] 51))
  have HE0 := Lib.hid hE
  have HMAY := fun w => dmay_any ⟨nm, nd, kd⟩ w
  have h1 := h.below (bl_alloc (Below.refl _ _) (.cells #[.string nm, .int .i64 nd, .int .i64 kd] 51))
  have H1 := Lib.hid h1
  have C2 : Hid (errOf E 103 = errV E 10) := Lib.hid (errOf_code (g := 10) (by decide))
  have C3 : Hid (errOf E 114 = errV E 3) := Lib.hid (errOf_code (g := 3) (by decide))
  have C4 : Hid (errOf E 110 = errV E 14) := Lib.hid (errOf_code (g := 14) (by decide))
  generalize hr : addCode g ⟨nm, nd, kd⟩ = r at *
  have HR := Lib.hid hr
  have HNO := Lib.hid hno
  clear hr hno h hE h1
  unfold encE at *
  simp only at hk
  go_enter Tryz.func116, Tryz.ntmps116
  go_wp2_with fail
  refine (nvalid_any nm _ HE.out).mono ?_
  rintro e w1 ⟨rfl, rfl⟩
  by_cases h0 : nmCode nm = 0
  · rw [h0, errOf_zero]
    go_wp2_with fail
    refine (special_any nm _).mono ?_
    rintro e w1 ⟨rfl, rfl⟩
    have hr := HR.out
    unfold addCode at hr
    simp only at hr
    rw [if_pos h0] at hr
    cases hs : nmSpecial nm
    · rw [hs] at hr
      simp only [Bool.false_eq_true, if_false] at hr
      go_wp2_with fail
      refine (HMAY _).mono ?_
      rintro e w3 ⟨rfl, hb3⟩
      cases hm : mayB ⟨nm, nd, kd⟩
      · rw [hm] at hr
        simp only [Bool.false_eq_true, if_false] at hr
        subst hr
        have hEE := HE.out.below hb3
        have he := hEE.cell 10 (by decide)
        have hlt2 : 10 < w3.heap.size := Nat.lt_of_lt_of_le (hEE.glt _ (by decide)) hEE.size
        have HB := Lib.hid ((bl_alloc (Below.refl w.heap.size w) _).trans (hb3.mono (by simp)))
        clear hb3 hEE HMAY
        go_wp2
        go_ret
        exact ⟨by rw [C2.out]; rfl, HB.out⟩
      · rw [hm] at hr
        simp only [if_true] at hr
        have hgs : (g nm).isSome = true := by
          cases hg : (g nm).isSome
          · rw [hg] at hr
            simp only [Bool.false_eq_true, if_false] at hr
            exact (HNO.out hr.symm).elim
          · rfl
        rw [hgs] at hr
        simp only [if_true] at hr
        subst hr
        have HB := Lib.hid ((bl_alloc (Below.refl w.heap.size w) _).trans (hb3.mono (by simp)))
        have H3 := Lib.hid (H1.out.below hb3)
        have HE3 := Lib.hid (HE.out.below hb3)
        have lx : w.heap.size < w3.heap.size := by have := hb3.size; simp at this; omega
        have nbx : b ≠ w.heap.size := by omega
        have cx : ∀ j, w3.cell? ⟨w.heap.size, j, none⟩ = (#[.string nm, .int .i64 nd, .int .i64 kd] : Array Value)[j]? := by
          intro j
          rw [hb3.cell (p := ⟨w.heap.size, j, none⟩) (by simp)]
          simp
        have HL : ∀ w', Shp w3.heap.size w3 w' → (Instr.lookup 188 (.map m) (.string nm) true).run Tryz.prog w' = .ok (.tuple #[encE ((g nm).getD noEn), .bool (g nm).isSome]) w' :=
          fun w' hs => dir_look (H3.out.below hs.bel) hk
        generalize hq : (g nm).getD noEn = q at HL
        obtain ⟨q1, q2, q3⟩ := q
        rw [hgs] at HL
        unfold encE at HL
        dsimp only at HL
        clear hb3 HMAY H1 HE hq
        generalize hbx : w.heap.size = bx at *
        have HBX := Lib.hid hbx
        clear hbx
        go_wp2_with fail
        have S : ∀ w', Shp w3.heap.size w3 w' → w'.cell? ⟨b, 0, none⟩ = some (.map m) ∧ w'.cell? ⟨bx, 0, none⟩ = some (.string nm) := by
          intro w' hs
          exact ⟨(H3.out.below hs.bel).1, (hs.bel.cell (p := ⟨bx, 0, none⟩) lx).trans (by simpa using cx 0)⟩
        have CX := Lib.hid cx
        clear cx
        apply wp_region_rel _ (by kernel_rfl) (by kernel_rfl) (fun w' => Shp w3.heap.size w3 w') (fun w' w'' => Shp w3.heap.size w' w'') (fun w' w'' h1 h2 => h1.trans h2) (Shp.refl _ _).drew
        repeat (first
          | (apply wpRel_fix (by rfl)
             · intro w' hC hf R hR
               go_simp
               exact hR _ (Shp.refl _ _)
             simp only [Act.put, List.setIfInBounds_toArray, List.set_cons_zero, List.set_cons_succ])
          | (apply wpRel_fix (by rfl)
             · intro w' hC hf R hR
               exact giv_look _ _ _ _ rfl (HL w' hC) (hR _ (Shp.refl _ _))
             simp only [Act.put, List.setIfInBounds_toArray, List.set_cons_zero, List.set_cons_succ]))
        apply wpRel_rel (PtBlk w3.heap.size 3) (by rfl) ptBlk_keep
        · intro w' hC hf R hR
          go_simp
          exact hR _ _ ⟨_, rfl, hC.bel.size, IsBlk.new' _ _ _ rfl⟩ (Shp.alloc (Shp.refl _ _) hC.bel.size _)
        intro v6
        simp only [Act.put, List.setIfInBounds_toArray, List.set_cons_zero, List.set_cons_succ]
        apply wpRel_fix (by rfl)
        · intro w' hC hf R hR
          obtain ⟨c, rfl, hc, hk⟩ := hf _ (List.mem_cons_self ..) (by kernel_rfl)
          obtain ⟨u0, e0⟩ := hk.cell (i := 0) (by omega)
          obtain ⟨u1, e1⟩ := hk.cell (i := 1) (by omega)
          obtain ⟨u2, e2⟩ := hk.cell (i := 2) (by omega)
          have f0 := hk.froz 0
          have f1 := hk.froz 1
          have f2 := hk.froz 2
          go_simp
          refine hR _ ?_
          iterate 3 (refine Shp.setCell ?_ hc _)
          exact Shp.refl _ _
        simp only [Act.put, List.setIfInBounds_toArray, List.set_cons_zero, List.set_cons_succ]
        apply wpRel_fix (by rfl)
        · intro w' hC hf R hR
          go_simp
          exact hR _ (Shp.refl _ _)
        simp only [Act.put, List.setIfInBounds_toArray, List.set_cons_zero, List.set_cons_succ]
        refine wpRel_nil (fun w4 hC hf => ?_)
        have H4 := Lib.hid (H3.out.below hC.bel)
        have HB4 : Hid (Below w.heap.size w w4) := Lib.hid (HBX.out ▸ (HB.out.trans (hC.bel.mono (Nat.le_of_lt lx))))
        have HE4 := Lib.hid (HE3.out.below (hC.bel.mono (Nat.le_refl _)))
        have CX4 : Hid (∀ j, w4.cell? ⟨bx, j, none⟩ = (#[.string nm, .int .i64 nd, .int .i64 kd] : Array Value)[j]?) := Lib.hid fun j => (hC.bel.cell (p := ⟨bx, j, none⟩) lx).trans (CX.out j)
        have lx4 : bx < w4.heap.size := Nat.lt_of_lt_of_le lx hC.bel.size
        clear HL S hf CX HB hC H3 HE3
        have he := HE4.out.cell 14 (by decide)
        have hlt2 : 14 < w4.heap.size := Nat.lt_of_lt_of_le (HE4.out.glt _ (by decide)) HE4.out.size
        go_wp2
        go_ret
        exact ⟨by rw [C4.out]; rfl, HBX.out ▸ HB4.out⟩
    · rw [hs] at hr
      simp only [if_true] at hr
      subst hr
      have he := HE.out.cell 3 (by decide)
      have hlt2 : 3 < w.heap.size := Nat.lt_of_lt_of_le (HE0.out.glt _ (by decide)) HE0.out.size
      go_wp2
      go_ret
      exact ⟨by rw [C3.out]; rfl, bl_alloc (Below.refl _ _) _⟩
  · have hr : r = nmCode nm := by rw [← HR.out]; unfold addCode; rw [if_neg h0]
    subst hr
    obtain ⟨ad, ht⟩ : ∃ gg, errOf E (nmCode nm) = errV E gg := ⟨_, by unfold errOf; rw [if_neg h0]⟩
    have HT := Lib.hid ht
    rw [ht]
    clear ht
    unfold errV
    go_wp2
    go_ret
    exact ⟨by rw [HT.out]; rfl, bl_alloc (Below.refl _ _) _⟩

set_option maxHeartbeats 1000000 in
theorem dadd_ok (h : DirAt w b m g n) (e : En) (hyes : addCode g e = 0) (hE : Env E B w) :
    Calls Tryz.prog 116 #[.pointer (some ⟨b, 0, none⟩), encE e] w fun x w' => x = .returned .nilIface ∧ DirOut b m (upd g e.name e) (n + 1) w w' := by
  obtain ⟨hn0, hs, hm, hgs⟩ := addCode_zero hyes
  have hk : e.name.size ≤ maxLen := by have := (nm_size hn0).1; unfold maxLen; omega
  obtain ⟨nm, nd, kd⟩ := e
  simp only at hn0 hs hgs hk ⊢
  obtain ⟨lk, hlk⟩ := keyS hk
  have HLK := Lib.hid hlk
  have hc := h.1
  have hlt := h.2.2.1
  have HE := Lib.hid (hE.alloc (.cells #[.string nm, .int .i64 nd, .int .i64 kd] 51))
  have HMAY := fun w => dmay_any ⟨nm, nd, kd⟩ w
  have h1 := h.below (bl_alloc (Below.refl _ _) (.cells #[.string nm, .int .i64 nd, .int .i64 kd] 51))
  have H1 := Lib.hid h1
  clear hyes h hE h1 hlk
  unfold encE at *
  go_enter Tryz.func116, Tryz.ntmps116
  go_wp2_with fail
  refine (nvalid_any nm _ HE.out).mono ?_
  rintro e w1 ⟨rfl, rfl⟩
  rw [hn0, errOf_zero]
  go_wp2_with fail
  refine (special_any nm _).mono ?_
  rintro e w1 ⟨rfl, rfl⟩
  rw [hs]
  go_wp2_with fail
  refine (HMAY _).mono ?_
  rintro e w3 ⟨rfl, hb3⟩
  rw [hm]
  have HB := Lib.hid ((bl_alloc (Below.refl w.heap.size w) _).trans (hb3.mono (by simp)))
  have H3 := Lib.hid (H1.out.below hb3)
  have HE3 := Lib.hid (HE.out.below hb3)
  have lx : w.heap.size < w3.heap.size := by have := hb3.size; simp at this; omega
  have nbx : b ≠ w.heap.size := by omega
  have cx : ∀ j, w3.cell? ⟨w.heap.size, j, none⟩ = (#[.string nm, .int .i64 nd, .int .i64 kd] : Array Value)[j]? := by
    intro j
    rw [hb3.cell (p := ⟨w.heap.size, j, none⟩) (by simp)]
    simp
  have HL : ∀ w', Shp w3.heap.size w3 w' → (Instr.lookup 188 (.map m) (.string nm) true).run Tryz.prog w' = .ok (.tuple #[encE ((g nm).getD noEn), .bool (g nm).isSome]) w' :=
    fun w' hs => dir_look (H3.out.below hs.bel) hk
  generalize hq : (g nm).getD noEn = q at HL
  obtain ⟨q1, q2, q3⟩ := q
  rw [hgs] at HL
  unfold encE at HL
  dsimp only at HL
  clear hb3 HMAY H1 HE hq
  generalize hbx : w.heap.size = bx at *
  have HBX := Lib.hid hbx
  clear hbx
  go_wp2_with fail
  have S : ∀ w', Shp w3.heap.size w3 w' → w'.cell? ⟨b, 0, none⟩ = some (.map m) ∧ w'.cell? ⟨bx, 0, none⟩ = some (.string nm) := by
    intro w' hs
    exact ⟨(H3.out.below hs.bel).1, (hs.bel.cell (p := ⟨bx, 0, none⟩) lx).trans (by simpa using cx 0)⟩
  have CX := Lib.hid cx
  clear cx
  apply wp_region_rel _ (by kernel_rfl) (by kernel_rfl) (fun w' => Shp w3.heap.size w3 w') (fun w' w'' => Shp w3.heap.size w' w'') (fun w' w'' h1 h2 => h1.trans h2) (Shp.refl _ _).drew
  repeat (first
    | (apply wpRel_fix (by rfl)
       · intro w' hC hf R hR
         go_simp
         exact hR _ (Shp.refl _ _)
       simp only [Act.put, List.setIfInBounds_toArray, List.set_cons_zero, List.set_cons_succ])
    | (apply wpRel_fix (by rfl)
       · intro w' hC hf R hR
         exact giv_look _ _ _ _ rfl (HL w' hC) (hR _ (Shp.refl _ _))
       simp only [Act.put, List.setIfInBounds_toArray, List.set_cons_zero, List.set_cons_succ]))
  apply wpRel_rel (PtBlk w3.heap.size 3) (by rfl) ptBlk_keep
  · intro w' hC hf R hR
    go_simp
    exact hR _ _ ⟨_, rfl, hC.bel.size, IsBlk.new' _ _ _ rfl⟩ (Shp.alloc (Shp.refl _ _) hC.bel.size _)
  intro v6
  simp only [Act.put, List.setIfInBounds_toArray, List.set_cons_zero, List.set_cons_succ]
  apply wpRel_fix (by rfl)
  · intro w' hC hf R hR
    obtain ⟨c, rfl, hc, hk⟩ := hf _ (List.mem_cons_self ..) (by kernel_rfl)
    obtain ⟨u0, e0⟩ := hk.cell (i := 0) (by omega)
    obtain ⟨u1, e1⟩ := hk.cell (i := 1) (by omega)
    obtain ⟨u2, e2⟩ := hk.cell (i := 2) (by omega)
    have f0 := hk.froz 0
    have f1 := hk.froz 1
    have f2 := hk.froz 2
    go_simp
    refine hR _ ?_
    iterate 3 (refine Shp.setCell ?_ hc _)
    exact Shp.refl _ _
  simp only [Act.put, List.setIfInBounds_toArray, List.set_cons_zero, List.set_cons_succ]
  apply wpRel_fix (by rfl)
  · intro w' hC hf R hR
    go_simp
    exact hR _ (Shp.refl _ _)
  simp only [Act.put, List.setIfInBounds_toArray, List.set_cons_zero, List.set_cons_succ]
  refine wpRel_nil (fun w4 hC hf => ?_)
  have H4 := Lib.hid (H3.out.below hC.bel)
  have HB4 : Hid (Below w.heap.size w w4) := Lib.hid (HBX.out ▸ (HB.out.trans (hC.bel.mono (Nat.le_of_lt lx))))
  have HE4 := Lib.hid (HE3.out.below (hC.bel.mono (Nat.le_refl _)))
  have CX4 : Hid (∀ j, w4.cell? ⟨bx, j, none⟩ = (#[.string nm, .int .i64 nd, .int .i64 kd] : Array Value)[j]?) := Lib.hid fun j => (hC.bel.cell (p := ⟨bx, j, none⟩) lx).trans (CX.out j)
  have lx4 : bx < w4.heap.size := Nat.lt_of_lt_of_le lx hC.bel.size
  clear HL S hf CX HB hC H3 HE3
  have hc2 := H4.out.1
  have hlt2 := H4.out.2.2.1
  have hf2 := H4.out.2.1
  have hmm := @run_makeMap Tryz.prog
  by_cases hn : n = 0
  · subst hn
    have hz : (((0 : Nat) : Int) == 0) = true := rfl
    have hgn : ∀ x, g x = none := by
      have h4 := H4.out.2.2.2
      cases m with
      | none => exact h4.2
      | some r => exact h4.2.empty
    have HGN := Lib.hid hgn
    clear hgn
    go_wp2_with (at_len; refine wpList_mlen rfl _ _ rfl (dir_len H4.out _) ?_)
    obtain ⟨w5, hw5⟩ : ∃ w5, w5 = (w4.setCell { block := b, off := 0 } (Value.map (some w4.heap.size))).alloc (Obj.map #[] 0) := ⟨_, rfl⟩
    obtain ⟨r5, hr5⟩ : ∃ r5, r5 = w4.heap.size := ⟨_, rfl⟩
    rw [← hw5, ← hr5]
    have lx5 : bx < w5.heap.size := by rw [hw5]; simp; omega
    have A5 : Hid (∀ j, w5.cell? ⟨bx, j, none⟩ = (#[.string nm, .int .i64 nd, .int .i64 kd] : Array Value)[j]?) := Lib.hid fun j => by
      rw [hw5, World.cell?_alloc_lt _ _ _ (by show bx < _; simp; omega), World.cell?_of_block (w := w4) (Below.heap_setCell _ _ _ _ (Ne.symm nbx))]
      exact CX4.out j
    have H5 : Hid (DirAt w5 b (some r5) g 0) := Lib.hid (by
      have := DirAt.made H4.out HGN.out hr5
      rw [hw5, ← hr5]
      exact this)
    have T5 : Hid (Touch (OwnD b m) w w5) := Lib.hid (by
      rw [hw5]
      exact Touch.alloc (Touch.setCell (Touch.of_below HB4.out _) (.inl (.inl rfl)) _) _)
    have O5 : Hid (∀ x, OwnD b (some r5) x → OwnD b m x ∨ w.heap.size ≤ x) := Lib.hid (by
      rintro x (rfl | hx)
      · exact .inl (.inl rfl)
      · injection hx with hx
        have := HB4.out.size
        exact .inr (by omega))
    clear hw5 hr5 H4 CX4 HB4 hc2 hf2 hlt2 HE4
    have x0 : w5.cell? ⟨bx, 0, none⟩ = some (.string nm) := by rw [A5.out 0]; rfl
    have x1 : w5.cell? ⟨bx, 1, none⟩ = some (.int .i64 nd) := by rw [A5.out 1]; rfl
    have x2 : w5.cell? ⟨bx, 2, none⟩ = some (.int .i64 kd) := by rw [A5.out 2]; rfl
    have S : ∀ w', Below w5.heap.size w5 w' → w'.cell? ⟨b, 0, none⟩ = some (.map (some r5)) ∧ w'.cell? ⟨bx, 0, none⟩ = some (.string nm) ∧ w'.cell? ⟨bx, 1, none⟩ = some (.int .i64 nd) ∧ w'.cell? ⟨bx, 2, none⟩ = some (.int .i64 kd) := by
      intro w' hb
      obtain ⟨hc, _⟩ := bcell hb
      exact ⟨(H5.out.below hb).1, (hc _ _ lx5).trans x0, (hc _ _ lx5).trans x1, (hc _ _ lx5).trans x2⟩
    clear x0 x1 x2 A5
    apply wp_region_tail 7 _ (by kernel_rfl) (by kernel_rfl) (by kernel_rfl) (by decide) (fun w' => Below w5.heap.size w5 w') (fun w' w'' => Below w'.heap.size w' w'') (fun w' w'' h1 h2 => bl_trans h1 h2) (Below.refl _ _).drew
    simp only [List.take_succ_cons, List.take_zero, List.drop_succ_cons, List.drop_zero]
    repeat (first
      | (apply wpRel_skip (by rfl)
         simp only [Act.put, List.setIfInBounds_toArray, List.set_cons_zero, List.set_cons_succ])
      | (apply wpRel_fix (by rfl)
         · intro w' hC hf R hR
           go_simp
           exact hR _ (Below.refl _ _)
         simp only [Act.put, List.setIfInBounds_toArray, List.set_cons_zero, List.set_cons_succ]))
    refine wpRel_nil (fun w6 hC hf => ?_)
    clear S hf
    have H6 := H5.out.below hC
    apply wpList_upd rfl _ _ _ _ rfl
    · exact H6.2.2.2.2.put kdStr Tryz.underlying188 str_inj HLK.out ⟨nm, nd, kd⟩
    rw [if_neg (by rw [hgs]; decide)]
    rintro w7 ⟨hm7, ht7⟩
    have H7 := Lib.hid (H6.turned hm7 ht7)
    have T7 := Lib.hid ((T5.out.then hC).trans (S' := fun x => x = r5) (Touch.of_turned ht7) (fun x hx hl => (O5.out x (.inr (by rw [hx]))).resolve_right (by omega)))
    clear hm7 ht7 hC H6
    go_wp2
    go_ret
    exact ⟨rfl, some r5, H7.out, T7.out, O5.out⟩
  · have hz : ((n : Int) == 0) = false := by rw [beq_eq_false_iff_ne]; omega
    obtain ⟨r5, rfl⟩ : ∃ r, m = some r := by
      have h4 := H4.out.2.2.2
      cases m with
      | none => exact (hn h4.1).elim
      | some r => exact ⟨r, rfl⟩
    go_wp2_with (at_len; refine wpList_mlen rfl _ _ rfl (dir_len H4.out _) ?_)
    have lx5 := lx4
    have A5 := CX4
    have H5 := H4
    have T5 : Hid (Touch (OwnD b (some r5)) w w4) := Lib.hid (Touch.of_below HB4.out _)
    have O5 : Hid (∀ x, OwnD b (some r5) x → OwnD b (some r5) x ∨ w.heap.size ≤ x) := Lib.hid fun x hx => .inl hx
    clear H4 CX4 HB4 hc2 hf2 hlt2 HE4 lx4
    have x0 : w4.cell? ⟨bx, 0, none⟩ = some (.string nm) := by rw [A5.out 0]; rfl
    have x1 : w4.cell? ⟨bx, 1, none⟩ = some (.int .i64 nd) := by rw [A5.out 1]; rfl
    have x2 : w4.cell? ⟨bx, 2, none⟩ = some (.int .i64 kd) := by rw [A5.out 2]; rfl
    have S : ∀ w', Below w4.heap.size w4 w' → w'.cell? ⟨b, 0, none⟩ = some (.map (some r5)) ∧ w'.cell? ⟨bx, 0, none⟩ = some (.string nm) ∧ w'.cell? ⟨bx, 1, none⟩ = some (.int .i64 nd) ∧ w'.cell? ⟨bx, 2, none⟩ = some (.int .i64 kd) := by
      intro w' hb
      obtain ⟨hc, _⟩ := bcell hb
      exact ⟨(H5.out.below hb).1, (hc _ _ lx5).trans x0, (hc _ _ lx5).trans x1, (hc _ _ lx5).trans x2⟩
    clear x0 x1 x2 A5
    apply wp_region_tail 7 _ (by kernel_rfl) (by kernel_rfl) (by kernel_rfl) (by decide) (fun w' => Below w4.heap.size w4 w') (fun w' w'' => Below w'.heap.size w' w'') (fun w' w'' h1 h2 => bl_trans h1 h2) (Below.refl _ _).drew
    simp only [List.take_succ_cons, List.take_zero, List.drop_succ_cons, List.drop_zero]
    repeat (first
      | (apply wpRel_skip (by rfl)
         simp only [Act.put, List.setIfInBounds_toArray, List.set_cons_zero, List.set_cons_succ])
      | (apply wpRel_fix (by rfl)
         · intro w' hC hf R hR
           go_simp
           exact hR _ (Below.refl _ _)
         simp only [Act.put, List.setIfInBounds_toArray, List.set_cons_zero, List.set_cons_succ]))
    refine wpRel_nil (fun w6 hC hf => ?_)
    clear S hf
    have H6 := H5.out.below hC
    apply wpList_upd rfl _ _ _ _ rfl
    · exact H6.2.2.2.2.put kdStr Tryz.underlying188 str_inj HLK.out ⟨nm, nd, kd⟩
    rw [if_neg (by rw [hgs]; decide)]
    rintro w7 ⟨hm7, ht7⟩
    have H7 := Lib.hid (H6.turned hm7 ht7)
    have T7 := Lib.hid ((T5.out.then hC).trans (S' := fun x => x = r5) (Touch.of_turned ht7) (fun x hx hl => (O5.out x (.inr (by rw [hx]))).resolve_right (by omega)))
    clear hm7 ht7 hC H6
    go_wp2
    go_ret
    exact ⟨rfl, some r5, H7.out, T7.out, O5.out⟩
end
end Go.Proofs.YtjekpbkmhgfhoaaGreatDoor
end
