/- Merged texts: Path PathCut Concat Goes TreeReg TreeLast TreeFn TreeFn2 TreeFn3 TreeFn4. -/
import Derived.Test.YtjekpbkmhgfhoaaGreatDoorGBase22
import Derived.Test.YtjekpbkmhgfhoaaGreatDoorGBase21
import Derived.Test.YtjekpbkmhgfhoaaGreatDoorPathS
import Derived.Test.YtjekpbkmhgfhoaaGreatDoorGBase24
import Derived.Test.YtjekpbkmhgfhoaaGreatDoorGBase09
section
/- The walks of package path: Parse, Split. -/
namespace Go.Proofs.YtjekpbkmhgfhoaaGreatDoor
open Go Go.RowKit
set_option maxRecDepth 100000
set_option linter.unusedSimpArgs false
set_option linter.unusedVariables false
attribute [local go_sem] giv
variable {E : Nat → Addr} {B : Nat}

/-- The errors, and the length that bytealg keeps. -/
structure EnvM (E : Nat → Addr) (B : Nat) (w : World) : Prop extends Env E B w where
  max : ∃ m, w.cell? ⟨25, 0, none⟩ = some (.int .i64 m)
  mlt : 25 < B
theorem EnvM.keep {w w' : World} (h : EnvM E B w) (hb : Below B w w') : EnvM E B w' :=
  ⟨h.toEnv.keep hb, by obtain ⟨m, hm⟩ := h.max; exact ⟨m, (hb.cell (p := ⟨25, 0, none⟩) h.mlt).trans hm⟩, h.mlt⟩
theorem EnvM.below {w w' : World} (h : EnvM E B w) (hb : Below w.heap.size w w') : EnvM E B w' := h.keep (hb.mono h.size)
theorem EnvM.alloc {w : World} (h : EnvM E B w) (o : Obj) : EnvM E B (w.alloc o) := h.keep ((Below.refl _ _).alloc h.size o)

theorem split_any (s : ByteArray) (hs : s.size ≤ 1000000) (w : World) (hE : EnvM E B w) :
    Calls Tryz.prog 98 #[.string s, .string ⟨#[47]⟩] w fun e w' =>
      e = .returned (.slice (some ⟨w.heap.size, 0, none⟩) (pcs s).length (pcs s).length) ∧ w' = w.alloc (.cells ((pcs s).map Value.string).toArray 9) := by
  obtain ⟨m, hm⟩ := hE.max
  rw [pcs_len]
  exact Any.strings_Split Tryz.lays146 (by kernel_rfl) s ⟨#[47]⟩ m w (by omega) hm (by decide)

theorem path_code (s : ByteArray) : (parseP s).1 = 0 ∨ (101 ≤ (parseP s).1 ∧ (parseP s).1 ≤ 124) := by
  rcases parse_code s with h | h | h | h <;> rw [h] <;> omega
/-- What Parse answers. -/
def PathR (E : Nat → Addr) (s : ByteArray) (w : World) (e : Ending) (w' : World) : Prop :=
  (∃ v, e = .returned (.tuple #[.agg #[v, .bool (parseP s).2.slash], errOf E (parseP s).1]) ∧ SlS w' w.heap.size v (parseP s).2.parts) ∧ Below w.heap.size w w'
theorem parse_empty (w : World) (hE : EnvM E B w) : Calls Tryz.prog 52 #[.string ⟨#[]⟩] w (PathR E ⟨#[]⟩ w) := by
  have e1 := hE.cell 0 (by decide)
  have l1 : 0 < w.heap.size := Nat.lt_of_lt_of_le (hE.glt _ (by decide)) hE.size
  have c1 : errOf E 109 = errV E 0 := errOf_code (g := 0) (by decide)
  generalize hP : PathR E ⟨#[]⟩ w = Post
  have HP := Lib.hid hP
  have C1 := Lib.hid c1
  clear hP c1 hE
  go_enter Tryz.func52, Tryz.ntmps52
  go_wp2
  go_region
  go_wp2
  rw [← HP.out]
  refine bodyPost_ret (v := .tuple #[.agg #[.slice none 0 0, .bool false], errV E 0]) (by simp [results, Tryz.results52, go_sem]) rfl ⟨⟨.slice none 0 0, ?_, SlE.nil _ _ _ _ _⟩, ?_⟩
  · rw [← C1.out]; rfl
  · repeat (first | exact Below.refl _ _ | refine bl_alloc ?_ _ | refine Below.drew ?_)

theorem ne_list {s : ByteArray} (h : s.data.toList ≠ []) : s.toList.isEmpty = false := by
  rw [ByteArray.toList_eq]; cases hs : s.data.toList with
  | nil => exact absurd hs h
  | cons a l => rfl
theorem parse_long (s : ByteArray) (h0 : s.data.toList ≠ []) (h : 256 < s.size) (w : World) (hE : EnvM E B w) : Calls Tryz.prog 52 #[.string s] w (PathR E s w) := by
  have e1 := hE.cell 8 (by decide)
  have l1 : 8 < w.heap.size := Nat.lt_of_lt_of_le (hE.glt _ (by decide)) hE.size
  have c1 : errOf E 115 = errV E 8 := errOf_code (g := 8) (by decide)
  have hp : parseP s = (115, noPth) := by unfold parseP; rw [if_neg h0, if_pos h]
  have h0' : ¬ s.toList = [] := by rw [ByteArray.toList_eq]; exact h0
  have h0'' := ne_list h0
  have h1' : (256 : Int) < s.size := by omega
  generalize hP : PathR E s w = Post
  have HP := Lib.hid hP
  have C1 := Lib.hid c1
  have HQ := Lib.hid hp
  clear hP c1 hE hp h h0
  go_enter Tryz.func52, Tryz.ntmps52
  go_wp2
  go_region
  go_wp2
  rw [← HP.out]
  unfold PathR
  rw [HQ.out]
  refine bodyPost_ret (v := .tuple #[.agg #[.slice none 0 0, .bool false], errV E 8]) (by simp [results, Tryz.results52, go_sem]) rfl ⟨⟨.slice none 0 0, ?_, SlE.nil _ _ _ _ _⟩, ?_⟩
  · rw [← C1.out]; rfl
  · repeat (first | exact Below.refl _ _ | refine bl_alloc ?_ _ | refine Below.drew ?_)
theorem first_byte {s : ByteArray} (h : 0 < s.size) : s.data.toList.head? = some s[0] := by
  rw [List.head?_eq_getElem?, List.getElem?_eq_getElem (by simpa using h)]
  rfl
theorem size_pos {s : ByteArray} (h : s.data.toList ≠ []) : 0 < s.size := by
  have : s.data.toList.length = s.size := Array.length_toList
  have := List.length_pos_iff.2 h
  omega
theorem parse_rel (s : ByteArray) (h0 : s.data.toList ≠ []) (h : s.size ≤ 256) (hr : s.data.toList.head? ≠ some 47) (w : World) (hE : EnvM E B w) : Calls Tryz.prog 52 #[.string s] w (PathR E s w) := by
  have e1 := hE.cell 3 (by decide)
  have l1 : 3 < w.heap.size := Nat.lt_of_lt_of_le (hE.glt _ (by decide)) hE.size
  have c1 : errOf E 114 = errV E 3 := errOf_code (g := 3) (by decide)
  have hp : parseP s = (114, noPth) := by unfold parseP; rw [if_neg h0, if_neg (by omega), if_pos (.inl hr)]
  have h0' : ¬ s.toList = [] := by rw [ByteArray.toList_eq]; exact h0
  have h0'' := ne_list h0
  have h1' : ¬ (256 : Int) < s.size := by omega
  have hpos := size_pos h0
  have hq : ¬ ((s[0].toNat : Int) = 47) := fun e => hr (by rw [first_byte hpos]; congr 1; exact UInt8.toNat_inj.1 (by simpa using (by omega : s[0].toNat = 47)))
  have hq2 : ((s[0].toNat : Int) != 47) = true := by rw [bne_iff_ne]; exact hq
  generalize hP : PathR E s w = Post
  have HP := Lib.hid hP
  have C1 := Lib.hid c1
  have HQ := Lib.hid hp
  have HR := Lib.hid hr
  clear hP c1 hE hp h h0 hr
  go_enter Tryz.func52, Tryz.ntmps52
  go_wp2
  go_region
  go_wp2
  rw [← HP.out]
  unfold PathR
  rw [HQ.out]
  refine bodyPost_ret (v := .tuple #[.agg #[.slice none 0 0, .bool false], errV E 3]) (by simp [results, Tryz.results52, go_sem]) rfl ⟨⟨.slice none 0 0, ?_, SlE.nil _ _ _ _ _⟩, ?_⟩
  · rw [← C1.out]; rfl
  · repeat (first | exact Below.refl _ _ | refine bl_alloc ?_ _ | refine Below.drew ?_)
theorem parse_nul (s : ByteArray) (h0 : s.data.toList ≠ []) (h : s.size ≤ 256) (hr : s.data.toList.head? = some 47) (hz : s.data.toList.contains 0 = true) (w : World) (hE : EnvM E B w) : Calls Tryz.prog 52 #[.string s] w (PathR E s w) := by
  have e1 := hE.cell 3 (by decide)
  have l1 : 3 < w.heap.size := Nat.lt_of_lt_of_le (hE.glt _ (by decide)) hE.size
  have c1 : errOf E 114 = errV E 3 := errOf_code (g := 3) (by decide)
  have hp : parseP s = (114, noPth) := by unfold parseP; rw [if_neg h0, if_neg (by omega), if_pos (.inr hz)]
  have h0' : ¬ s.toList = [] := by rw [ByteArray.toList_eq]; exact h0
  have h0'' := ne_list h0
  have h1' : ¬ (256 : Int) < s.size := by omega
  have hpos := size_pos h0
  have hq : (s[0].toNat : Int) = 47 := by
    rw [first_byte hpos] at hr
    injection hr with hr
    rw [hr]
    rfl
  have hq2 : ((s[0].toNat : Int) != 47) = false := by rw [hq]; rfl
  generalize hP : PathR E s w = Post
  have HP := Lib.hid hP
  have C1 := Lib.hid c1
  have HQ := Lib.hid hp
  have HZ := Lib.hid hz
  clear hP c1 hE hp h h0 hr hz
  go_enter Tryz.func52, Tryz.ntmps52
  go_wp2_with fail
  refine (contains_one _ _ _).mono ?_
  rintro e w1 ⟨rfl, rfl⟩
  rw [HZ.out]
  go_wp2
  go_region
  go_wp2
  rw [← HP.out]
  unfold PathR
  rw [HQ.out]
  refine bodyPost_ret (v := .tuple #[.agg #[.slice none 0 0, .bool false], errV E 3]) (by simp [results, Tryz.results52, go_sem]) rfl ⟨⟨.slice none 0 0, ?_, SlE.nil _ _ _ _ _⟩, ?_⟩
  · rw [← C1.out]; rfl
  · repeat (first | exact Below.refl _ _ | refine bl_alloc ?_ _ | refine Below.drew ?_)

theorem last_byte {s : ByteArray} (h : 0 < s.size) : lastSlash s.data.toList = ((s[s.size - 1].toNat : Int) == 47) := by
  have h1 : s.data.toList.length = s.size := Array.length_toList
  have h2 : s.data.toList.getLast? = some s[s.size - 1] := by
    rw [List.getLast?_eq_getElem?, h1, List.getElem?_eq_getElem (by omega)]
    rfl
  unfold lastSlash
  rw [h2]
  simp only
  generalize s[s.size - 1] = c
  by_cases hc : c = 47
  · subst hc; rfl
  · have : ¬ ((c.toNat : Int) = 47) := fun e => hc (UInt8.toNat_inj.1 (by simpa using (by omega : c.toNat = 47)))
    rw [beq_eq_false_iff_ne.2 hc, beq_eq_false_iff_ne.2 this]
/-- A path's parts kept in a block of their own: a part more. -/
theorem par_step {w3 wr w' : World} {P : Nat} {v v' : Value} {acc : List ByteArray} {x : ByteArray} {o : Obj} (hP : P < w3.heap.size) (hs : SlS wr w3.heap.size v acc) (ht : Touch (fun y => y = P) w3 wr)
    (hf : ∀ o, wr.frozen? ⟨P, o, none⟩ = false) (hs' : SlS w' w3.heap.size v' (acc ++ [x])) (ht' : Touch (fun y => v.ownBlock = some y) (wr.alloc o) w') :
    (∀ o, w'.cell? ⟨P, o, none⟩ = wr.cell? ⟨P, o, none⟩) ∧ (∀ o, w'.frozen? ⟨P, o, none⟩ = false) ∧ P < w'.heap.size ∧ SlS (w'.setCell ⟨P, 0, none⟩ v') w3.heap.size v' (acc ++ [x]) ∧
      Touch (fun y => y = P) w3 (w'.setCell ⟨P, 0, none⟩ v') := by
  have hsz := ht.size
  have t1 : Touch (fun y => y = P) w3 w' := (ht.alloc o).trans ht' (fun y hy hl => by have := (SlE.lt hs y hy).1; omega)
  have hb : Below w3.heap.size (wr.alloc o) w' := ht'.below (by simp; omega) (fun y hy => (SlE.lt hs y hy).1)
  have ha : Below wr.heap.size wr (wr.alloc o) := bl_alloc (Below.refl _ _) _
  have h2 : Below w3.heap.size wr w' := (ha.mono hsz).trans hb
  have ne : ∀ y, v'.ownBlock = some y → ¬ y = P := fun y hy => by have := (SlE.lt hs' y hy).1; omega
  refine ⟨fun o => h2.cell (p := ⟨P, o, none⟩) hP, fun o => (h2.frozen (p := ⟨P, o, none⟩) hP).trans (hf o), Nat.lt_of_lt_of_le (Nat.lt_of_lt_of_le hP hsz) h2.size, ?_, ?_⟩
  · exact hs'.touch (S := fun y => y = P) (Touch.setCell (S := fun y => y = P) (p := ⟨P, 0, none⟩) (Touch.refl _ _) (.inl rfl) _) ne
  · exact Touch.setCell t1 (.inl rfl) _

set_option maxHeartbeats 1000000 in
theorem parse_main (s : ByteArray) (h0 : s.data.toList ≠ []) (h : s.size ≤ 256) (hr : s.data.toList.head? = some 47) (hz : s.data.toList.contains 0 = false) (w : World) (hE : EnvM E B w) : Calls Tryz.prog 52 #[.string s] w (PathR E s w) := by
  have e1 := hE.cell 8 (by decide)
  have l1 : 8 < w.heap.size := Nat.lt_of_lt_of_le (hE.glt _ (by decide)) hE.size
  have c1 : errOf E 115 = errV E 8 := errOf_code (g := 8) (by decide)
  have hp := parseP_pcs h0 h hr hz
  have h0' : ¬ s.toList = [] := by rw [ByteArray.toList_eq]; exact h0
  have h0'' := ne_list h0
  have h1' : ¬ (256 : Int) < s.size := by omega
  have hpos := size_pos h0
  have hq : (s[0].toNat : Int) = 47 := by
    rw [first_byte hpos] at hr
    injection hr with hr
    rw [hr]
    rfl
  have hq2 : ((s[0].toNat : Int) != 47) = false := by rw [hq]; rfl
  have hlen : (pcs s).length ≤ 257 := by have := pcs_le s; omega
  generalize hP : PathR E s w = Post
  have HP := Lib.hid hP
  have C1 := Lib.hid c1
  have HQ := Lib.hid hp
  have HZ := Lib.hid hz
  have HE := Lib.hid hE
  have HS : Hid (s.size ≤ 1000000) := Lib.hid (by omega)
  clear hP c1 hE hp h h0 hr hz
  go_enter Tryz.func52, Tryz.ntmps52
  go_wp2_with fail
  refine (contains_one _ _ _).mono ?_
  rintro e w1 ⟨rfl, rfl⟩
  rw [HZ.out]
  go_wp2_with fail
  refine (split_any s HS.out _ ((HE.out.alloc _).alloc _)).mono ?_
  rintro e w3 ⟨rfl, hw3⟩
  obtain ⟨wa, hwa⟩ : ∃ wa, wa = w.alloc (.cells #[.slice none 0 0, .bool false] 120) := ⟨_, rfl⟩
  obtain ⟨wb, hwb⟩ : ∃ wb, wb = wa.alloc (.cells #[.slice none 0 0, .bool false] 120) := ⟨_, rfl⟩
  rw [← hwa, ← hwb] at hw3
  have sa : wa.heap.size = w.heap.size + 1 := by rw [hwa]; simp
  have sb : wb.heap.size = w.heap.size + 1 + 1 := by rw [hwb]; simp; omega
  have s3 : w3.heap.size = w.heap.size + 3 := by rw [hw3]; simp; omega
  have kb : Below wb.heap.size wb w3 := by rw [hw3]; exact bl_alloc (Below.refl _ _) _
  have ka : Below wa.heap.size wa w3 := Below.trans (by rw [hwb]; exact bl_alloc (Below.refl _ _) _) (kb.mono (by omega))
  have k3 : Below w.heap.size w w3 := Below.trans (by rw [hwa]; exact bl_alloc (Below.refl _ _) _) (ka.mono (by omega))
  have a0 : w3.cell? ⟨w.heap.size, 0, none⟩ = some (.slice none 0 0) := (ka.cell (p := ⟨w.heap.size, 0, none⟩) (by simp; omega)).trans (by rw [hwa]; simp)
  have a1 : w3.cell? ⟨w.heap.size, 1, none⟩ = some (.bool false) := (ka.cell (p := ⟨w.heap.size, 1, none⟩) (by simp; omega)).trans (by rw [hwa]; simp)
  have fa : ∀ o, w3.frozen? ⟨w.heap.size, o, none⟩ = false := fun o => (ka.frozen (p := ⟨w.heap.size, o, none⟩) (by simp; omega)).trans (by rw [hwa]; simp)
  have b0 : w3.cell? ⟨wa.heap.size, 0, none⟩ = some (.slice none 0 0) := (kb.cell (p := ⟨wa.heap.size, 0, none⟩) (by simp; omega)).trans (by rw [hwb]; simp)
  have b1 : w3.cell? ⟨wa.heap.size, 1, none⟩ = some (.bool false) := (kb.cell (p := ⟨wa.heap.size, 1, none⟩) (by simp; omega)).trans (by rw [hwb]; simp)
  have fb : ∀ o, w3.frozen? ⟨wa.heap.size, o, none⟩ = false := fun o => (kb.frozen (p := ⟨wa.heap.size, o, none⟩) (by simp; omega)).trans (by rw [hwb]; simp)
  have row : ∀ j (hj : j < (pcs s).length), w3.cell? ⟨wb.heap.size, j, none⟩ = some (.string (pcs s)[j]) := by intro j hj; rw [hw3]; simp [hj]
  clear kb ka
  clear hw3
  rw [sa] at b0 b1 fb
  rw [sb] at row
  clear hwa hwb sa sb
  go_wp2_with fail
  go_loopw [6, 31] (fun x i wr => ∃ (j : Nat) (acc : List ByteArray) (v : Value), j ≤ (pcs s).length ∧ i = .int .i64 j ∧ wr.cell? ⟨w.heap.size + 1, 0, none⟩ = some v ∧ Hid (SlS wr w3.heap.size v acc ∧ Touch (fun y => y = w.heap.size + 1) w3 wr ∧ partsB (pcs s) = (partsB ((pcs s).drop j)).map (acc ++ ·) ∧ wr.cell? ⟨w.heap.size + 1, 1, none⟩ = some (.bool false) ∧ (∀ o, wr.frozen? ⟨w.heap.size + 1, o, none⟩ = false) ∧ acc.length ≤ j)) (fun _ i _ => (pcs s).length - (intOf i).toNat)
  case atStart => exact ⟨0, [], .slice none 0 0, Nat.zero_le _, rfl, b0, Lib.hid ⟨SlE.nil _ _ _ _ _, Touch.refl _ _, by cases h : partsB (pcs s) <;> simp [h], b1, fb, Nat.le_refl _⟩⟩
  case round =>
    obtain ⟨j, acc, v, hj, rfl, cv, HI⟩ := hrel
    have hsz := HI.out.2.1.size
    have hPR : ¬ w.heap.size + 1 + 1 = w.heap.size + 1 := by omega
    have hRl : w.heap.size + 1 + 1 < w3.heap.size := by omega
    have hPl : w.heap.size + 1 < wr.heap.size := by omega
    have hAl : w.heap.size < wr.heap.size := by omega
    have hAP : ¬ w.heap.size = w.heap.size + 1 := by omega
    have cb := HI.out.2.2.2.1
    have cf := HI.out.2.2.2.2.1
    have cl := HI.out.2.2.2.2.2
    have ca0 : wr.cell? ⟨w.heap.size, 0, none⟩ = some (.slice none 0 0) := (HI.out.2.1.cell (p := ⟨w.heap.size, 0, none⟩) (by simp; omega) hAP).trans a0
    have ca1 : wr.cell? ⟨w.heap.size, 1, none⟩ = some (.bool false) := (HI.out.2.1.cell (p := ⟨w.heap.size, 1, none⟩) (by simp; omega) hAP).trans a1
    have cfa : ∀ o, wr.frozen? ⟨w.heap.size, o, none⟩ = false := fun o => (HI.out.2.1.frozen (p := ⟨w.heap.size, o, none⟩) (by simp; omega) hAP).trans (fa o)
    have hB : Below w.heap.size w wr := k3.trans (HI.out.2.1.below (by omega) (fun x hx => by omega))
    have ce1 : wr.cell? ⟨8, 0, none⟩ = some (errV E 8) := (hB.cell (p := ⟨8, 0, none⟩) l1).trans e1
    have cl1 : 8 < wr.heap.size := by omega
    have HB := Lib.hid hB
    clear hB
    by_cases hlt : j < (pcs s).length
    · have hd : (pcs s).drop j = (pcs s)[j] :: (pcs s).drop (j + 1) := List.drop_eq_getElem_cons hlt
      have cx : wr.cell? ⟨w.heap.size + 1 + 1, j, none⟩ = some (.string (pcs s)[j]) := (HI.out.2.1.cell (p := ⟨w.heap.size + 1 + 1, j, none⟩) hRl hPR).trans (row j hlt)
      have HD := Lib.hid hd
      have hj0 : (0 : Int) ≤ (j : Int) := by omega
      have hj1 : (j : Int) < ((pcs s).length : Int) := by omega
      clear hd row a0 a1 fa b0 b1 fb e1
      generalize (pcs s)[j] = x at *
      by_cases c1 : x.data.toList = []
      · have x1 : x.toList = [] := by rw [ByteArray.toList_eq]; exact c1
        have HS1 := Lib.hid (parts_skip (l := (pcs s).drop (j + 1)) (.inl c1))
        clear c1
        go_wp2
        go_roundw
        case rel => exact ⟨j + 1, acc, v, by omega, by go_num, cv, Lib.hid ⟨HI.out.1, HI.out.2.1, by rw [HI.out.2.2.1, HD.out, HS1.out], cb, cf, by omega⟩⟩
        case measure => simp [intOf]; omega
      have x1 : ¬ x.toList = [] := by rw [ByteArray.toList_eq]; exact c1
      have x1' := ne_list c1
      by_cases c2 : x.data.toList = [46]
      · have x2 : x.toList = [46] := by rw [ByteArray.toList_eq]; exact c2
        have x2' : (x.toList == [46]) = true := by rw [x2]; rfl
        have HS1 := Lib.hid (parts_skip (l := (pcs s).drop (j + 1)) (.inr c2))
        clear c1 c2
        go_wp2
        go_roundw
        case rel => exact ⟨j + 1, acc, v, by omega, by go_num, cv, Lib.hid ⟨HI.out.1, HI.out.2.1, by rw [HI.out.2.2.1, HD.out, HS1.out], cb, cf, by omega⟩⟩
        case measure => simp [intOf]; omega
      have x2 : (x.toList == [46]) = false := by rw [beq_eq_false_iff_ne, ByteArray.toList_eq]; exact c2
      by_cases c3 : 24 < x.size
      · have HS1 := Lib.hid (parts_long (l := (pcs s).drop (j + 1)) (by rintro (h | h) <;> contradiction) c3)
        have x3 : (24 : Int) < x.size := by omega
        have HQ' : Hid (parseP s = (115, noPth)) := Lib.hid (by rw [HQ.out, HI.out.2.2.1, HD.out, HS1.out]; rfl)
        clear c1 c2 c3 x1
        go_wp2
        go_region
        go_wp2
        rw [← HP.out]
        unfold PathR
        rw [HQ'.out]
        refine bodyPost_ret (v := .tuple #[.agg #[.slice none 0 0, .bool false], errV E 8]) (by simp [results, Tryz.results52, go_sem, ca0, ca1]) rfl ⟨⟨.slice none 0 0, ?_, SlE.nil _ _ _ _ _⟩, ?_⟩
        · rw [← C1.out]; rfl
        · exact HB.out.trans (Touch.below (S := fun y => y = w.heap.size) (Touch.drew (Touch.setCell (S := fun y => y = w.heap.size) (p := ⟨w.heap.size, 1, none⟩) (Touch.setCell (S := fun y => y = w.heap.size) (p := ⟨w.heap.size, 0, none⟩) (Touch.refl _ _) (.inl rfl) _) (.inl rfl) _)) (by omega) (fun y hy => by omega))
      have x3 : ¬ (24 : Int) < x.size := by omega
      have HS1 := Lib.hid (parts_cons (l := (pcs s).drop (j + 1)) (x := x) (by rintro (h | h) <;> contradiction) (by omega))
      have HX := Lib.hid (show acc.length + 1 ≤ 1000000 by omega)
      have HOWN := Lib.hid (SlE.below HI.out.1 (bl_alloc (Below.refl _ wr) (.cells #[.string x] 9)))
      have HROW : Hid (RdS (wr.alloc (.cells #[.string x] 9)) (.slice (some ⟨wr.heap.size, 0, none⟩) 1 1) [x]) := Lib.hid (RdE.one (x := x) (Row.new wr 9 (encS x)))
      have HBS : Hid (w3.heap.size ≤ (wr.alloc (.cells #[.string x] 9)).heap.size) := Lib.hid (Nat.le_trans hsz (by simp))
      clear c1 c2 c3
      go_wp2_with (at_builtin; refine wpList_app strT rfl _ _ rfl rfl HOWN.out rfl HROW.out (small_max (by have := HX.out; simpa using this)) (by have := HX.out; simp; omega) HBS.out ?_; intro v' w' hs' ht'; obtain ⟨cw0, cwf, cwl, HS', HT'⟩ := par_step (v := v) (by omega) HI.out.1 HI.out.2.1 cf hs' ht'; obtain ⟨g', cap', rfl, -⟩ := SlE.ne hs' (by simp); have cwA := (cw0 0).trans cv; have cwB := (cw0 1).trans cb; clear cw0; rw [List.length_append, List.length_singleton] at HS' HT'; have HS' := Lib.hid HS'; have HT' := Lib.hid HT'; clear hs' ht')
      go_roundw
      case rel =>
        refine ⟨j + 1, acc ++ [x], _, by omega, by go_num, World.cell?_setCell_same _ _ _ cwA, Lib.hid ⟨HS'.out, HT'.out, ?_, (World.cell?_setCell_other _ _ _ _ (by intro h; cases h)).trans cwB, by simp [cwf], by simp; omega⟩⟩
        rw [HI.out.2.2.1, HD.out, HS1.out]
        cases partsB (List.drop (j + 1) (pcs s)) <;> simp
      case measure => simp [intOf]; omega
    · obtain rfl : j = (pcs s).length := by omega
      have hp : parseP s = (0, ⟨acc, !acc.isEmpty && lastSlash s.data.toList⟩) := by
        rw [HQ.out, HI.out.2.2.1, List.drop_length, parts_nil]
        simp
      have HQ' := Lib.hid hp
      have hv : ∃ sp cap, v = .slice sp acc.length cap := by
        rcases HI.out.1.cases with ⟨h1, h2⟩ | ⟨g, cap, h1, -⟩
        · exact ⟨none, 0, by rw [h1, h2]; rfl⟩
        · exact ⟨_, _, h1⟩
      obtain ⟨sp, cap, rfl⟩ := hv
      have fin : ∀ (b : Bool), parseP s = (0, ⟨acc, b⟩) → PathR E s w (.returned (.tuple #[.agg #[.slice sp acc.length cap, .bool b], .nilIface])) (((wr.setCell { block := w.heap.size + 1, off := 1 } (Value.bool b)).setCell { block := w.heap.size, off := 0 } (.slice sp acc.length cap)).setCell { block := w.heap.size, off := 1 } (Value.bool b)) := by
        intro b hb
        have t : Touch (fun y => y = w.heap.size + 1 ∨ y = w.heap.size) wr (((wr.setCell { block := w.heap.size + 1, off := 1 } (Value.bool b)).setCell { block := w.heap.size, off := 0 } (.slice sp acc.length cap)).setCell { block := w.heap.size, off := 1 } (Value.bool b)) :=
          Touch.setCell (Touch.setCell (Touch.setCell (Touch.refl _ _) (.inl (.inl rfl)) _) (.inl (.inr rfl)) _) (.inl (.inr rfl)) _
        unfold PathR
        rw [hb]
        refine ⟨⟨.slice sp acc.length cap, rfl, (HI.out.1.touch t (fun y hy => ?_)).mono (by omega)⟩, HB.out.trans (t.below (by omega) (fun y hy => by omega))⟩
        have := (SlE.lt HI.out.1 y hy).1
        omega
      have FIN := Lib.hid fin
      clear hp row a0 a1 fa b0 b1 fb e1 fin
      by_cases hacc : acc = []
      · subst hacc
        have hl0 : (([] : List ByteArray).length : Int) = 0 := rfl
        go_wp2
        rw [← HP.out]
        refine bodyPost_ret (v := .tuple #[.agg #[.slice sp 0 cap, .bool false], .nilIface]) (by simp [results, Tryz.results52, go_sem, ca0, ca1]) rfl (FIN.out false ?_)
        rw [HQ'.out]
        rfl
      · have hl0 : (0 : Int) < acc.length := by have := List.length_pos_iff.2 hacc; omega
        have hl1 : ((acc.length : Int) > 0) := hl0
        have HL := Lib.hid (last_byte hpos)
        go_wp2
        rw [← HP.out]
        refine bodyPost_ret (v := .tuple #[.agg #[.slice sp acc.length cap, .bool ((s[s.size - 1].toNat : Int) == 47)], .nilIface]) (by simp [results, Tryz.results52, go_sem, ca0, ca1]) rfl (FIN.out _ ?_)
        rw [HQ'.out, HL.out]
        cases acc with
        | nil => exact absurd rfl hacc
        | cons a l => rfl
/-- Parse, of each text. -/
theorem parse_any (s : ByteArray) (w : World) (hE : EnvM E B w) : Calls Tryz.prog 52 #[.string s] w (PathR E s w) := by
  by_cases h0 : s.data.toList = []
  · obtain rfl : s = ⟨#[]⟩ := nm_ext' h0
    exact parse_empty w hE
  by_cases h1 : 256 < s.size
  · exact parse_long s h0 h1 w hE
  by_cases h2 : s.data.toList.head? = some 47
  · cases h3 : s.data.toList.contains 0 with
    | true => exact parse_nul s h0 (by omega) h2 h3 w hE
    | false => exact parse_main s h0 (by omega) h2 h3 w hE
  · exact parse_rel s h0 (by omega) h2 w hE
end Go.Proofs.YtjekpbkmhgfhoaaGreatDoor
end

section
/- The walk of package path's Split: what is ahead of a path's last part, and that. -/
namespace Go.Proofs.YtjekpbkmhgfhoaaGreatDoor
open Go Go.RowKit
set_option maxRecDepth 100000
set_option linter.unusedSimpArgs false
set_option linter.unusedVariables false
attribute [local go_sem] giv
variable {E : Nat → Addr} {B : Nat}

theorem slShape {α : Type} {w : World} {base : Nat} {e : TypeId} {k : Nat} {enc : α → List Value} {v : Value} {xs : List α} (h : SlE w base e k enc v xs) : ∃ sp cap, v = .slice sp xs.length cap := by
  rcases h.cases with ⟨h1, h2⟩ | ⟨g, cap, h1, -⟩
  · exact ⟨none, 0, by rw [h1, h2]; rfl⟩
  · exact ⟨_, _, h1⟩
/-- What Split answers. -/
def CutR (E : Nat → Addr) (p : Pth) (w : World) (e : Ending) (w' : World) : Prop :=
  ∃ v, e = .returned (.tuple #[.agg #[v, .bool false], .string (splitP p).2.2, errOf E (splitP p).1]) ∧ SlS w' w.heap.size v (splitP p).2.1 ∧ Below w.heap.size w w'
theorem psplit_nil {sp : Option Addr} {n cap : Nat} {w : World} (r : RdS w (.slice sp n cap) []) (slash : Bool) (hE : Env E B w) :
    Calls Tryz.prog 100 #[.agg #[.slice sp n cap, .bool slash]] w (CutR E ⟨[], slash⟩ w) := by
  have hn := r.len.1
  simp only [List.length_nil] at hn
  subst hn
  have e1 := hE.cell 3 (by decide)
  have l1 : 3 < w.heap.size := Nat.lt_of_lt_of_le (hE.glt _ (by decide)) hE.size
  have c1 : errOf E 114 = errV E 3 := errOf_code (g := 3) (by decide)
  generalize hP : CutR E ⟨[], slash⟩ w = Post
  have HP := Lib.hid hP
  have C1 := Lib.hid c1
  clear hP c1 hE r
  go_enter Tryz.func100, Tryz.ntmps100
  go_wp2
  go_region
  go_wp2
  rw [← HP.out]
  refine bodyPost_ret (v := .tuple #[.agg #[.slice none 0 0, .bool false], .string ⟨#[]⟩, errV E 3]) (by simp [results, Tryz.results100, go_sem]) rfl ⟨.slice none 0 0, ?_, SlE.nil _ _ _ _ _, ?_⟩
  · rw [← C1.out]; rfl
  · repeat (first | exact Below.refl _ _ | refine bl_alloc ?_ _ | refine Below.drew ?_)
theorem splitP_snoc (l : List ByteArray) (x : ByteArray) (b : Bool) : splitP ⟨l ++ [x], b⟩ = if isUp x then (114, [], noText) else (0, l, x) := by
  unfold splitP
  simp
theorem psplit_snoc {sp : Option Addr} {n cap : Nat} {l : List ByteArray} {x : ByteArray} {w : World} (r : RdS w (.slice sp n cap) (l ++ [x])) (hl : l.length + 1 ≤ 1000000) (slash : Bool) (hE : Env E B w) :
    Calls Tryz.prog 100 #[.agg #[.slice sp n cap, .bool slash]] w (CutR E ⟨l ++ [x], slash⟩ w) := by
  obtain ⟨hn, hncap⟩ := r.len
  rw [List.length_append, List.length_singleton] at hn
  subst hn
  have e1 := hE.cell 3 (by decide)
  have l1 : 3 < w.heap.size := Nat.lt_of_lt_of_le (hE.glt _ (by decide)) hE.size
  have c1 : errOf E 114 = errV E 3 := errOf_code (g := 3) (by decide)
  obtain ⟨h, off, rfl, hh, cx⟩ := RdS.cell r (j := l.length) (by simp)
  rw [List.getElem_concat_length rfl] at cx
  have hs := splitP_snoc l x slash
  have HL := Lib.hid (rd_take (m := l.length) r (by omega))
  rw [List.take_left] at HL
  have HK : Hid (l.length ≤ 1000000) := Lib.hid (by omega)
  have hwr : IntKind.i64.wrap (l.length : Int) = l.length := IntWalk.i64_in _ (by omega)
  have hb0 : (0 : Int) ≤ l.length := by omega
  have hb1 : (l.length : Int) ≤ cap := by omega
  have hb2 : (l.length : Int) < l.length + 1 := by omega
  have hz : ((l.length : Int) + 1 == 0) = false := by rw [beq_eq_false_iff_ne]; omega
  generalize hP : CutR E ⟨l ++ [x], slash⟩ w = Post
  have HP := Lib.hid hP
  have C1 := Lib.hid c1
  have HS := Lib.hid hs
  clear hP c1 hE r hs
  cases hu : isUp x with
  | true =>
    have hx : x.toList = [46, 46] := by rw [ByteArray.toList_eq]; simpa [isUp, dots] using hu
    have HU := Lib.hid hu
    clear hu
    go_enter Tryz.func100, Tryz.ntmps100
    go_wp2
    go_region
    go_wp2
    rw [← HP.out]
    unfold CutR
    rw [HS.out, HU.out]
    refine bodyPost_ret (v := .tuple #[.agg #[.slice none 0 0, .bool false], .string ⟨#[]⟩, errV E 3]) (by simp [results, Tryz.results100, go_sem]) rfl ⟨.slice none 0 0, ?_, SlE.nil _ _ _ _ _, ?_⟩
    · rw [← C1.out]; rfl
    · repeat (first | exact Below.refl _ _ | refine bl_alloc ?_ _ | refine Below.drew ?_)
  | false =>
    have hx : (x.toList == [46, 46]) = false := by rw [ByteArray.toList_eq]; exact hu
    have HU := Lib.hid hu
    clear hu
    go_enter Tryz.func100, Tryz.ntmps100
    go_wp2_with fail
    obtain ⟨wa, hwa⟩ : ∃ wa, wa = w.alloc (.cells #[.slice (some ⟨h, off, none⟩) (l.length + 1) cap, .bool slash] 120) := ⟨_, rfl⟩
    obtain ⟨w2, hw2⟩ : ∃ w2, w2 = wa.alloc (.cells #[.slice none 0 0, .bool false] 120) := ⟨_, rfl⟩
    have sa : wa.heap.size = w.heap.size + 1 := by rw [hwa]; simp
    have sb : w2.heap.size = w.heap.size + 1 + 1 := by rw [hw2]; simp; omega
    have ba : Below w.heap.size w wa := by rw [hwa]; exact bl_alloc (Below.refl _ _) _
    have bb : Below wa.heap.size wa w2 := by rw [hw2]; exact bl_alloc (Below.refl _ _) _
    have p0 : w2.cell? ⟨w.heap.size, 0, none⟩ = some (.slice (some ⟨h, off, none⟩) (l.length + 1) cap) := (bb.cell (p := ⟨w.heap.size, 0, none⟩) (by simp; omega)).trans (by rw [hwa]; simp)
    have a0 : w2.cell? ⟨w.heap.size + 1, 0, none⟩ = some (.slice none 0 0) := by rw [← sa, hw2]; simp
    have a1 : w2.cell? ⟨w.heap.size + 1, 1, none⟩ = some (.bool false) := by rw [← sa, hw2]; simp
    have fa : ∀ o, w2.frozen? ⟨w.heap.size + 1, o, none⟩ = false := by intro o; rw [← sa, hw2]; simp
    have b2 : Below w.heap.size w w2 := ba.trans (bb.mono (by omega))
    rw [← hwa, ← hw2]
    clear hwa hw2 ba bb
    have cx2 : w2.cell? ⟨h, off + l.length, none⟩ = some (.string x) := (b2.cell (p := ⟨h, off + l.length, none⟩) hh).trans cx
    obtain ⟨C, hC⟩ : ∃ C : World → Prop, C = fun w' => Touch (fun y => y = w.heap.size + 1) w2 w' ∧ (∃ y, w'.cell? ⟨w.heap.size + 1, 0, none⟩ = some y) ∧ (∃ y, w'.cell? ⟨w.heap.size + 1, 1, none⟩ = some y) ∧ ∀ o, w'.frozen? ⟨w.heap.size + 1, o, none⟩ = false := ⟨_, rfl⟩
    obtain ⟨St, hSt⟩ : ∃ St : World → Prop, St = fun w' => ∃ v, SlS w' w2.heap.size v l ∧ w'.cell? ⟨w.heap.size + 1, 0, none⟩ = some v ∧ w'.cell? ⟨w.heap.size + 1, 1, none⟩ = some (.bool false) := ⟨_, rfl⟩
    have S : ∀ w', C w' → w'.cell? ⟨w.heap.size, 0, none⟩ = some (.slice (some ⟨h, off, none⟩) (l.length + 1) cap) ∧ w'.cell? ⟨h, off + l.length, none⟩ = some (.string x) := by
      intro w' h1
      rw [hC] at h1
      exact ⟨(h1.1.cell (p := ⟨w.heap.size, 0, none⟩) (by simp; omega) (by simp)).trans p0, (h1.1.cell (p := ⟨h, off + l.length, none⟩) (by simp; omega) (by simp; omega)).trans cx2⟩
    have keep : ∀ v w' w'', SlS w' w2.heap.size v l → Touch (fun y => y = w.heap.size + 1) w' w'' → SlS w'' w2.heap.size v l := by
      intro v w' w'' h1 h2
      exact h1.touch h2 (fun y hy => by have := (SlE.lt h1 y hy).1; omega)
    have CL : Hid (∀ w', C w' → Calls Tryz.prog 134 #[.slice (some ⟨h, off, none⟩) l.length cap] w' fun e w'' => ∃ v, e = .returned v ∧ SlS w'' w2.heap.size v l ∧ (Touch (fun y => y = w.heap.size + 1) w' w'' ∧ (St w' → St w'') ∧ (C w' → C w''))) := Lib.hid (by
      intro w' h1
      rw [hC] at h1
      have hA : w.heap.size + 1 < w'.heap.size := by have := h1.1.size; omega
      refine (sclone_any ((HL.out.below b2).touch h1.1 (fun y hy => ?_)) HK.out).mono ?_
      · injection hy with hy
        subst hy
        simp
        omega
      rintro e w'' ⟨⟨v, rfl, hs⟩, hb⟩
      refine ⟨v, rfl, hs.mono h1.1.size, Touch.of_below hb _, fun h2 => ?_, fun h2 => ?_⟩
      · rw [hSt] at h2 ⊢
        obtain ⟨u, u1, u2, u3⟩ := h2
        exact ⟨u, u1.below hb, (hb.cell (p := ⟨w.heap.size + 1, 0, none⟩) hA).trans u2, (hb.cell (p := ⟨w.heap.size + 1, 1, none⟩) hA).trans u3⟩
      · rw [hC]
        obtain ⟨h3, ⟨y0, h4⟩, ⟨y1, h5⟩, h6⟩ := h1
        exact ⟨h3.then hb, ⟨y0, (hb.cell (p := ⟨w.heap.size + 1, 0, none⟩) hA).trans h4⟩, ⟨y1, (hb.cell (p := ⟨w.heap.size + 1, 1, none⟩) hA).trans h5⟩, fun o => (hb.frozen (p := ⟨w.heap.size + 1, o, none⟩) hA).trans (h6 o)⟩)
    have STO : Hid (∀ w' u, C w' → SlS w' w2.heap.size u l → ∀ w'', w'' = (w'.setCell ⟨w.heap.size + 1, 0, none⟩ u).setCell ⟨w.heap.size + 1, 1, none⟩ (.bool false) → St w'' ∧ (Touch (fun y => y = w.heap.size + 1) w' w'' ∧ (St w' → St w'') ∧ (C w' → C w''))) := Lib.hid (by
      intro w' u h1 h2 w'' he
      have t : Touch (fun y => y = w.heap.size + 1) w' w'' := by
        rw [he]
        exact Touch.setCell (S := fun y => y = w.heap.size + 1) (Touch.setCell (S := fun y => y = w.heap.size + 1) (Touch.refl _ _) (.inl rfl) _) (.inl rfl) _
      rw [hC] at h1
      obtain ⟨h3, ⟨y0, h4⟩, ⟨y1, h5⟩, h6⟩ := h1
      have r0 : w''.cell? ⟨w.heap.size + 1, 0, none⟩ = some u := by
        rw [he, World.cell?_setCell_other _ _ _ _ (by intro h; cases h)]
        exact World.cell?_setCell_same _ _ _ h4
      have r1 : w''.cell? ⟨w.heap.size + 1, 1, none⟩ = some (.bool false) := by
        rw [he]
        exact World.cell?_setCell_same _ _ _ ((World.cell?_setCell_other _ _ _ _ (by intro h; cases h)).trans h5)
      have hst : St w'' := by
        rw [hSt]
        exact ⟨u, keep u w' w'' h2 t, r0, r1⟩
      refine ⟨hst, t, fun _ => hst, fun _ => ?_⟩
      rw [hC]
      exact ⟨h3.trans t (fun y hy _ => hy), ⟨_, r0⟩, ⟨_, r1⟩, fun o => by rw [he]; simp [h6]⟩)
    have CELLS : Hid (∀ w', C w' → (∃ y, w'.cell? ⟨w.heap.size + 1, 0, none⟩ = some y) ∧ (∃ y, w'.cell? ⟨w.heap.size + 1, 1, none⟩ = some y) ∧ (∀ o, w'.frozen? ⟨w.heap.size + 1, o, none⟩ = false) ∧ w.heap.size + 1 < w'.heap.size) := Lib.hid (by
      intro w' h1
      rw [hC] at h1
      exact ⟨h1.2.1, h1.2.2.1, h1.2.2.2, by have := h1.1.size; omega⟩)
    have hC0 : C w2.drew := by rw [hC]; exact ⟨(Touch.refl _ _).drew, ⟨_, a0⟩, ⟨_, a1⟩, fa⟩
    have FIN : Hid (∀ w' u, C w' → SlS w' w2.heap.size u l → CutR E ⟨l ++ [x], slash⟩ w (.returned (.tuple #[.agg #[u, .bool false], .string x, .nilIface])) w') := Lib.hid (by
      intro w' u h1 h2
      rw [hC] at h1
      unfold CutR
      rw [HS.out, HU.out]
      exact ⟨u, rfl, h2.mono (by omega), b2.trans (h1.1.below (by omega) (fun y hy => by omega))⟩)
    have OPEN : Hid (∀ w', St w' → ∃ v, SlS w' w2.heap.size v l ∧ w'.cell? ⟨w.heap.size + 1, 0, none⟩ = some v ∧ w'.cell? ⟨w.heap.size + 1, 1, none⟩ = some (.bool false)) := Lib.hid (by
      intro w' h1
      rw [hSt] at h1
      exact h1)
    have KEEP := Lib.hid keep
    clear hC hSt keep a0 a1 fa p0 cx2 cx b2 HS HL sa sb
    apply wp_region_rel _ (by kernel_rfl) (by kernel_rfl) C (fun w' w'' => Touch (fun y => y = w.heap.size + 1) w' w'' ∧ (St w' → St w'') ∧ (C w' → C w'')) (fun w' w'' h1 h2 => h2.2.2 h1) hC0
    repeat (first
      | (apply wpRel_fix (by rfl)
         · intro w' hC hf R hR
           have hS := S w' hC
           go_simp
           exact hR _ ⟨Touch.refl _ _, id, id⟩
         simp only [Act.put, List.setIfInBounds_toArray, List.set_cons_zero, List.set_cons_succ]))
    apply wpRel_rel (fun v w' => SlS w' w2.heap.size v l) (by rfl) (fun v w' w'' h h2 => KEEP.out v w' w'' h h2.1)
    · intro w' hC hf R hR
      go_simp
      refine (CL.out w' hC).mono ?_
      rintro e w3 ⟨v, rfl, hp, he⟩
      exact ⟨v, rfl, hR _ _ hp he⟩
    intro v1
    simp only [Act.put, List.setIfInBounds_toArray, List.set_cons_zero, List.set_cons_succ]
    apply wpRel_rel (fun v w' => ∃ u, v = .agg #[u, .bool false] ∧ SlS w' w2.heap.size u l) (by rfl) (fun v w' w'' h h2 => by obtain ⟨u, h3, h4⟩ := h; exact ⟨u, h3, KEEP.out u w' w'' h4 h2.1⟩)
    · intro w' hC hf R hR
      have f := hf _ (List.mem_cons_self ..) (by kernel_rfl)
      obtain ⟨sp1, cap1, rfl⟩ := slShape f
      go_simp
      exact hR _ _ ⟨_, rfl, f⟩ ⟨Touch.refl _ _, id, id⟩
    intro v2
    simp only [Act.put, List.setIfInBounds_toArray, List.set_cons_zero, List.set_cons_succ]
    repeat (first
      | (apply wpRel_fix (by rfl)
         · intro w' hC hf R hR
           have hS := S w' hC
           go_simp
           exact hR _ ⟨Touch.refl _ _, id, id⟩
         simp only [Act.put, List.setIfInBounds_toArray, List.set_cons_zero, List.set_cons_succ]))
    apply wpRel_rel (fun v w' => St w') (by rfl) (fun v w' w'' h h2 => h2.2.1 h)
    · intro w' hC hf R hR
      obtain ⟨u, rfl, f⟩ := hf _ (List.mem_cons_self ..) (by kernel_rfl)
      obtain ⟨⟨y0, hy0⟩, ⟨y1, hy1⟩, hfr, hlt⟩ := CELLS.out w' hC
      have hst := STO.out w' _ hC f _ rfl
      obtain ⟨sp1, cap1, rfl⟩ := slShape f
      go_simp
      exact hR _ _ hst.1 hst.2
    intro v3
    simp only [Act.put, List.setIfInBounds_toArray, List.set_cons_zero, List.set_cons_succ]
    repeat (first
      | (apply wpRel_fix (by rfl)
         · intro w' hC hf R hR
           have hS := S w' hC
           go_simp
           exact hR _ ⟨Touch.refl _ _, id, id⟩
         simp only [Act.put, List.setIfInBounds_toArray, List.set_cons_zero, List.set_cons_succ]))
    refine wpRel_nil (fun w9 hC hf => ?_)
    obtain ⟨u, hu, r0, r1⟩ := OPEN.out w9 (hf _ (List.mem_cons_self ..))
    have FI := Lib.hid (FIN.out w9 u hC hu)
    clear S hf hC
    go_wp2
    rw [← HP.out]
    refine bodyPost_ret (v := .tuple #[.agg #[u, .bool false], .string x, .nilIface]) (by simp [results, Tryz.results100, go_sem, r0, r1]) rfl FI.out
theorem psplit_any {pv : Value} {ps : List ByteArray} {w : World} (r : RdS w pv ps) (hl : ps.length ≤ 1000000) (slash : Bool) (hE : Env E B w) :
    Calls Tryz.prog 100 #[.agg #[pv, .bool slash]] w (CutR E ⟨ps, slash⟩ w) := by
  obtain ⟨sp, cap, rfl, -⟩ := RdE.shape r
  rcases List.eq_nil_or_concat ps with rfl | ⟨l, x, rfl⟩
  · exact psplit_nil r slash hE
  · rw [List.concat_eq_append] at *
    exact psplit_snoc r (by simpa using hl) slash hE
end Go.Proofs.YtjekpbkmhgfhoaaGreatDoor
end

section
/- slices.Concat of two slices of strings; walk.target. -/
namespace Go.Proofs.YtjekpbkmhgfhoaaGreatDoor
open Go Go.RowKit
set_option maxRecDepth 100000
set_option linter.unusedSimpArgs false
set_option linter.unusedVariables false
attribute [local go_sem] giv
variable {E : Nat → Addr} {B : Nat}

theorem grow_any (n : Nat) (hn : n ≤ 1000000) (w : World) : Calls Tryz.prog 167 #[.slice none 0 0, .int .i64 n] w fun e w' => (∃ v, e = .returned v ∧ SlS w' w.heap.size v []) ∧ Below w.heap.size w w' := by
  by_cases h0 : n = 0
  · subst h0
    refine (Any8.slices_Grow_room Tryz.growS none 0 0 0 w (Nat.le_refl _) (by decide) (by decide) (Nat.le_refl _)).mono ?_
    rintro e w' ⟨rfl, rfl⟩
    exact ⟨⟨_, rfl, SlE.nil _ _ _ _ _⟩, Below.refl _ _⟩
  · obtain ⟨i, hi, hz, hs, hb⟩ := info_parts (show (Tryz.prog.info? 9).map (fun i => (i.zero, i.size, i.bytes)) = some (some (.string ⟨#[]⟩), 1, 16) by kernel_rfl)
    refine (Any8.slices_Grow_grow Tryz.growS i (.string ⟨#[]⟩) hi hz (by omega) none 0 0 n [] w (Nat.le_refl _) (by omega) (by rw [hb]; omega) (by omega) (by simp) (fun _ => rfl) (fun a h => by cases h)).mono ?_
    rintro e w' ⟨rfl, rfl⟩
    refine ⟨⟨_, rfl, rfl, .inr ⟨w.heap.size, _, _, rfl, Nat.le_refl _, heap_alloc_new w.drew _, ?_, ?_, ?_, ?_⟩⟩, (Below.refl w.heap.size w).drew.alloc (Nat.le_refl _) _⟩
    · exact Nat.zero_le _
    · exact grownCap_le_maxLen w (0 + n) 0 9 (by unfold maxLen; omega)
    · have := grownCap_ge w (0 + n) 0 (Tryz.growS_ren.t 25)
      rw [Array.size_append, Array.size_append, size_zeroCells, size_zeroCells]
      simp only [Value.cells, List.size_toArray, List.length_nil, List.length_singleton, Nat.mul_one, Nat.zero_add, Nat.sub_zero] at this ⊢
      omega
    · rfl

/-- What has been put together behind j slices. -/
def pieces (xs ys : List ByteArray) : Nat → List ByteArray
  | 0 => []
  | 1 => xs
  | _ => xs ++ ys
set_option maxHeartbeats 1000000 in
theorem concat_any {w : World} {h : Nat} {su sv : Option Addr} {nu nv cu cv : Nat} {xs ys : List ByteArray} (r : Row w h 118 [.slice su nu cu, .slice sv nv cv]) (ru : RdS w (.slice su nu cu) xs) (rv : RdS w (.slice sv nv cv) ys) (hlen : xs.length + ys.length ≤ 1000000) :
    Calls Tryz.prog 137 #[.slice (some ⟨h, 0, none⟩) 2 2] w fun e w' => (∃ z, e = .returned z ∧ SlS w' w.heap.size z (xs ++ ys)) ∧ Below w.heap.size w w' := by
  have hnu := ru.len.1
  have hnv := rv.len.1
  have c0 : w.cell? ⟨h, 0, none⟩ = some (.slice su nu cu) := (r.cell 0).trans rfl
  have c1 : w.cell? ⟨h, 1, none⟩ = some (.slice sv nv cv) := (r.cell 1).trans rfl
  have hlt := r.lt
  have HU := Lib.hid ru
  have HV := Lib.hid rv
  have HNU := Lib.hid hnu
  have HNV := Lib.hid hnv
  have hle : nu + nv ≤ 1000000 := by omega
  generalize hP : (fun (e : Ending) (w' : World) => (∃ z, e = .returned z ∧ SlS w' w.heap.size z (xs ++ ys)) ∧ Below w.heap.size w w') = Post
  have HP := Lib.hid hP
  clear r ru rv hnu hnv hlen hP
  have hw1 : wrap64 (0 + (nu : Int)) = nu := by unfold wrap64; omega
  have hw2 : wrap64 ((nu : Int) + nv) = ((nu + nv : Nat) : Int) := by unfold wrap64; omega
  go_enter Tryz.func137, Tryz.ntmps137
  go_wp2_with fail
  go_loop [3, 11] (fun s v => (v = .int .i64 0 ∧ s = .int .i64 0) ∨ (v = .int .i64 1 ∧ s = .int .i64 nu) ∨ (v = .int .i64 2 ∧ s = .int .i64 (nu + nv : Nat))) (fun _ v => 2 - (intOf v).toNat)
  case atStart => exact .inl ⟨rfl, rfl⟩
  case round =>
    rcases hrel with ⟨rfl, rfl⟩ | ⟨rfl, rfl⟩ | ⟨rfl, rfl⟩
    · go_wp2
      go_round
      case rel => exact .inr (.inl ⟨rfl, rfl⟩)
      case measure => simp [intOf]
    · go_wp2
      go_round
      case rel => exact .inr (.inr ⟨rfl, rfl⟩)
      case measure => simp [intOf]
    · clear hw1 hw2
      go_wp2_with fail
      refine (grow_any (nu + nv) hle w).mono ?_
      rintro e w1 ⟨⟨z1, rfl, hs1⟩, hb1⟩
      have HS1 := Lib.hid hs1
      have HB1 := Lib.hid hb1
      clear hs1 hb1
      go_wp2_with fail
      go_loopw [6, 27] (fun s v wr => ∃ j : Nat, ((v = .int .i64 0 ∧ j = 0) ∨ (v = .int .i64 1 ∧ j = 1) ∨ (v = .int .i64 2 ∧ j = 2)) ∧ Hid (SlS wr w.heap.size s (pieces xs ys j) ∧ Below w.heap.size w wr)) (fun _ v _ => 2 - (intOf v).toNat)
      case atStart => exact ⟨0, .inl ⟨rfl, rfl⟩, Lib.hid ⟨HS1.out, HB1.out⟩⟩
      case round =>
        obtain ⟨j, hj, HI⟩ := hrel
        have d0 : wr.cell? ⟨h, 0, none⟩ = some (.slice su nu cu) := (HI.out.2.cell (p := ⟨h, 0, none⟩) hlt).trans c0
        have d1 : wr.cell? ⟨h, 1, none⟩ = some (.slice sv nv cv) := (HI.out.2.cell (p := ⟨h, 1, none⟩) hlt).trans c1
        have lw : h < wr.heap.size := Nat.lt_of_lt_of_le hlt HI.out.2.size
        have HOWN := Lib.hid HI.out.1
        have HBS := Lib.hid HI.out.2.size
        have HRU := Lib.hid (HU.out.below HI.out.2)
        have HRV := Lib.hid (HV.out.below HI.out.2)
        have HLE : Hid (xs.length + ys.length ≤ 1000000) := Lib.hid (by have := HNU.out; have := HNV.out; omega)
        clear hle
        rcases hj with ⟨rfl, rfl⟩ | ⟨rfl, rfl⟩ | ⟨rfl, rfl⟩
        · go_wp2_with (at_builtin; refine wpList_app strT rfl _ _ rfl rfl HOWN.out rfl HRU.out (by have := HLE.out; unfold maxLen; simp [pieces]; omega) (by have := HLE.out; simp [pieces]; omega) HBS.out ?_; intro v' w' hs' ht'; have HS' := Lib.hid hs'; have HT' := Lib.hid ht'; clear hs' ht')
          have HB2 := Lib.hid (HI.out.2.trans (HT'.out.below HBS.out (fun x hx => (HOWN.out.lt x hx).1)))
          go_roundw
          case rel => exact ⟨1, .inr (.inl ⟨rfl, rfl⟩), Lib.hid ⟨HS'.out, HB2.out⟩⟩
          case measure => simp [intOf]
        · go_wp2_with (at_builtin; refine wpList_app strT rfl _ _ rfl rfl HOWN.out rfl HRV.out (by have := HLE.out; unfold maxLen; simp [pieces]; omega) (by have := HLE.out; simp [pieces]; omega) HBS.out ?_; intro v' w' hs' ht'; have HS' := Lib.hid hs'; have HT' := Lib.hid ht'; clear hs' ht')
          have HB2 := Lib.hid (HI.out.2.trans (HT'.out.below HBS.out (fun x hx => (HOWN.out.lt x hx).1)))
          go_roundw
          case rel => exact ⟨2, .inr (.inr ⟨rfl, rfl⟩), Lib.hid ⟨HS'.out, HB2.out⟩⟩
          case measure => simp [intOf]
        · go_wp2
          rw [← HP.out]
          exact ⟨⟨_, rfl, HI.out.1⟩, HI.out.2⟩

theorem slash_app (s : ByteArray) : (⟨(47 :: s.data.toList).toArray⟩ : ByteArray) = ⟨#[47]⟩ ++ s := by
  apply ByteArray.ext
  rw [ByteArray.data_append]
  apply Array.toList_inj.1
  simp
/-- What target answers. -/
def TgtR (E : Nat → Addr) (t : ByteArray) (k : Int) (w : World) (e : Ending) (w' : World) : Prop :=
  (∃ v at', e = .returned (.tuple #[.agg #[v, .bool (tgtOf t k).1.2.slash], .int .i64 at', errOf E (tgtOf t k).1.1]) ∧ at' = (tgtOf t k).2 ∧ SlS w' w.heap.size v (tgtOf t k).1.2.parts) ∧ Below w.heap.size w w'
theorem set2 {base : Nat} {a w1 : World} (h : Below base a w1) {c : Nat} (ha : base ≤ c) (u0 u1 : Value) : Below base a ((w1.setCell ⟨c, 0, none⟩ u0).setCell ⟨c, 1, none⟩ u1) := Below.setCell (Below.setCell h ha u0) ha u1
set_option maxHeartbeats 1000000 in
theorem wtarget_any (n : Nd) (ht : n.target.size ≤ 1000) (k : Int) (w : World) (hE : EnvM E B w) : Calls Tryz.prog 136 #[encN n, .int .i64 k] w (TgtR E n.target k w) := by
  obtain ⟨n1, n2, n3, n4, n5, n6⟩ := n
  simp only [encN]
  simp only at ht
  generalize hP : TgtR E n5 k w = Post
  have HP := Lib.hid hP
  have HE := Lib.hid hE
  clear hP hE
  by_cases hs : n5.data.toList.head? = some 47
  · have hpos : 0 < n5.size := by
      rw [← ByteArray.size_data, ← Array.length_toList]
      cases hl : n5.data.toList with
      | nil => rw [hl] at hs; cases hs
      | cons a l => simp
    have hb0 : (n5[0].toNat : Int) = 47 := by
      have := first_byte hpos
      rw [hs] at this
      injection this with this
      rw [← this]; rfl
    have HT : Hid (tgtOf n5 k = (parseP n5, 1)) := Lib.hid (by unfold tgtOf; rw [if_pos hs])
    have hbe : ((n5[0].toNat : Int) == 47) = true := by rw [hb0]; rfl
    clear hb0 hs
    go_enter Tryz.func136, Tryz.ntmps136
    go_wp2_with fail
    refine (parse_any _ _ (HE.out.keep (Below.refl _ _ |>.alloc HE.out.size _ |>.alloc (Nat.le_trans HE.out.size (by simp)) _))).mono ?_
    rintro e w2 ⟨⟨v, rfl, hs2⟩, hb2⟩
    obtain ⟨sp, cap, rfl⟩ := slShape hs2
    have x0 : w2.cell? ⟨w.heap.size + 1, 0, none⟩ = some (.slice none 0 0) := (hb2.cell (p := ⟨w.heap.size + 1, 0, none⟩) (by simp)).trans (by simp)
    have x1 : w2.cell? ⟨w.heap.size + 1, 1, none⟩ = some (.bool false) := (hb2.cell (p := ⟨w.heap.size + 1, 1, none⟩) (by simp)).trans (by simp)
    have xf : ∀ i, w2.frozen? ⟨w.heap.size + 1, i, none⟩ = false := fun i => (hb2.frozen (p := ⟨w.heap.size + 1, i, none⟩) (by simp)).trans (by simp)
    have xl : w.heap.size + 1 < w2.heap.size := by have := hb2.size; simp at this; omega
    have HS2 := Lib.hid hs2
    have HB2 := Lib.hid (((Below.refl w.heap.size w).alloc (Nat.le_refl _) _ |>.alloc (by simp) _).trans (hb2.mono (by simp; omega)))
    clear hs2 hb2 HE
    go_wp2
    rw [← HP.out]
    refine bodyPost_ret (v := .tuple #[.agg #[.slice sp (parseP n5).2.parts.length cap, .bool (parseP n5).2.slash], .int .i64 1, errOf E (parseP n5).1]) (by simp [results, Tryz.results136, go_sem, x0, x1, xl]) rfl ?_
    refine ⟨⟨_, _, by rw [HT.out], by rw [HT.out], ?_⟩, ?_⟩
    · rw [HT.out]
      refine (HS2.out.mono (by simp; omega)).touch (S := fun y => y = w.heap.size + 1) (Touch.alloc (Touch.setCell (S := fun y => y = w.heap.size + 1) (Touch.setCell (S := fun y => y = w.heap.size + 1) (Touch.refl _ _) (.inl rfl) _) (.inl rfl) _) _) ?_
      intro x hx he
      have := (HS2.out.lt x hx).1
      simp at this
      omega
    · exact bl_alloc (set2 HB2.out (by omega) _ _) _
  · have HT : Hid (tgtOf n5 k = (parseP (⟨#[47]⟩ ++ n5), k)) := Lib.hid (by unfold tgtOf; rw [if_neg hs, slash_app])
    by_cases hpos : 0 < n5.size
    case' pos =>
      have hbe : ((n5[0].toNat : Int) == 47) = false := by
        rw [beq_eq_false_iff_ne]
        intro h
        refine hs ?_
        rw [first_byte hpos]
        congr 1
        exact UInt8.toNat_inj.1 (by have h2 : n5[0].toNat = 47 := by omega
                                    exact h2)
    case' neg =>
      have hz : n5.size = 0 := by omega
      have HZ := Lib.hid hz
      have hd0 : decide (0 < (n5.size : Int)) = false := by rw [hz]; rfl
      clear hz
    all_goals
      clear hs
      go_enter Tryz.func136, Tryz.ntmps136
      go_wp2_with fail
      refine (parse_any _ _ (HE.out.keep (Below.refl _ _ |>.alloc HE.out.size _ |>.alloc (Nat.le_trans HE.out.size (by simp)) _))).mono ?_
      rintro e w2 ⟨⟨v, rfl, hs2⟩, hb2⟩
      obtain ⟨sp, cap, rfl⟩ := slShape hs2
      have x0 : w2.cell? ⟨w.heap.size + 1, 0, none⟩ = some (.slice none 0 0) := (hb2.cell (p := ⟨w.heap.size + 1, 0, none⟩) (by simp)).trans (by simp)
      have x1 : w2.cell? ⟨w.heap.size + 1, 1, none⟩ = some (.bool false) := (hb2.cell (p := ⟨w.heap.size + 1, 1, none⟩) (by simp)).trans (by simp)
      have xf : ∀ i, w2.frozen? ⟨w.heap.size + 1, i, none⟩ = false := fun i => (hb2.frozen (p := ⟨w.heap.size + 1, i, none⟩) (by simp)).trans (by simp)
      have xl : w.heap.size + 1 < w2.heap.size := by have := hb2.size; simp at this; omega
      have HS2 := Lib.hid hs2
      have HB2 := Lib.hid (((Below.refl w.heap.size w).alloc (Nat.le_refl _) _ |>.alloc (by simp) _).trans (hb2.mono (by simp; omega)))
      clear hs2 hb2 HE
      go_wp2
      rw [← HP.out]
      refine bodyPost_ret (v := .tuple #[.agg #[.slice sp (parseP (⟨#[47]⟩ ++ n5)).2.parts.length cap, .bool (parseP (⟨#[47]⟩ ++ n5)).2.slash], .int .i64 k, errOf E (parseP (⟨#[47]⟩ ++ n5)).1]) (by simp [results, Tryz.results136, go_sem, x0, x1, xl]) rfl ?_
      refine ⟨⟨_, _, by rw [HT.out], by rw [HT.out], ?_⟩, ?_⟩
      · rw [HT.out]
        refine (HS2.out.mono (by simp; omega)).touch (S := fun y => y = w.heap.size + 1) (Touch.alloc (Touch.setCell (S := fun y => y = w.heap.size + 1) (Touch.setCell (S := fun y => y = w.heap.size + 1) (Touch.refl _ _) (.inl rfl) _) (.inl rfl) _) _) ?_
        intro x hx he
        have := (HS2.out.lt x hx).1
        simp at this
        omega
      · exact bl_alloc (set2 HB2.out (by omega) _ _) _
end Go.Proofs.YtjekpbkmhgfhoaaGreatDoor
end

section
/- The walk of package walk's goes: from a path to a node. -/
namespace Go.Proofs.YtjekpbkmhgfhoaaGreatDoor
open Go Go.RowKit
set_option maxRecDepth 100000
set_option linter.unusedSimpArgs false
set_option linter.unusedVariables false
attribute [local go_sem] giv
variable {E : Nat → Addr} {B : Nat}
section
variable {L : Nat → Prop} {w : World} {b t dm : Nat} {st : St}

theorem RdE.kept {α : Type} {w w' : World} {k : Nat} {enc : α → List Value} {v : Value} {xs : List α} (r : RdE w k enc v xs) (hk : KeptP B L w w') (hv : ∀ x, v.ownBlock = some x → L x) : RdE w' k enc v xs := by
  obtain ⟨sp, cap, rfl, h1, h2, h3⟩ := r
  refine ⟨sp, cap, rfl, h1, h2, fun hx => ?_⟩
  obtain ⟨h, off, rfl, h5, h6⟩ := h3 hx
  have hb := hk.loc h (hv h rfl)
  refine ⟨h, off, rfl, ?_, fun i j hi hj => (World.cell?_of_block (w := w) hb).trans (h6 i j hi hj)⟩
  rw [Array.getElem?_eq_getElem h5] at hb
  exact (Array.getElem?_eq_some_iff.1 hb).1
theorem tgt_code (t : ByteArray) (k : Int) : (tgtOf t k).1.1 = 0 ∨ (tgtOf t k).1.1 = 109 ∨ (tgtOf t k).1.1 = 114 ∨ (tgtOf t k).1.1 = 115 := by
  unfold tgtOf
  split <;> exact parse_code _
theorem parse_small (s : ByteArray) : ∀ x ∈ (parseP s).2.parts, x.size ≤ 1000000 := by
  unfold parseP
  split
  · simp [noPth]
  · split
    · simp [noPth]
    · split
      · simp [noPth]
      · split
        · simp [noPth]
        · rename_i q hq
          intro x hx
          have := (partsOf_mem hq x hx).2.2.2
          omega
theorem tgt_parts (t : ByteArray) (k : Int) : (tgtOf t k).1.2.parts.length ≤ 257 ∧ (∀ x ∈ (tgtOf t k).1.2.parts, x.size ≤ 1000000) ∧ ((tgtOf t k).2 = 1 ∨ (tgtOf t k).2 = k) := by
  unfold tgtOf
  split
  · exact ⟨parse_len _, parse_small _, .inl rfl⟩
  · exact ⟨parse_len _, parse_small _, .inr rfl⟩
theorem nd_some {k : Int} {d : Nd} (h : st.nd k = some d) : ∃ y, st.get k = some y := by
  obtain ⟨r, h1, _⟩ := nd_get h
  exact ⟨r, h1⟩
theorem valid_tgt {n : Nd} (h : validB n = true) : n.target.size ≤ 88 := by
  simp only [validB, Bool.and_eq_true, decide_eq_true_eq] at h
  omega
theorem goes_cat {w6 : World} {base : Nat} {sp6 : Option Addr} {n6 cap6 : Nat} {qp ps' : List ByteArray} (hs6 : SlS w6 base (.slice sp6 n6 cap6) qp) {spv : Option Addr} {nv cv : Nat} (rd : RdS w6 (.slice spv nv cv) ps') (hl : qp.length + ps'.length ≤ 1000000) (o : Obj) :
    Calls Tryz.prog 137 #[.slice (some ⟨w6.heap.size + 1, 0, none⟩) 2 2] ((w6.alloc o).alloc (.cells #[.slice sp6 n6 cap6, .slice spv nv cv] 118)) fun e w' =>
      (∃ sp n cap, e = .returned (.slice sp n cap) ∧ n = (qp ++ ps').length ∧ RdS w' (.slice sp n cap) (qp ++ ps') ∧ ∀ x, (Value.slice sp n cap).ownBlock = some x → w6.heap.size ≤ x ∧ x < w'.heap.size) ∧ Below w6.heap.size w6 w' := by
  have r := Row.new (w6.alloc o) 118 [.slice sp6 n6 cap6, .slice spv nv cv]
  have hz : (w6.alloc o).heap.size = w6.heap.size + 1 := by simp
  rw [hz] at r
  have b1 := bl_alloc (Below.refl w6.heap.size w6) o
  have b2 := bl_alloc b1 (.cells #[.slice sp6 n6 cap6, .slice spv nv cv] 118)
  refine (concat_any r ((hs6.rd (fun _ => rfl)).below b2) (rd.below b2) hl).mono ?_
  rintro e w' ⟨⟨z, rfl, hs⟩, hb⟩
  obtain ⟨sp, cap, rfl⟩ := slShape hs
  refine ⟨⟨sp, _, cap, rfl, rfl, hs.rd (fun _ => rfl), fun x hx => ?_⟩, bl_trans b2 hb⟩
  have := hs.lt x hx
  simp at this
  omega
/-- What goes keeps from round to round. -/
structure GoI (B : Nat) (L : Nat → Prop) (wa : World) (pb b t dm : Nat) (st : St) (follow slash : Bool) (R : Int × Int) (at' : Int) (hh : Nat) (pv : Value) (parts : List ByteArray) (wr : World) : Prop where
  res : goH st follow slash (4 - hh) parts at' = R
  there : ∃ y, st.get at' = some y
  tree : ∃ Lr : Nat → Prop, (∀ x, x = pb ∨ L x → Lr x) ∧ (∀ x, pv.ownBlock = some x → Lr x) ∧ WB B Lr wr b t dm st
  rd : RdS wr pv parts
  small : ∀ x ∈ parts, x.size ≤ 1000000
  kept : KeptP B (fun x => x = pb ∨ L x) wa wr
theorem GoI.next {wa : World} {pb : Nat} {follow slash : Bool} {R : Int × Int} {at' : Int} {hh : Nat} {pv : Value} {parts : List ByteArray} {w2 w3 : World} {Lr : Nat → Prop} (res : goH st follow slash (4 - hh) parts at' = R) (there : ∃ y, st.get at' = some y)
    (hLr : ∀ x, x = pb ∨ L x → Lr x) (hLv : ∀ x, pv.ownBlock = some x → Lr x) (hW : WB B Lr w2 b t dm st) (rd : RdS w2 pv parts) (small : ∀ x ∈ parts, x.size ≤ 1000000) (kept : KeptP B (fun x => x = pb ∨ L x) wa w2) (hb : Below w2.heap.size w2 w3) :
    GoI B L wa pb b t dm st follow slash R at' hh pv parts w3 :=
  ⟨res, there, ⟨Lr, hLr, hLv, hW.below hb⟩, rd.below hb, small, kept.trans (KeptP.of_below hb hW.1 (fun x hx => hW.2.1 x (hLr x hx)))⟩
/-- What goes answers. -/
def GoR (E : Nat → Addr) (B : Nat) (L : Nat → Prop) (b t dm : Nat) (st : St) (R : Int × Int) (w : World) (e : Ending) (w' : World) : Prop :=
  (∃ hops : Int, e = .returned (.tuple #[.int .i64 R.2, .int .i64 hops, errOf E R.1])) ∧ WB B L w' b t dm st ∧ KeptP B L w w'
set_option maxHeartbeats 4000000 in
theorem goes_any (h : WB B L w b t dm st) (f : Full st) {sp : Option Addr} {np cap : Nat} {ps : List ByteArray} (rp : RdS w (.slice sp np cap) ps) (hlen : ps.length ≤ 1000) (hsm : ∀ x ∈ ps, x.size ≤ 1000000) (follow slash : Bool) (hE : EnvM E B w) :
    Calls Tryz.prog 99 #[.pointer (some ⟨b, 0, none⟩), .agg #[.slice sp np cap, .bool slash], .bool follow] w (GoR E B L b t dm st (toP st ⟨ps, slash⟩ follow) w) := by
  obtain ⟨wa, hwa⟩ : ∃ wa, wa = w.alloc (.cells #[.slice sp np cap, .bool slash] 120) := ⟨_, rfl⟩
  have ha : WB B (fun x => x = w.heap.size ∨ L x) wa b t dm st := hwa ▸ WL.loc h _
  have p1 : ∀ w', KeptP B (fun x => x = w.heap.size ∨ L x) wa w' → w'.cell? ⟨w.heap.size, 1, none⟩ = some (.bool slash) := fun w' k => (k.cell (.inl rfl) 1).trans (by rw [hwa]; simp)
  have q0 : wa.cell? ⟨w.heap.size, 0, none⟩ = some (.slice sp np cap) := by rw [hwa]; simp
  have hlw : w.heap.size < wa.heap.size := by rw [hwa]; simp
  have hba : Below w.heap.size w wa := by rw [hwa]; exact bl_alloc (Below.refl _ _) _
  have HKW := Lib.hid (WL.kept h hba)
  have HF := Lib.hid f
  have HE := Lib.hid (hE.below hba)
  have HA := Lib.hid ha
  have HP1 := Lib.hid p1
  have HRP := Lib.hid (rp.below hba)
  have hnp := rp.len.1
  have HLEN := Lib.hid hlen
  have HSM := Lib.hid hsm
  generalize hP : GoR E B L b t dm st (toP st ⟨ps, slash⟩ follow) w = Post
  have HP := Lib.hid hP
  clear hP h f rp hlen hsm hE ha p1 hnp
  go_enter Tryz.func99, Tryz.ntmps99
  go_wp2_with fail
  rw [← hwa]
  have HBA := Lib.hid hba
  clear hwa hba
  generalize hpb : w.heap.size = pb at *
  have HPB := Lib.hid hpb
  clear hpb
  refine (sclone_any HRP.out (Nat.le_trans HLEN.out (by decide))).mono ?_
  rintro e w1 ⟨⟨v, rfl, hs⟩, hb⟩
  obtain ⟨sp1, cap1, rfl⟩ := slShape hs
  have hI : GoI B L wa pb b t dm st follow slash (toP st ⟨ps, slash⟩ follow) 1 0 (.slice sp1 ps.length cap1) ps w1 := by
    refine ⟨rfl, ?_, ⟨fun x => (Value.slice sp1 ps.length cap1).ownBlock = some x ∨ x = pb ∨ L x, fun x hx => .inr hx, fun x hx => .inl hx, ?_⟩, hs.rd (fun _ => rfl), HSM.out, HA.out.kept hb⟩
    · obtain ⟨r, h1, _⟩ := HF.out.root
      exact ⟨r, h1⟩
    · refine HA.out.loc' hb (fun x hx => ?_)
      rcases hx with hx | hx
      · exact .inr (hs.lt x hx)
      · exact .inl hx
  have HI0 := Lib.hid hI
  have HL0 : Hid (ps.length ≤ 1000) := HLEN
  clear hI hs hb q0 HRP
  go_wp2_with fail
  go_loopw [9, 10, 11] (fun u9 u10 u11 wr => ∃ (at' : Int) (hh n : Nat) (sp : Option Addr) (cap : Nat), u9 = .int .i64 at' ∧ u10 = .int .i64 hh ∧ hh ≤ 4 ∧ u11 = .slice sp n cap ∧ n ≤ 1000 + hh * 300 ∧
      Hid (∃ parts, n = parts.length ∧ GoI B L wa pb b t dm st follow slash (toP st ⟨ps, slash⟩ follow) at' hh (.slice sp n cap) parts wr))
    (fun _ u10 u11 _ => (4 - (intOf u10).toNat) * 400 + (match u11 with | .slice _ n _ => n | _ => 0))
  case atStart => exact ⟨1, 0, _, _, _, rfl, rfl, by omega, rfl, by have := HL0.out; omega, Lib.hid ⟨ps, rfl, HI0.out⟩⟩
  case round =>
    obtain ⟨at', hh, n, sp2, cap2, rfl, rfl, hh4, rfl, hn, HI⟩ := hrel
    clear HI0 HL0
    obtain ⟨parts, hnp, hI⟩ := HI.out
    obtain ⟨Lr, hLr, hLv, hW⟩ := hI.tree
    obtain ⟨y0, hy0⟩ := hI.there
    have hrng : 1 ≤ at' ∧ at' ≤ 16777215 := by have := dir_ids HF.out.toGood hy0; omega
    have HW := Lib.hid hW
    have HLR := Lib.hid hLr
    have HLV := Lib.hid hLv
    have HIK := Lib.hid hI.kept
    have HRD := Lib.hid hI.rd
    have HRES := Lib.hid hI.res
    have HSP := Lib.hid hI.small
    have HY := Lib.hid hy0
    have HNP := Lib.hid hnp
    have hp1 : wr.cell? ⟨pb, 1, none⟩ = some (.bool slash) := HP1.out wr hI.kept
    have hpl : pb < wr.heap.size := hW.2.1 _ (hLr _ (.inl rfl))
    have HEr : Hid (EnvM E B wr) := Lib.hid (HE.out.keep hI.kept.below)
    obtain ⟨isd, hisd⟩ : ∃ isd, st.isDir at' = isd := ⟨_, rfl⟩
    have HISD := Lib.hid hisd
    obtain ⟨d, hd⟩ : ∃ d, (st.nd at').getD noNd = d := ⟨_, rfl⟩
    have HD := Lib.hid hd
    clear hisd hd hI hW hLr hLv hy0 HI hnp
    by_cases hn0 : n = 0
    · subst hn0
      obtain rfl : parts = [] := List.eq_nil_of_length_eq_zero HNP.out.symm
      have HR : Hid ((if slash && !st.isDir at' then ((111 : Int), (0 : Int)) else (0, at')) = toP st ⟨ps, slash⟩ follow) := Lib.hid (by
        rw [← HRES.out, go_nil])
      clear HRES hn
      go_wp2_with fail
      refine (wdir_any HW.out (by omega)).mono ?_
      rintro e w2 ⟨rfl, hb2⟩
      rw [HISD.out, HD.out]
      obtain ⟨d1, d2, d3, d4, d5, d6⟩ := d
      simp only [encN]
      have hp2 : w2.cell? ⟨pb, 1, none⟩ = some (.bool slash) := (hb2.cell (p := ⟨pb, 1, none⟩) hpl).trans hp1
      have hpl2 : pb < w2.heap.size := Nat.lt_of_lt_of_le hpl hb2.size
      have HW2 := Lib.hid (HW.out.below hb2)
      have HK2 := Lib.hid (HIK.out.trans (KeptP.of_below hb2 HW.out.1 (fun x hx => HW.out.2.1 x (HLR.out x hx))))
      have HE2 := HEr.out.below hb2
      have e1 := HE2.cell 7 (by decide)
      have l1 : 7 < w2.heap.size := Nat.lt_of_lt_of_le (HE2.glt _ (by decide)) HE2.size
      have c1 : errOf E 111 = errV E 7 := errOf_code (g := 7) (by decide)
      have C1 := Lib.hid c1
      have HFIN : Hid (∀ w3, Below w2.heap.size w2 w3 → WB B L w3 b t dm st ∧ KeptP B L w w3) := Lib.hid (fun w3 hb3 => by
        refine ⟨(HW2.out.below hb3).less (fun x hx => HLR.out x (.inr hx)), (HKW.out.trans (HK2.out.mono (fun x hx => .inr hx))).then hb3 HW2.out.1 (fun x hx => HW2.out.2.1 x (HLR.out x (.inr hx)))⟩)
      clear c1 HE2 hb2 hp1 hpl HW HIK HEr HRD HD HY HNP
      cases slash <;> cases isd
      all_goals go_wp2_with fail
      all_goals try (go_region; go_wp2)
      all_goals go_ret3
      all_goals
        rw [← HP.out]
        unfold GoR
        rw [← HR.out, HISD.out]
      · exact ⟨⟨hh, rfl⟩, HFIN.out _ (bl_alloc (Below.refl _ _) _)⟩
      · exact ⟨⟨hh, rfl⟩, HFIN.out _ (bl_alloc (Below.refl _ _) _)⟩
      · exact ⟨⟨hh, by rw [show errOf E (if (true && !false) = true then ((111 : Int), (0 : Int)) else (0, at')).1 = errOf E 111 from rfl, C1.out]; rfl⟩, HFIN.out _ (bl_alloc (Below.refl _ _) _).drew⟩
      · exact ⟨⟨hh, rfl⟩, HFIN.out _ (bl_alloc (Below.refl _ _) _)⟩
    · obtain ⟨m, rfl⟩ : ∃ m, n = m + 1 := ⟨n - 1, by omega⟩
      obtain ⟨p, ps', rfl⟩ : ∃ p ps', parts = p :: ps' := by
        cases parts with
        | nil => have := HNP.out; simp at this
        | cons p l => exact ⟨p, l, rfl⟩
      have hm : m = ps'.length := by have := HNP.out; simpa using this
      have HM := Lib.hid hm
      clear hm
      have hgt : (m : Int) + 1 > 0 := by omega
      obtain ⟨hb_, off, rfl, hh0, cx⟩ := RdS.cell HRD.out (j := 0) (by simp)
      have hRT := HRD.out
      simp only [List.getElem_cons_zero, Nat.add_zero] at cx
      cases isd with
      | false =>
        have HR : Hid (((111 : Int), (0 : Int)) = toP st ⟨ps, slash⟩ follow) := Lib.hid (by rw [← HRES.out, go_nodir HISD.out])
        clear HRES cx
        go_wp2_with fail
        refine (wdir_any HW.out (by omega)).mono ?_
        rintro e w2 ⟨rfl, hb2⟩
        rw [HISD.out, HD.out]
        obtain ⟨d1, d2, d3, d4, d5, d6⟩ := d
        simp only [encN]
        have HW2 := Lib.hid (HW.out.below hb2)
        have HK2 := Lib.hid (HIK.out.trans (KeptP.of_below hb2 HW.out.1 (fun x hx => HW.out.2.1 x (HLR.out x hx))))
        have HE2 := Lib.hid (HEr.out.below hb2)
        have e1 := HE2.out.cell 7 (by decide)
        have l1 : 7 < w2.heap.size := Nat.lt_of_lt_of_le (HE2.out.glt _ (by decide)) HE2.out.size
        have c1 : errOf E 111 = errV E 7 := errOf_code (g := 7) (by decide)
        have C1 := Lib.hid c1
        have HFIN : Hid (∀ w3, Below w2.heap.size w2 w3 → WB B L w3 b t dm st ∧ KeptP B L w w3) := Lib.hid (fun w3 hb3 => by
          refine ⟨(HW2.out.below hb3).less (fun x hx => HLR.out x (.inr hx)), (HKW.out.trans (HK2.out.mono (fun x hx => .inr hx))).then hb3 HW2.out.1 (fun x hx => HW2.out.2.1 x (HLR.out x (.inr hx)))⟩)
        clear c1
        clear hb2 HW HIK HEr HRD HD HY HNP
        go_wp2_with fail
        go_region
        go_wp2
        go_ret3
        rw [← HP.out]
        unfold GoR
        rw [← HR.out]
        exact ⟨⟨hh, by rw [← C1.out]; rfl⟩, HFIN.out _ (by repeat (first | exact Below.refl _ _ | refine bl_alloc ?_ _ | refine Below.drew ?_))⟩
      | true =>
        obtain ⟨d0, hnd, hdk⟩ := isDir_some HISD.out
        obtain rfl : d0 = d := by have h1 := HD.out; rw [hnd] at h1; exact h1
        obtain ⟨d1, d2, d3, d4, d5, d6⟩ := d0
        have HND := Lib.hid hnd
        have HDK := Lib.hid hdk
        obtain ⟨up, hup⟩ : ∃ up, isUp p = up := ⟨_, rfl⟩
        have HUP := Lib.hid hup
        clear hnd hdk hup
        go_wp2_with fail
        refine (wdir_any HW.out (by omega)).mono ?_
        rintro e w2 ⟨rfl, hb2⟩
        rw [HISD.out, HD.out]
        simp only [encN]
        have HW2 := Lib.hid (HW.out.below hb2)
        have HK2 := Lib.hid (HIK.out.trans (KeptP.of_below hb2 HW.out.1 (fun x hx => HW.out.2.1 x (HLR.out x hx))))
        have HE2 := Lib.hid (HEr.out.below hb2)
        have HRD2 := Lib.hid (HRD.out.below hb2)
        have cx2 : w2.cell? ⟨hb_, off, none⟩ = some (.string p) := (hb2.cell (p := ⟨hb_, off, none⟩) hh0).trans cx
        have hh2 : hb_ < w2.heap.size := Nat.lt_of_lt_of_le hh0 hb2.size
        have hp2 : w2.cell? ⟨pb, 1, none⟩ = some (.bool slash) := (hb2.cell (p := ⟨pb, 1, none⟩) hpl).trans hp1
        have hpl2 : pb < w2.heap.size := Nat.lt_of_lt_of_le hpl hb2.size
        have hcn := HRD2.out.len.2
        clear hb2 HW HIK HEr HRD HD hp1 hpl cx hh0 hRT
        cases up with
        | true =>
          have hx : p.toList = [46, 46] := by rw [ByteArray.toList_eq]; simpa [isUp, dots] using HUP.out
          have HR : Hid (goH st follow slash (4 - hh) ps' (upOf ⟨d1, d2, d3, d4, d5, d6⟩) = toP st ⟨ps, slash⟩ follow) := Lib.hid (by rw [← HRES.out, go_up HND.out HDK.out HUP.out])
          clear HRES
          have HUPT : Hid (∃ y, st.get (upOf ⟨d1, d2, d3, d4, d5, d6⟩) = some y) := Lib.hid (by
            obtain ⟨r, h1, h2, _⟩ := nd_get HND.out
            have h3 := HF.out.parent h1 (by rw [h2]; exact HDK.out)
            rw [h2] at h3
            exact ⟨_, h3.choose_spec.1⟩)
          have HSP2 : Hid (∀ x ∈ ps', x.size ≤ 1000000) := Lib.hid (fun x hx => HSP.out x (List.mem_cons_of_mem _ hx))
          by_cases hc1 : cap2 = 1
          case' pos =>
            subst hc1
            obtain rfl : m = 0 := by omega
            have HRD3 : Hid (RdS w2 (.slice (some ⟨hb_, off, none⟩) 0 0) ps') := Lib.hid (by
              obtain rfl : ps' = [] := List.eq_nil_of_length_eq_zero HM.out.symm
              exact RdE.empty _ _ _ _)
          case' neg =>
            have HRD3 : Hid (RdS w2 (.slice (some ⟨hb_, off + 1, none⟩) m (cap2 - 1)) ps') := Lib.hid (by
              have := RdE.droppedF (m := 1) HRD2.out (by omega) hc1
              simpa using this)
          all_goals
            go_wp2_with fail
            refine (wup_any ⟨d1, d2, d3, d4, d5, d6⟩ _).mono ?_
            rintro e w3 ⟨rfl, hb3⟩
            have HB3 := Lib.hid (bl_trans (bl_alloc (Below.refl w2.heap.size w2) _) hb3)
            clear hb3
            go_wp2_with fail
            go_roundw
            case rel =>
              refine ⟨_, hh, _, _, _, rfl, rfl, hh4, rfl, by omega, Lib.hid ⟨ps', HM.out, GoI.next HR.out HUPT.out HLR.out (fun x hx => HLV.out x hx) HW2.out HRD3.out HSP2.out HK2.out HB3.out⟩⟩
            case measure => simp [intOf]
        | false =>
          have hx : (p.toList == [46, 46]) = false := by rw [ByteArray.toList_eq]; exact HUP.out
          have HSP2 : Hid (∀ x ∈ ps', x.size ≤ 1000000) := Lib.hid (fun x hx => HSP.out x (List.mem_cons_of_mem _ hx))
          have HSP1 : Hid (p.size ≤ maxLen) := Lib.hid (Nat.le_trans (HSP.out p (List.mem_cons_self ..)) (by decide))
          obtain ⟨r0, hr0, hr1, hr2⟩ := nd_get HND.out
          have HENT : Hid (∀ e, entOf (st.ents at') p = some e → ∃ y, st.nd e.node = some y ∧ 1 ≤ e.node ∧ e.node ≤ 16777215 ∧ validB y = true) := Lib.hid (fun e he => by
            rw [← hr2] at he
            obtain ⟨y, h1, h2, h3, h4⟩ := entry_node HF.out.toGood hr0 he
            exact ⟨y.nd, by unfold St.nd; rw [h1]; rfl, h3, h4, HF.out.val y (findN_mem h1)⟩)
          clear hr0 hr1 hr2
          obtain ⟨oe, hoe⟩ : ∃ oe, entOf (st.ents at') p = oe := ⟨_, rfl⟩
          have HOE := Lib.hid hoe
          clear hoe
          by_cases hc1 : cap2 = 1
          case' pos =>
            subst hc1
            obtain rfl : m = 0 := by omega
            have HRD3 : Hid (RdS w2 (.slice (some ⟨hb_, off, none⟩) 0 0) ps') := Lib.hid (by
              obtain rfl : ps' = [] := List.eq_nil_of_length_eq_zero HM.out.symm
              exact RdE.empty _ _ _ _)
          case' neg =>
            have HRD3 : Hid (RdS w2 (.slice (some ⟨hb_, off + 1, none⟩) m (cap2 - 1)) ps') := Lib.hid (by
              have := RdE.droppedF (m := 1) HRD2.out (by omega) hc1
              simpa using this)
            by_cases hm0 : m = 0
            case' pos =>
              subst hm0
            case' neg =>
              have hmb : ((m : Int) == 0) = false := by rw [beq_eq_false_iff_ne]; omega
          all_goals
            go_wp2_with fail
            refine (wentry_any (HW2.out.below (bl_alloc (Below.refl _ _) _)) (by omega) (fun _ => hrng.1) HSP1.out).mono ?_
            rintro e w3 ⟨rfl, hw3, hk3⟩
            rw [entry_dir HISD.out, HOE.out]
            have HW3 := Lib.hid hw3
            have HK23 := Lib.hid (KeptP.less (bl_alloc (Below.refl w2.heap.size w2) _) hk3 HW2.out.1 HW2.out.2.1 (fun x hx => hx))
            have HK3 := Lib.hid (HK2.out.trans (HK23.out.mono (fun x hx => HLR.out x hx)))
            have HE3 := Lib.hid (HE2.out.keep HK23.out.below)
            have HRD4 : Hid (RdS w3 _ ps') := Lib.hid (RdE.kept HRD3.out HK23.out (fun x hx => HLV.out x hx))
            have hp3 : w3.cell? ⟨pb, 1, none⟩ = some (.bool slash) := (HK23.out.cell (HLR.out _ (.inl rfl)) 1).trans hp2
            have hpl3 : pb < w3.heap.size := HW3.out.2.1 _ (HLR.out _ (.inl rfl))
            clear hw3 hk3 hp2 hpl2 hcn hh2 cx2 HW2 HK2 HE2 HRD2 HRD3 HK23
            cases oe with
            | none =>
              have HR : Hid (((109 : Int), (0 : Int)) = toP st ⟨ps, slash⟩ follow) := Lib.hid (by rw [← HRES.out, go_noent HND.out HDK.out HUP.out HOE.out])
              clear HRES HENT
              have e1 := HE3.out.cell 0 (by decide)
              have l1 : 0 < w3.heap.size := Nat.lt_of_lt_of_le (HE3.out.glt _ (by decide)) HE3.out.size
              have c1 : errOf E 109 = errV E 0 := errOf_code (g := 0) (by decide)
              have C1 := Lib.hid c1
              have HFIN : Hid (∀ w9, Below w3.heap.size w3 w9 → WB B L w9 b t dm st ∧ KeptP B L w w9) := Lib.hid (fun w9 hb9 => by
                refine ⟨(HW3.out.below hb9).less (fun x hx => HLR.out x (.inr hx)), (HKW.out.trans (HK3.out.mono (fun x hx => .inr hx))).then hb9 HW3.out.1 (fun x hx => HW3.out.2.1 x (HLR.out x (.inr hx)))⟩)
              clear c1
              simp only [Option.getD_none, noEn, encE, Option.isSome_none]
              go_wp2_with fail
              go_region
              go_wp2
              go_ret3
              rw [← HP.out]
              unfold GoR
              rw [← HR.out]
              exact ⟨⟨hh, by rw [← C1.out]; rfl⟩, HFIN.out _ (by repeat (first | exact Below.refl _ _ | refine bl_alloc ?_ _ | refine Below.drew ?_))⟩
            | some e =>
              obtain ⟨y, hy, hy1, hy2, hyv⟩ := HENT.out e HOE.out
              obtain ⟨q1, q2, q3⟩ := e
              simp only at hy hy1 hy2
              have HYND := Lib.hid hy
              have HYV := Lib.hid hyv
              clear hy hyv HENT
              simp only [Option.getD_some, encE, Option.isSome_some]
              go_wp2_with fail
              obtain ⟨w4, hw4⟩ : ∃ w4, w4 = w3.alloc (.cells #[.string q1, .int .i64 q2, .int .i64 q3] 51) := ⟨_, rfl⟩
              have h34 : Below w3.heap.size w3 w4 := by rw [hw4]; exact bl_alloc (Below.refl _ _) _
              have x4 : w4.cell? ⟨w3.heap.size, 1, none⟩ = some (.int .i64 q2) := by rw [hw4]; simp
              have l4 : w3.heap.size < w4.heap.size := by rw [hw4]; simp
              rw [← hw4]
              have HW4 := Lib.hid (HW3.out.below h34)
              have hc4 := HW4.out.c0
              have hlt4 := HW4.out.lt.1
              have hp4 : w4.cell? ⟨pb, 1, none⟩ = some (.bool slash) := (h34.cell (p := ⟨pb, 1, none⟩) hpl3).trans hp3
              have hpl4 : pb < w4.heap.size := Nat.lt_trans hpl3 (by omega)
              obtain ⟨y1, y2, y3, y4, y5, y6⟩ := y
              have S : ∀ w', ShH w4.heap.size (ndC ⟨y1, y2, y3, y4, y5, y6⟩) 59 w4 w' → w'.cell? ⟨b, 0, none⟩ = some (.pointer (some ⟨t, 0, none⟩)) ∧ w'.cell? ⟨w3.heap.size, 1, none⟩ = some (.int .i64 q2) :=
                fun w' hs => ⟨(hs.bel.cell (p := ⟨b, 0, none⟩) hlt4).trans hc4, (hs.bel.cell (p := ⟨w3.heap.size, 1, none⟩) l4).trans x4⟩
              have HG : Hid (∀ w', ShH w4.heap.size (ndC ⟨y1, y2, y3, y4, y5, y6⟩) 59 w4 w' → Calls Tryz.prog 54 #[.pointer (some ⟨t, 0, none⟩), .int .i64 q2] w' fun e w'' => e = .returned (.tuple #[.agg #[.int .i64 y1, .int .i64 y2, .int .i64 y3, .int .i64 y4, .string y5, .int .i64 y6], .bool true]) ∧ Below w'.heap.size w' w'') := Lib.hid fun w' hs => by
                have := wl_get (HW4.out.below hs.bel) (k := q2) (by omega)
                rw [HYND.out] at this
                exact this
              have H34 := Lib.hid h34
              clear hw4 h34
              apply wp_region_rel _ (by kernel_rfl) (by kernel_rfl) (fun w' => ShH w4.heap.size (ndC ⟨y1, y2, y3, y4, y5, y6⟩) 59 w4 w') (fun w' w'' => ShH w4.heap.size (ndC ⟨y1, y2, y3, y4, y5, y6⟩) 59 w' w'') (fun w' w'' h1 h2 => h1.trans h2) (ShH.refl _ _ _ _).drew
              repeat (first
                | (apply wpRel_fix (by rfl)
                   · intro w' hC hf R hR
                     have hS := S w' hC
                     go_simp
                     exact hR _ (ShH.refl _ _ _ _)
                   simp only [Act.put, List.setIfInBounds_toArray, List.set_cons_zero, List.set_cons_succ])
                | (apply wpRel_fix (by rfl)
                   · intro w' hC hf R hR
                     have hS := S w' hC
                     go_simp
                     refine (HG.out w' hC).mono ?_
                     rintro e w'' ⟨rfl, hb⟩
                     exact ⟨_, rfl, hR _ (ShH.of_below hb (Nat.le_trans hC.bel.size (Nat.le_refl _)))⟩
                   simp only [Act.put, List.setIfInBounds_toArray, List.set_cons_zero, List.set_cons_succ]))
              apply wpRel_rel (PtTy w4.heap.size ((ndC ⟨y1, y2, y3, y4, y5, y6⟩) : List Value).length 59) (by rfl) ptTy_keep
              · intro w' hC hf R hR
                go_simp
                exact hR _ _ ⟨_, rfl, hC.bel.size, TyB.new _ _ _ rfl⟩ (ShH.of_below (bl_alloc (Below.refl _ _) _) hC.bel.size)
              intro vptr
              simp only [Act.put, List.setIfInBounds_toArray, List.set_cons_zero, List.set_cons_succ]
              apply wpRel_dep 16 (PtRow w4.heap.size (ndC ⟨y1, y2, y3, y4, y5, y6⟩) 59) (by rfl) (by rfl) ptRow_keep
              · intro w' hC hf R hR
                obtain ⟨c, rfl, hc, hk⟩ := hf _ (List.mem_cons_self ..) (by kernel_rfl)
                obtain ⟨u0, e0⟩ := hk.cell (i := 0) (Nat.lt_of_lt_of_eq (by decide : 0 < 6) rfl)
                have f0 := hk.froz 0
                obtain ⟨u1, e1⟩ := hk.cell (i := 1) (Nat.lt_of_lt_of_eq (by decide : 1 < 6) rfl)
                have f1 := hk.froz 1
                obtain ⟨u2, e2⟩ := hk.cell (i := 2) (Nat.lt_of_lt_of_eq (by decide : 2 < 6) rfl)
                have f2 := hk.froz 2
                obtain ⟨u3, e3⟩ := hk.cell (i := 3) (Nat.lt_of_lt_of_eq (by decide : 3 < 6) rfl)
                have f3 := hk.froz 3
                obtain ⟨u4, e4⟩ := hk.cell (i := 4) (Nat.lt_of_lt_of_eq (by decide : 4 < 6) rfl)
                have f4 := hk.froz 4
                obtain ⟨u5, e5⟩ := hk.cell (i := 5) (Nat.lt_of_lt_of_eq (by decide : 5 < 6) rfl)
                have f5 := hk.froz 5
                have hN := Lib.hid hk
                clear hk
                go_simp
                exact hR _ _ (ptRow_mk hN.out hc) (ShH.setAll hN.out hc)
              intro vst
              simp only [Act.put, List.setIfInBounds_toArray, List.set_cons_zero, List.set_cons_succ]
              repeat (first
                | (apply wpRel_fix (by rfl)
                   · intro w' hC hf R hR
                     have hS := S w' hC
                     go_simp
                     exact hR _ (ShH.refl _ _ _ _)
                   simp only [Act.put, List.setIfInBounds_toArray, List.set_cons_zero, List.set_cons_succ]))
              refine wpRel_nil (fun w5 hC hf => ?_)
              obtain ⟨c, rfl, hc0, rw5⟩ : PtRow w4.heap.size (ndC ⟨y1, y2, y3, y4, y5, y6⟩) 59 vptr w5 := hf _ (List.mem_cons_self ..)
              have z0 : w5.cell? ⟨c, 0, none⟩ = some (.int .i64 y1) := (rw5.cell 0).trans rfl
              have z1 : w5.cell? ⟨c, 1, none⟩ = some (.int .i64 y2) := (rw5.cell 1).trans rfl
              have z2 : w5.cell? ⟨c, 2, none⟩ = some (.int .i64 y3) := (rw5.cell 2).trans rfl
              have z3 : w5.cell? ⟨c, 3, none⟩ = some (.int .i64 y4) := (rw5.cell 3).trans rfl
              have z4 : w5.cell? ⟨c, 4, none⟩ = some (.string y5) := (rw5.cell 4).trans rfl
              have z5 : w5.cell? ⟨c, 5, none⟩ = some (.int .i64 y6) := (rw5.cell 5).trans rfl
              have x5 : w5.cell? ⟨w3.heap.size, 1, none⟩ = some (.int .i64 q2) := (hC.bel.cell (p := ⟨w3.heap.size, 1, none⟩) l4).trans x4
              have hp5 : w5.cell? ⟨pb, 1, none⟩ = some (.bool slash) := (hC.bel.cell (p := ⟨pb, 1, none⟩) hpl4).trans hp4
              have hcl : c < w5.heap.size := rw5.lt
              have hpl5 : pb < w5.heap.size := Nat.lt_of_lt_of_le hpl4 hC.bel.size
              have H35 := Lib.hid (bl_trans H34.out hC.bel)
              have HW5 := Lib.hid (HW3.out.below H35.out)
              have HK5 := Lib.hid (HK3.out.trans (KeptP.of_below H35.out HW3.out.1 (fun x hx => HW3.out.2.1 x (HLR.out x hx))))
              have HE5 := Lib.hid (HE3.out.keep (H35.out.mono HW3.out.1))
              have HRD5 := Lib.hid (HRD4.out.below H35.out)
              have l35 : w3.heap.size < w5.heap.size := Nat.lt_of_lt_of_le l4 hC.bel.size
              clear S hf hC HG rw5 hc4 hlt4 x4 l4 hp4 hpl4 hp3 hpl3 H34 HW4 HW3 HK3 HE3 HRD4
              by_cases hk3 : y2 = 3
              · subst hk3
                by_cases hst : ps' = [] ∧ follow = false ∧ slash = false
                · obtain ⟨rfl, rfl, rfl⟩ := hst
                  try exact absurd HM.out hm0
                  all_goals
                    have HR : Hid (goH st false false (4 - hh) [] q2 = toP st ⟨ps, false⟩ false) := Lib.hid (by rw [← HRES.out, go_on HND.out HDK.out HUP.out HOE.out HYND.out (.inr ⟨rfl, rfl, rfl⟩)])
                    clear HRES
                    go_wp2_with fail
                    go_roundw
                    case rel =>
                      refine ⟨_, hh, _, _, _, rfl, rfl, hh4, rfl, by omega, Lib.hid ⟨_, HM.out, GoI.next HR.out (nd_some HYND.out) HLR.out (fun x hx => HLV.out x hx) HW5.out HRD5.out HSP2.out HK5.out (Below.refl _ _)⟩⟩
                    case measure => simp [intOf]
                · first
                    | (have _h := hmb)
                    | (have hpn : ps' = [] := List.eq_nil_of_length_eq_zero HM.out.symm
                       have hfs : follow = true ∨ (follow = false ∧ slash = true) := by
                         cases follow
                         · cases slash
                           · exact absurd ⟨hpn, rfl, rfl⟩ hst
                           · exact .inr ⟨rfl, rfl⟩
                         · exact .inl rfl
                       clear hpn
                       rcases hfs with rfl | ⟨rfl, rfl⟩)
                  all_goals
                    have HLN := Lib.hid (go_ln (h := 4 - hh) HND.out HDK.out HUP.out HOE.out HYND.out (by rintro (h1 | h1); exact h1 rfl; exact hst h1))
                    clear hst
                    by_cases hx4 : hh = 4
                    · have hxb : ((hh : Int) == 4) = true := by rw [beq_iff_eq]; omega
                      have HR : Hid (((116 : Int), (0 : Int)) = toP st ⟨ps, _⟩ _) := Lib.hid (by rw [← HRES.out, HLN.out, show 4 - hh = 0 by omega]; rfl)
                      clear HRES HLN hx4
                      have e1 := HE5.out.cell 13 (by decide)
                      have l1 : 13 < w5.heap.size := Nat.lt_of_lt_of_le (HE5.out.glt _ (by decide)) HE5.out.size
                      have c1 : errOf E 116 = errV E 13 := errOf_code (g := 13) (by decide)
                      have C1 := Lib.hid c1
                      have HFIN : Hid (∀ w9, Below w5.heap.size w5 w9 → WB B L w9 b t dm st ∧ KeptP B L w w9) := Lib.hid (fun w9 hb9 => by
                        refine ⟨(HW5.out.below hb9).less (fun x hx => HLR.out x (.inr hx)), (HKW.out.trans (HK5.out.mono (fun x hx => .inr hx))).then hb9 HW5.out.1 (fun x hx => HW5.out.2.1 x (HLR.out x (.inr hx)))⟩)
                      clear c1
                      go_wp2_with fail
                      go_region
                      go_wp2
                      go_ret3
                      rw [← HP.out]
                      unfold GoR
                      rw [← HR.out]
                      exact ⟨⟨_, by rw [← C1.out]; rfl⟩, HFIN.out _ (by repeat (first | exact Below.refl _ _ | refine bl_alloc ?_ _ | refine Below.drew ?_))⟩
                    · have hxb : ((hh : Int) == 4) = false := by rw [beq_eq_false_iff_ne]; omega
                      go_wp2_with fail
                      refine (wtarget_any ⟨y1, 3, y3, y4, y5, y6⟩ (by have := valid_tgt HYV.out; simp only at this ⊢; omega) at' w5 HE5.out).mono ?_
                      rintro e w6 ⟨⟨v, fr, rfl, hfr, hs6⟩, hb6⟩
                      obtain ⟨sp6, cap6, rfl⟩ := slShape hs6
                      have hcc := tgt_code y5 at'
                      have hpp := tgt_parts y5 at'
                      obtain ⟨tg, htg⟩ : ∃ tg, tgtOf y5 at' = tg := ⟨_, rfl⟩
                      simp only [htg] at hcc hpp hfr hs6 ⊢
                      have HTG := Lib.hid htg
                      clear htg
                      obtain ⟨⟨cc, ⟨qp, qs⟩⟩, fr2⟩ := tg
                      simp only at hcc hpp hfr hs6 ⊢
                      subst hfr
                      have HPP := Lib.hid hpp
                      have HS6 := Lib.hid hs6
                      have HB6 := Lib.hid hb6
                      obtain ⟨hk, hhk⟩ : ∃ hk, 4 - hh = hk + 1 := ⟨3 - hh, by omega⟩
                      have HH := Lib.hid hhk
                      have HW6 := Lib.hid (HW5.out.below hb6)
                      have HK6 := Lib.hid (HK5.out.trans (KeptP.of_below hb6 HW5.out.1 (fun x hx => HW5.out.2.1 x (HLR.out x hx))))
                      have HE6 := Lib.hid (HE5.out.below hb6)
                      have HRD6 := Lib.hid (HRD5.out.below hb6)
                      have HFIN : Hid (∀ w9, Below w6.heap.size w6 w9 → WB B L w9 b t dm st ∧ KeptP B L w w9) := Lib.hid (fun w9 hb9 => by
                        refine ⟨(HW6.out.below hb9).less (fun x hx => HLR.out x (.inr hx)), (HKW.out.trans (HK6.out.mono (fun x hx => .inr hx))).then hb9 HW6.out.1 (fun x hx => HW6.out.2.1 x (HLR.out x (.inr hx)))⟩)
                      clear hpp hs6 hb6 hhk hp5 hpl5 z0 z1 z2 z3 z4 z5 x5 hcl l35 HW5 HK5 HE5 HRD5
                      rcases hcc with rfl | rfl | rfl | rfl
                      · rw [show errOf E 0 = .nilIface from rfl]
                        have h0 := HRES.out
                        rw [HLN.out, HH.out, next_ok (by rw [HTG.out]), HTG.out] at h0
                        have HR := Lib.hid h0
                        clear h0
                        have HFR : Hid (∃ y, st.get fr = some y) := Lib.hid (by
                          rcases HPP.out.2.2 with h1 | h1
                          · obtain ⟨r, h2, _⟩ := HF.out.root
                            exact ⟨r, by rw [show fr = 1 from h1]; exact h2⟩
                          · exact ⟨y0, by rw [show fr = at' from h1]; exact HY.out⟩)
                        clear HRES HLN
                        go_wp2_with fail
                        refine (goes_cat HS6.out HRD6.out (by have := HPP.out.1; have := HM.out; omega) _).mono ?_
                        rintro e w7 ⟨⟨sp7, n7, cap7, rfl, hn7, hrd7, ho7⟩, hb7⟩
                        have HRD7 := Lib.hid hrd7
                        have HO7 := Lib.hid ho7
                        have HB7 := Lib.hid hb7
                        have hn7' : n7 ≤ 257 + ps'.length := by have := HPP.out.1; rw [List.length_append] at hn7; omega
                        have HN7 := Lib.hid hn7
                        clear hrd7 ho7 hb7 hn7
                        go_wp2_with fail
                        go_roundw
                        case rel =>
                          refine ⟨_, hh + 1, n7, sp7, cap7, rfl, by go_num, by omega, rfl, by have := HM.out; omega, Lib.hid ⟨_, HN7.out, by rw [show 4 - (hh + 1) = hk by have := HH.out; omega]; exact HR.out, HFR.out, ⟨fun x => (Value.slice sp7 n7 cap7).ownBlock = some x ∨ Lr x, fun x hx => .inr (HLR.out x hx), fun x hx => .inl hx, ?_⟩, HRD7.out, ?_, ?_⟩⟩
                          · refine HW6.out.loc' HB7.out (fun x hx => ?_)
                            rcases hx with hx | hx
                            · exact .inr (HO7.out x hx)
                            · exact .inl hx
                          · intro x hx
                            rcases List.mem_append.1 hx with h1 | h1
                            · exact HPP.out.2.1 x h1
                            · exact HSP2.out x h1
                          · exact HK6.out.trans (KeptP.of_below HB7.out HW6.out.1 (fun x hx => HW6.out.2.1 x (HLR.out x hx)))
                        case measure => have := HM.out; simp [intOf]; omega
                      · have c1 : errOf E 109 = errV E 0 := errOf_code (g := 0) (by decide)
                        rw [c1]
                        have C1 := Lib.hid c1
                        have HR : Hid (((109 : Int), (0 : Int)) = toP st ⟨ps, _⟩ _) := Lib.hid (by rw [← HRES.out, HLN.out, HH.out, next_bad (by rw [HTG.out]; show (109 : Int) ≠ 0; decide), HTG.out])
                        clear c1 HRES HLN
                        go_wp2_with fail
                        go_ret3
                        rw [← HP.out]
                        unfold GoR
                        rw [← HR.out]
                        exact ⟨⟨_, by rw [← C1.out]; rfl⟩, HFIN.out _ (by repeat (first | exact Below.refl _ _ | refine bl_alloc ?_ _ | refine Below.drew ?_))⟩
                      · have c1 : errOf E 114 = errV E 3 := errOf_code (g := 3) (by decide)
                        rw [c1]
                        have C1 := Lib.hid c1
                        have HR : Hid (((114 : Int), (0 : Int)) = toP st ⟨ps, _⟩ _) := Lib.hid (by rw [← HRES.out, HLN.out, HH.out, next_bad (by rw [HTG.out]; show (114 : Int) ≠ 0; decide), HTG.out])
                        clear c1 HRES HLN
                        go_wp2_with fail
                        go_ret3
                        rw [← HP.out]
                        unfold GoR
                        rw [← HR.out]
                        exact ⟨⟨_, by rw [← C1.out]; rfl⟩, HFIN.out _ (by repeat (first | exact Below.refl _ _ | refine bl_alloc ?_ _ | refine Below.drew ?_))⟩
                      · have c1 : errOf E 115 = errV E 8 := errOf_code (g := 8) (by decide)
                        rw [c1]
                        have C1 := Lib.hid c1
                        have HR : Hid (((115 : Int), (0 : Int)) = toP st ⟨ps, _⟩ _) := Lib.hid (by rw [← HRES.out, HLN.out, HH.out, next_bad (by rw [HTG.out]; show (115 : Int) ≠ 0; decide), HTG.out])
                        clear c1 HRES HLN
                        go_wp2_with fail
                        go_ret3
                        rw [← HP.out]
                        unfold GoR
                        rw [← HR.out]
                        exact ⟨⟨_, by rw [← C1.out]; rfl⟩, HFIN.out _ (by repeat (first | exact Below.refl _ _ | refine bl_alloc ?_ _ | refine Below.drew ?_))⟩
              · have hkb : (y2 == 3) = false := by rw [beq_eq_false_iff_ne]; exact hk3
                have hkc : (y2 != 3) = true := by simp [bne, hkb]
                have HR : Hid (goH st follow slash (4 - hh) ps' q2 = toP st ⟨ps, slash⟩ follow) := Lib.hid (by rw [← HRES.out, go_on HND.out HDK.out HUP.out HOE.out HYND.out (.inl hk3)])
                clear HRES
                go_wp2_with fail
                go_roundw
                case rel =>
                  refine ⟨_, hh, _, _, _, rfl, rfl, hh4, rfl, by omega, Lib.hid ⟨_, HM.out, GoI.next HR.out (nd_some HYND.out) HLR.out (fun x hx => HLV.out x hx) HW5.out HRD5.out HSP2.out HK5.out (Below.refl _ _)⟩⟩
                case measure => simp [intOf]
end
end Go.Proofs.YtjekpbkmhgfhoaaGreatDoor
end

section
/- What a tree owns can be told by its first cell; a relation between worlds for drawn regions that ask a tree and lay the answer into a new block; walk.To, walk.Last. -/
namespace Go.Proofs.YtjekpbkmhgfhoaaGreatDoor
open Go Go.RowKit
set_option maxRecDepth 100000
set_option linter.unusedSimpArgs false
set_option linter.unusedVariables false
attribute [local go_sem] giv
variable {E : Nat → Addr} {B : Nat}

/-- A block whose first cell is neither a pointer nor a map. -/
def Plain (w : World) (x : Nat) : Prop := ∃ v, w.cell? ⟨x, 0, none⟩ = some v ∧ (∀ p, v ≠ .pointer p) ∧ (∀ m, v ≠ .map m)
theorem map_nocell {w : World} {r : Nat} {es : Array MapEntry} {clk : Nat} (h : w.heap[r]? = some (.map es clk)) (o : Nat) : w.cell? ⟨r, o, none⟩ = none := by
  simp [World.cell?, h]
section
variable {L L' : Nat → Prop} {w w' : World} {b t dm : Nat} {nd : Int → Option Nd} {n : Nat} {last : Int} {de : Int → List En} {Q : Dirs → Prop}
open Classical in
theorem WL.more (h : WL B L w b t dm nd n last de Q) (h' : ∀ x, L' x → x < w.heap.size ∧ (L x ∨ Plain w x)) : WL B L' w b t dm nd n last de Q := by
  obtain ⟨h1, h2, nm, dirs, pn, lab, h3, h4, h5⟩ := h
  have key : ∀ x, (x = b ∨ OwnN t nm x ∨ x = dm ∨ ∃ k p, dirs k = some p ∧ OwnD p.1 p.2 x) → ¬ Plain w x := by
    rintro x hx ⟨v, hv, hp, hm⟩
    rcases hx with rfl | hx | rfl | ⟨k, p, hk, hx⟩
    · rw [h3.c0] at hv
      injection hv with hv
      exact hp _ hv.symm
    · rcases hx with rfl | hx
      · rw [h3.nodes.map] at hv
        injection hv with hv
        exact hm _ hv.symm
      · subst hx
        obtain ⟨_, es, clk, hh, _⟩ := h3.nodes.made
        rw [map_nocell hh] at hv
        cases hv
    · obtain ⟨es, clk, hh, _⟩ := h3.map
      rw [map_nocell hh] at hv
      cases hv
    · have hd := h3.own k p hk
      rcases hx with rfl | hx
      · rw [hd.1] at hv
        injection hv with hv
        exact hm _ hv.symm
      · obtain ⟨p1, p2⟩ := p
        simp only at hx hd
        subst hx
        obtain ⟨_, es, clk, hh, _⟩ := hd.2.2.2
        rw [map_nocell hh] at hv
        cases hv
  refine ⟨h1, fun x hx => (h' x hx).1, nm, dirs, pn, fun x => if (x = b ∨ OwnN t nm x ∨ x = dm ∨ ∃ k p, dirs k = some p ∧ OwnD p.1 p.2 x) then lab x else 0, ?_, ?_, h5⟩
  · refine ⟨h3.c0, h3.c1, h3.nodes, h3.map, h3.own, h3.bare, fun x hx => ?_, fun k p hk => ⟨(h3.labd k p hk).1, fun x hx => ?_⟩, ?_, ?_, fun x hx => ?_⟩
    · exact (if_pos (.inr (.inl hx))).trans (h3.labn x hx)
    · exact (if_pos (.inr (.inr (.inr ⟨k, p, hk, hx⟩)))).trans ((h3.labd k p hk).2 x hx)
    · exact (if_pos (.inl rfl)).trans h3.labb
    · exact (if_pos (.inr (.inr (.inl rfl)))).trans h3.labm
    · by_cases hc : x = b ∨ OwnN t nm x ∨ x = dm ∨ ∃ k p, dirs k = some p ∧ OwnD p.1 p.2 x
      · exact h3.lt x (by rwa [if_pos hc] at hx)
      · rw [if_neg hc] at hx; exact absurd rfl hx
  · intro x hx
    by_cases hc : x = b ∨ OwnN t nm x ∨ x = dm ∨ ∃ k p, dirs k = some p ∧ OwnD p.1 p.2 x
    · have hx2 : lab x ≠ 0 := by
        intro he
        exact hx ((if_pos hc).trans he)
      refine ⟨(h4 x hx2).1, fun hl => ?_⟩
      rcases (h' x hl).2 with h6 | h6
      · exact (h4 x hx2).2 h6
      · exact key x hc h6
    · exact absurd (if_neg hc) hx
end
def PlainV (v : Value) : Prop := (∀ p, v ≠ .pointer p) ∧ (∀ m, v ≠ .map m)
theorem plainI (k : IntKind) (n : Int) : PlainV (.int k n) := ⟨fun _ h => (by cases h), fun _ h => (by cases h)⟩
theorem plainS (s : ByteArray) : PlainV (.string s) := ⟨fun _ h => (by cases h), fun _ h => (by cases h)⟩
theorem plainSl (a : Option Addr) (n c : Nat) : PlainV (.slice a n c) := ⟨fun _ h => (by cases h), fun _ h => (by cases h)⟩
theorem Row.plain {w : World} {c : Nat} {ty : TypeId} {v : Value} {vs : List Value} (r : Row w c ty (v :: vs)) (h : PlainV v) : Plain w c := ⟨v, (r.cell 0).trans rfl, h⟩
/-- .. and what is asked of a tree leaves it as it was. -/
structure ShT (B : Nat) (L : Nat → Prop) (b t dm : Nat) (st : St) (base : Nat) (vals : List Value) (ty : TypeId) (w w' : World) : Prop where
  tree : WB B L w b t dm st → WB B L w' b t dm st
  kept : WB B L w b t dm st → KeptP B L w w'
  blk : ∀ c, TyB vals.length ty w c → Plain w c → TyB vals.length ty w' c ∧ Plain w' c
  hold : ∀ c, Plain w c → Row w c ty vals → Plain w' c ∧ Row w' c ty vals
section
variable {L : Nat → Prop} {b t dm : Nat} {st : St} {base : Nat} {vals : List Value} {ty : TypeId} {a w w' : World}
theorem ShT.refl (B : Nat) (L : Nat → Prop) (b t dm : Nat) (st : St) (base : Nat) (vals : List Value) (ty : TypeId) (w : World) : ShT B L b t dm st base vals ty w w := ⟨id, fun _ => KeptP.refl _ _ _, fun _ h k => ⟨h, k⟩, fun _ h k => ⟨h, k⟩⟩
theorem plain_lt {x : Nat} (h : Plain w x) : x < w.heap.size := by
  obtain ⟨v, hv, _⟩ := h
  rcases Nat.lt_or_ge x w.heap.size with h | h
  · exact h
  · simp [World.cell?, Array.getElem?_eq_none h] at hv
theorem plain_keep {x : Nat} (h : Plain w x) (hb : w'.heap[x]? = w.heap[x]?) : Plain w' x := by
  obtain ⟨v, hv, hp⟩ := h
  exact ⟨v, (World.cell?_of_block (w := w) hb).trans hv, hp⟩
theorem ShT.of_keep (ht : WB B L w b t dm st → WB B L w' b t dm st) (hk : WB B L w b t dm st → KeptP B L w w') (hp : ∀ x, Plain w x → w'.heap[x]? = w.heap[x]?) : ShT B L b t dm st base vals ty w w' :=
  ⟨ht, hk, fun x ⟨cs, h1, h2⟩ h3 => ⟨⟨cs, h1, (hp x h3).trans h2⟩, plain_keep h3 (hp x h3)⟩, fun x h3 h4 => ⟨plain_keep h3 (hp x h3), h4.keep (hp x h3)⟩⟩
theorem ShT.of_below (hb : Below w.heap.size w w') : ShT B L b t dm st base vals ty w w' :=
  ShT.of_keep (fun h => h.below hb) (fun h => h.kept hb) (fun x hx => hb.block x (plain_lt hx))
/-- A call that asks the tree. -/
theorem ShT.call (hw : WB B (fun x => L x ∨ (x < w.heap.size ∧ Plain w x)) w' b t dm st) (hk : KeptP B (fun x => L x ∨ (x < w.heap.size ∧ Plain w x)) w w') : ShT B L b t dm st base vals ty w w' :=
  ShT.of_keep (fun _ => hw.less (fun x hx => .inl hx)) (fun _ => hk.mono (fun x hx => .inl hx)) (fun x hx => hk.loc x (.inr ⟨plain_lt hx, hx⟩))
/-- What such a call may be asked at. -/
theorem WL.wide (h : WB B L w b t dm st) : WB B (fun x => L x ∨ (x < w.heap.size ∧ Plain w x)) w b t dm st :=
  h.more (fun x hx => by
    rcases hx with hx | hx
    · exact ⟨h.2.1 x hx, .inl hx⟩
    · exact ⟨hx.1, .inr hx.2⟩)
theorem setAll_wb {c : Nat} (hc : L c) : ∀ (l : List Value) (w : World) (i : Nat), WB B L w b t dm st → WB B L (setAll w c i l) b t dm st
  | [], _, _, h => h
  | v :: l, w, i, h => setAll_wb hc l _ _ (h.set (p := ⟨c, i, none⟩) hc v)
theorem setAll_kept {c : Nat} (hB : B ≤ c) (hc : ¬ L c) (l : List Value) (w : World) (i : Nat) : KeptP B L w (setAll w c i l) :=
  ⟨setAll_below hB l w i, fun x hx => setAll_other (fun e => hc (by rw [← e]; exact hx)) l w i⟩
theorem ShT.setAll {c : Nat} (hv : ∃ v vs, vals = v :: vs ∧ PlainV v) (h : TyB vals.length ty w c) (hp : Plain w c) (hB : B ≤ c) (hL : ¬ L c) : ShT B L b t dm st base vals ty w (setAll w c 0 vals) := by
  have hrow := setAll_row h
  have hpl : Plain (Go.Proofs.YtjekpbkmhgfhoaaGreatDoor.setAll w c 0 vals) c := by
    obtain ⟨v, vs, rfl, hv⟩ := hv
    exact hrow.plain hv
  refine ⟨fun hw => ?_, fun _ => setAll_kept hB hL _ _ _, fun x hx hx2 => ?_, fun x hx hx2 => ?_⟩
  · refine (setAll_wb (L := fun x => x = c ∨ L x) (.inl rfl) vals w 0 (hw.more (fun x hx => ?_))).less (fun x hx => .inr hx)
    rcases hx with rfl | hx
    · exact ⟨plain_lt hp, .inr hp⟩
    · exact ⟨hw.2.1 x hx, .inl hx⟩
  · by_cases he : x = c
    · subst he
      exact ⟨⟨vals.toArray, by simp, hrow⟩, hpl⟩
    · obtain ⟨cs, h1, h2⟩ := hx
      exact ⟨⟨cs, h1, (setAll_other he _ _ _).trans h2⟩, plain_keep hx2 (setAll_other he _ _ _)⟩
  · by_cases he : x = c
    · subst he; exact ⟨hpl, hrow⟩
    · exact ⟨plain_keep hx (setAll_other he _ _ _), hx2.keep (setAll_other he _ _ _)⟩
/-- A pointer to a block of k cells from base on. -/
def PtTyT (base k : Nat) (ty : TypeId) (v : Value) (w : World) : Prop := ∃ c, v = .pointer (some ⟨c, 0, none⟩) ∧ base ≤ c ∧ TyB k ty w c ∧ Plain w c
theorem ptTyT_keep (v : Value) (w w' : World) (h : PtTyT base vals.length ty v w) (hs : ShT B L b t dm st base vals ty w w') : PtTyT base vals.length ty v w' := by
  obtain ⟨c, h1, h2, h3, h4⟩ := h
  exact ⟨c, h1, h2, hs.blk c h3 h4⟩
def PtRowT (base : Nat) (vals : List Value) (ty : TypeId) (p : Value) (w : World) : Prop := ∃ c, p = .pointer (some ⟨c, 0, none⟩) ∧ base ≤ c ∧ Plain w c ∧ Row w c ty vals
theorem ptRowT_keep (p : Value) (w w' : World) (h : PtRowT base vals ty p w) (hs : ShT B L b t dm st base vals ty w w') : PtRowT base vals ty p w' := by
  obtain ⟨c, h1, h2, h3, h4⟩ := h
  exact ⟨c, h1, h2, hs.hold c h3 h4⟩
theorem ptRowT_mk {c : Nat} (hv : ∃ v vs, vals = v :: vs ∧ PlainV v) (h : TyB vals.length ty w c) (hc : base ≤ c) : PtRowT base vals ty (.pointer (some ⟨c, 0, none⟩)) (Go.Proofs.YtjekpbkmhgfhoaaGreatDoor.setAll w c 0 vals) := by
  have hrow := setAll_row h
  obtain ⟨v, vs, rfl, hv⟩ := hv
  exact ⟨c, rfl, hc, hrow.plain hv, hrow⟩
end
/-- A call's own cells beside a tree: block c is written, what stays stays. -/
structure Gd (B : Nat) (L L1 : Nat → Prop) (w : World) (b t dm : Nat) (st : St) (S : Nat → Prop) (w9 : World) : Prop where
  tree : WB B L1 w9 b t dm st
  kept : KeptP B L w w9
  sub : ∀ x, L x → L1 x
  own : ∀ c, S c → L1 c ∧ B ≤ c ∧ ¬ L c
section
variable {L L1 : Nat → Prop} {b t dm : Nat} {st : St} {w w9 : World} {S : Nat → Prop}
theorem Gd.below (h : Gd B L L1 w b t dm st S w9) {w' : World} (hb : Below w9.heap.size w9 w') : Gd B L L1 w b t dm st S w' :=
  ⟨h.tree.below hb, h.kept.then hb h.tree.1 (fun x hx => h.tree.2.1 x (h.sub x hx)), h.sub, h.own⟩
theorem Gd.alloc (h : Gd B L L1 w b t dm st S w9) (o : Obj) : Gd B L L1 w b t dm st S (w9.alloc o) := h.below (bl_alloc (Below.refl _ _) o)
theorem Gd.drew (h : Gd B L L1 w b t dm st S w9) : Gd B L L1 w b t dm st S w9.drew := h.below (Below.refl _ _).drew
theorem Gd.set (h : Gd B L L1 w b t dm st S w9) {c i : Nat} (hc : S c) (u : Value) : Gd B L L1 w b t dm st S (w9.setCell ⟨c, i, none⟩ u) := by
  obtain ⟨h1, h2, h3⟩ := h.own c hc
  exact ⟨h.tree.set h1 u, h.kept.set h2 h3 u, h.sub, h.own⟩
theorem Gd.out (h : Gd B L L1 w b t dm st S w9) : WB B L w9 b t dm st ∧ KeptP B L w w9 := ⟨h.tree.less h.sub, h.kept⟩
/-- A call that keeps the call's own cells. -/
theorem Gd.then (h : Gd B L L1 w b t dm st S w9) {w' : World} {st' : St} (hw : WB B L1 w' b t dm st') (hk : KeptP B L1 w9 w') : Gd B L L1 w b t dm st' S w' :=
  ⟨hw, h.kept.trans (hk.mono h.sub), h.sub, h.own⟩
theorem Gd.less {S' : Nat → Prop} (h : Gd B L L1 w b t dm st S w9) (hs : ∀ c, S' c → S c) : Gd B L L1 w b t dm st S' w9 := ⟨h.tree, h.kept, h.sub, fun c hc => h.own c (hs c hc)⟩
/-- New blocks of the call's own. -/
theorem Gd.first (h : WB B L w b t dm st) {w9 : World} (hb : Below w.heap.size w w9) {S : Nat → Prop} (hS : ∀ x, S x → w.heap.size ≤ x ∧ x < w9.heap.size) : Gd B L (fun x => S x ∨ L x) w b t dm st S w9 := by
  refine ⟨h.loc' hb (fun x hx => ?_), h.kept hb, fun x hx => .inr hx, fun c hc => ⟨.inl hc, Nat.le_trans h.1 (hS c hc).1, fun hl => ?_⟩⟩
  · rcases hx with hx | hx
    · exact .inr (hS x hx)
    · exact .inl hx
  · have := h.2.1 c hl
    have := (hS c hc).1
    omega
end

section
variable {L : Nat → Prop} {w : World} {b t dm : Nat} {st : St}
def ToR (E : Nat → Addr) (B : Nat) (L : Nat → Prop) (b t dm : Nat) (st : St) (R : Int × Int) (w : World) (e : Ending) (w' : World) : Prop :=
  e = .returned (.tuple #[.int .i64 R.2, errOf E R.1]) ∧ WB B L w' b t dm st ∧ KeptP B L w w'
theorem wto_any (h : WB B L w b t dm st) (f : Full st) {sp : Option Addr} {np cap : Nat} {ps : List ByteArray} (rp : RdS w (.slice sp np cap) ps) (hlen : ps.length ≤ 1000) (hsm : ∀ x ∈ ps, x.size ≤ 1000000) (follow slash : Bool) (hE : EnvM E B w) :
    Calls Tryz.prog 53 #[.pointer (some ⟨b, 0, none⟩), .agg #[.slice sp np cap, .bool slash], .bool follow] w (ToR E B L b t dm st (toP st ⟨ps, slash⟩ follow) w) := by
  have H := Lib.hid h
  have HF := Lib.hid f
  have HR := Lib.hid rp
  have HL := Lib.hid hlen
  have HS := Lib.hid hsm
  have HE := Lib.hid hE
  generalize hP : ToR E B L b t dm st (toP st ⟨ps, slash⟩ follow) w = Post
  have HP := Lib.hid hP
  clear h f rp hlen hsm hE hP
  go_enter Tryz.func53, Tryz.ntmps53
  go_wp2_with fail
  refine (goes_any (H.out.below (bl_alloc (Below.refl _ _) _)) HF.out (HR.out.below (bl_alloc (Below.refl _ _) _)) HL.out HS.out follow slash (HE.out.below (bl_alloc (Below.refl _ _) _))).mono ?_
  rintro e w1 ⟨⟨hops, rfl⟩, h1, k1⟩
  have H1 := Lib.hid h1
  have K1 := Lib.hid ((H.out.kept (bl_alloc (Below.refl _ _) _)).trans k1)
  clear h1 k1
  go_wp2
  rw [← HP.out]
  exact ⟨rfl, H1.out, K1.out⟩
/-- What Last answers. -/
def LastR (E : Nat → Addr) (B : Nat) (L : Nat → Prop) (b t dm : Nat) (st : St) (R : Int × Fnd) (w : World) (e : Ending) (w' : World) : Prop :=
  e = .returned (.tuple #[.agg #[.int .i64 R.2.dir, .int .i64 R.2.node, .string R.2.name], errOf E R.1]) ∧ WB B L w' b t dm st ∧ KeptP B L w w'
end
end Go.Proofs.YtjekpbkmhgfhoaaGreatDoor
end

section
/- The walk of package walk's Last. -/
namespace Go.Proofs.YtjekpbkmhgfhoaaGreatDoor
open Go Go.RowKit
set_option maxRecDepth 100000
set_option linter.unusedSimpArgs false
set_option linter.unusedVariables false
attribute [local go_sem] giv
variable {E : Nat → Addr} {B : Nat}

theorem errOf_some {c : Int} (h : 101 ≤ c ∧ c ≤ 124) : ∃ a, errOf E c = .iface 295 (.pointer (some a)) := by
  unfold errOf
  rw [if_neg (by omega)]
  exact ⟨_, rfl⟩
def CodeOk (c : Int) : Prop := c = 0 ∨ (101 ≤ c ∧ c ≤ 124)
theorem goParts_code {s : St} {follow slash : Bool} {next : ByteArray → Int → List ByteArray → Int × Int} (hn : ∀ t at' ps, CodeOk (next t at' ps).1) : ∀ (ps : List ByteArray) (at' : Int), CodeOk (goParts s follow slash next ps at').1 := by
  intro ps
  induction ps with
  | nil =>
    intro at'
    unfold goParts
    split
    · exact .inr (by decide)
    · exact .inl rfl
  | cons p ps ih =>
    intro at'
    unfold goParts
    split
    · exact .inr (by decide)
    · split
      · exact .inr (by decide)
      · split
        · exact ih _
        · split
          · exact .inr (by decide)
          · split
            · exact .inr (by decide)
            · split
              · exact ih _
              · exact hn _ _ _
theorem goH_code {s : St} {follow slash : Bool} : ∀ (h : Nat) (ps : List ByteArray) (at' : Int), CodeOk (goH s follow slash h ps at').1 := by
  intro h
  induction h with
  | zero =>
    unfold goH
    exact goParts_code fun t at' ps => .inr (by decide)
  | succ h ih =>
    unfold goH
    refine goParts_code fun t at' ps => ?_
    simp only
    split
    · rcases tgt_code t at' with h | h | h | h <;> rw [h] <;> first | exact .inl rfl | exact .inr (by decide)
    · exact ih _ _
theorem toP_code (s : St) (p : Pth) (follow : Bool) : CodeOk (toP s p follow).1 := goH_code _ _ _
section
variable {L : Nat → Prop} {w : World} {b t dm : Nat} {st : St}
theorem splitP_parts (p : Pth) : (splitP p).2.1.length ≤ p.parts.length ∧ (∀ x ∈ (splitP p).2.1, x ∈ p.parts) ∧ ((splitP p).1 = 0 → (splitP p).2.2 ∈ p.parts) := by
  unfold splitP
  split
  · simp
  · rename_i x hx
    split
    · simp
    · refine ⟨by simp, fun y hy => List.mem_of_mem_take (by rw [List.dropLast_eq_take] at hy; exact hy), fun _ => ?_⟩
      exact List.mem_of_getLast? hx
set_option maxHeartbeats 2000000 in
theorem wlast_any (h : WB B L w b t dm st) (f : Full st) {sp : Option Addr} {np cap : Nat} {ps : List ByteArray} (rp : RdS w (.slice sp np cap) ps) (hlen : ps.length ≤ 1000) (hsm : ∀ x ∈ ps, x.size ≤ 1000000) (slash : Bool) (hE : EnvM E B w) :
    Calls Tryz.prog 55 #[.pointer (some ⟨b, 0, none⟩), .agg #[.slice sp np cap, .bool slash]] w (LastR E B L b t dm st (lastP st ⟨ps, slash⟩) w) := by
  have H := Lib.hid h
  have HF := Lib.hid f
  have HR := Lib.hid rp
  have HL := Lib.hid hlen
  have HS := Lib.hid hsm
  have HE := Lib.hid hE
  generalize hP : LastR E B L b t dm st (lastP st ⟨ps, slash⟩) w = Post
  have HP := Lib.hid hP
  clear h f rp hlen hsm hE hP
  go_enter Tryz.func55, Tryz.ntmps55
  go_wp2_with fail
  obtain ⟨w1, hw1⟩ : ∃ w1, w1 = (w.alloc (.cells #[.slice sp np cap, .bool slash] 120)).alloc (.cells #[.int .i64 0, .int .i64 0, .string ⟨#[]⟩] 127) := ⟨_, rfl⟩
  have b1 : Below w.heap.size w w1 := by rw [hw1]; exact bl_alloc (bl_alloc (Below.refl _ _) _) _
  have z1 : w1.heap.size = w.heap.size + 2 := by rw [hw1]; simp
  have G1 := Lib.hid (Gd.first (B := B) H.out b1 (S := fun x => x = w.heap.size ∨ x = w.heap.size + 1) (fun x hx => by rcases hx with rfl | rfl <;> omega))
  have rp1 : Row w1 w.heap.size 120 [.slice sp np cap, .bool slash] := by rw [hw1]; exact (Row.new w _ [.slice sp np cap, .bool slash]).alloc _
  have rf1 : Row w1 (w.heap.size + 1) 127 [.int .i64 0, .int .i64 0, .string ⟨#[]⟩] := by
    have := Row.new (w.alloc (.cells #[.slice sp np cap, .bool slash] 120)) 127 [.int .i64 0, .int .i64 0, .string ⟨#[]⟩]
    rw [hw1]
    simpa using this
  -- BODY
  rw [← hw1]
  have HE1 := Lib.hid (HE.out.below b1)
  have HR1 := Lib.hid (HR.out.below b1)
  have RP1 := Lib.hid rp1
  have RF1 := Lib.hid rf1
  clear hw1 rp1 rf1 b1
  refine (psplit_any HR1.out (Nat.le_trans HL.out (by decide)) slash HE1.out.toEnv).mono ?_
  rintro e w2 ⟨v, rfl, hs2, hb2⟩
  obtain ⟨sp2, cap2, rfl⟩ := slShape hs2
  obtain ⟨q, hq⟩ : ∃ q, splitP ⟨ps, slash⟩ = q := ⟨_, rfl⟩
  have hqc := splitP_code ⟨ps, slash⟩
  have hqp := splitP_parts ⟨ps, slash⟩
  rw [hq] at hs2 hqc hqp
  rw [hq]
  have HQ := Lib.hid hq
  clear hq
  obtain ⟨qc, qp, qn⟩ := q
  simp only at hs2 hqc hqp
  have HQP := Lib.hid hqp
  have HS2 := Lib.hid hs2
  have G2 := Lib.hid (G1.out.below hb2)
  have HE2 := Lib.hid (HE1.out.below hb2)
  have RP2 := Lib.hid (RP1.out.below hb2)
  have RF2 := Lib.hid (RF1.out.below hb2)
  clear hqp hs2 hb2 z1 G1 HE1 HR1 RP1 RF1
  generalize hCC : w.heap.size + 1 = CC at *
  have gn1 : ¬ CC = 7 := by have h1 := HE.out.glt 7 (by decide); have h2 := HE.out.size; omega
  have gn2 : ¬ 7 = CC := fun h => gn1 h.symm
  have HCC := Lib.hid hCC
  clear hCC
  have x0 : w2.cell? ⟨CC, 0, none⟩ = some (.int .i64 0) := (RF2.out.cell 0).trans rfl
  have x1 : w2.cell? ⟨CC, 1, none⟩ = some (.int .i64 0) := (RF2.out.cell 1).trans rfl
  have x2 : w2.cell? ⟨CC, 2, none⟩ = some (.string ⟨#[]⟩) := (RF2.out.cell 2).trans rfl
  have xf : ∀ i, w2.frozen? ⟨CC, i, none⟩ = false := fun i => RF2.out.froz i
  have xl : CC < w2.heap.size := RF2.out.lt
  rcases hqc with rfl | rfl
  · rw [show errOf E 0 = .nilIface from rfl]
    -- TO
    clear x0 x1 x2 xf xl
    go_wp2_with fail
    have G3 := Lib.hid (G2.out.alloc (.cells #[.slice sp2 qp.length cap2, .bool false] 120))
    refine (wto_any G3.out.tree HF.out ((HS2.out.rd (fun _ => rfl)).below (bl_alloc (Below.refl _ _) _)) (by have h2 := HL.out; have h3 : qp.length ≤ ps.length := HQP.out.1; omega) (fun x hx => HS.out x (HQP.out.2.1 x hx)) true false (HE2.out.below (bl_alloc (Below.refl _ _) _))).mono ?_
    rintro e w4 ⟨rfl, h4, k4⟩
    obtain ⟨R, hR⟩ : ∃ R, toP st ⟨qp, false⟩ true = R := ⟨_, rfl⟩
    have htc := toP_code st ⟨qp, false⟩ true
    have hts : (toP st ⟨qp, false⟩ true).1 = 0 → ∃ y, st.get (toP st ⟨qp, false⟩ true).2 = some y := fun h => toP_some HF.out (show toP st ⟨qp, false⟩ true = (0, _) by rw [← h])
    rw [hR] at htc hts ⊢
    obtain ⟨tc, id⟩ := R
    simp only at htc ⊢
    have HTO := Lib.hid hR
    have HTS := Lib.hid hts
    have G4 := Lib.hid (G3.out.then h4 k4)
    have HE4 := Lib.hid (HE2.out.keep ((bl_alloc (Below.refl w2.heap.size w2) (.cells #[.slice sp2 qp.length cap2, .bool false] 120)).mono G2.out.tree.1 |>.trans k4.below))
    have RP4 := Lib.hid ((RP2.out.alloc (.cells #[.slice sp2 qp.length cap2, .bool false] 120)).keep (k4.loc _ (.inl (.inl rfl))))
    have RF4 := Lib.hid ((RF2.out.alloc (.cells #[.slice sp2 qp.length cap2, .bool false] 120)).keep (k4.loc _ (.inl (.inr rfl))))
    clear hR hts h4 k4 G3 G2 HE2 RP2 RF2 HS2
    rcases htc with rfl | htc
    · rw [show errOf E 0 = .nilIface from rfl]
      obtain ⟨y, hy⟩ := HTS.out rfl
      have hid : 1 ≤ id ∧ id ≤ 16777215 := by have := dir_ids HF.out.toGood hy; omega
      obtain ⟨isd, hisd⟩ : ∃ isd, st.isDir id = isd := ⟨_, rfl⟩
      have HISD := Lib.hid hisd
      clear hisd hy HTS
      go_wp2_with fail
      refine (wdir_any G4.out.tree (by omega)).mono ?_
      rintro e w5 ⟨rfl, hb5⟩
      rw [HISD.out]
      generalize (st.nd id).getD noNd = d at *
      obtain ⟨d1, d2, d3, d4, d5, d6⟩ := d
      simp only [encN]
      have G5 := Lib.hid (G4.out.below hb5)
      have HE5 := Lib.hid (HE4.out.below hb5)
      have RP5 := Lib.hid (RP4.out.below hb5)
      have RF5 := Lib.hid (RF4.out.below hb5)
      clear hb5 G4 HE4 RP4 RF4
      cases isd with
      | false =>
        have HLP : Hid (lastP st ⟨ps, slash⟩ = (111, noFnd)) := Lib.hid (by
          unfold lastP
          rw [HQ.out]
          simp only
          rw [HTO.out]
          simp only
          rw [dirOf_not HISD.out]
          rfl)
        have c1 : errOf E 111 = errV E 7 := errOf_code (g := 7) (by decide)
        have C1 := Lib.hid c1
        clear c1
        have x0 : w5.cell? ⟨CC, 0, none⟩ = some (.int .i64 0) := (RF5.out.cell 0).trans rfl
        have x1 : w5.cell? ⟨CC, 1, none⟩ = some (.int .i64 0) := (RF5.out.cell 1).trans rfl
        have x2 : w5.cell? ⟨CC, 2, none⟩ = some (.string ⟨#[]⟩) := (RF5.out.cell 2).trans rfl
        have xf : ∀ i, w5.frozen? ⟨CC, i, none⟩ = false := fun i => RF5.out.froz i
        have xl : CC < w5.heap.size := RF5.out.lt
        have e1 := HE5.out.cell 7 (by decide)
        have l1 : 7 < w5.heap.size := Nat.lt_of_lt_of_le (HE5.out.glt _ (by decide)) HE5.out.size
        go_wp2_with fail
        go_region
        go_wp2
        rw [← HP.out]
        refine bodyPost_ret (v := .tuple #[.agg #[.int .i64 0, .int .i64 0, .string ⟨#[]⟩], errV E 7]) (by simp [results, Tryz.results55, go_sem, x0, x1, x2, xl]) rfl ?_
        refine ⟨?_, (by repeat (first | exact G5.out | refine Gd.set ?_ (.inr rfl) _ | refine Gd.alloc ?_ _ | refine Gd.drew ?_) : Gd B L (fun x => (x = w.heap.size ∨ x = CC) ∨ L x) w b t dm st (fun x => x = w.heap.size ∨ x = CC) _).out⟩
        rw [HLP.out, ← C1.out]
        rfl
      | true =>
        -- ENT
        go_wp2_with fail
        have G5' := Lib.hid (G5.out.alloc (.cells #[.int .i64 d1, .int .i64 d2, .int .i64 d3, .int .i64 d4, .string d5, .int .i64 d6] 59))
        refine (wentry_any G5'.out.tree (by omega) (fun _ => hid.1) (Nat.le_trans (HS.out qn (HQP.out.2.2 trivial)) (by decide))).mono ?_
        rintro e w6 ⟨rfl, h6, k6⟩
        rw [entry_dir HISD.out]
        obtain ⟨oe, hoe⟩ : ∃ oe, entOf (st.ents id) qn = oe := ⟨_, rfl⟩
        rw [hoe]
        have G6 := Lib.hid (G5'.out.then h6 k6)
        have HE6 := Lib.hid (HE5.out.keep ((bl_alloc (Below.refl w5.heap.size w5) (.cells #[.int .i64 d1, .int .i64 d2, .int .i64 d3, .int .i64 d4, .string d5, .int .i64 d6] 59)).mono G5.out.tree.1 |>.trans k6.below))
        have RP6 := Lib.hid ((RP5.out.alloc (.cells #[.int .i64 d1, .int .i64 d2, .int .i64 d3, .int .i64 d4, .string d5, .int .i64 d6] 59)).keep (k6.loc _ (.inl (.inl rfl))))
        have RF6 := Lib.hid ((RF5.out.alloc (.cells #[.int .i64 d1, .int .i64 d2, .int .i64 d3, .int .i64 d4, .string d5, .int .i64 d6] 59)).keep (k6.loc _ (.inl (.inr rfl))))
        clear h6 k6 G5 G5' HE5 RP5 RF5
        have hen : 0 ≤ (oe.getD noEn).node ∧ (oe.getD noEn).node ≤ 16777215 := by
          cases oe with
          | none => simp [noEn]
          | some e =>
            obtain ⟨r0, hr0, hr1⟩ := dirOf_some (dirOf_isDir HISD.out)
            rw [← hr1.2] at hoe
            obtain ⟨y, h1, h2, h3, h4⟩ := entry_node HF.out.toGood hr0 hoe
            exact ⟨by simp only [Option.getD_some]; omega, h4⟩
        have HLP : Hid (lastP st ⟨ps, slash⟩ = if slash && oe.isSome && !st.isDir (oe.getD noEn).node then (111, noFnd) else (0, ⟨id, (oe.getD noEn).node, qn⟩)) := Lib.hid (by
          unfold lastP
          rw [HQ.out]
          simp only
          rw [HTO.out]
          simp only
          rw [dirOf_isDir HISD.out]
          simp only
          rw [hoe]
          cases oe with
          | none => simp [noEn]
          | some e => simp)
        clear hoe HQ HTO HQP
        obtain ⟨th, hth⟩ : ∃ th, oe.isSome = th := ⟨_, rfl⟩
        rw [hth] at HLP ⊢
        generalize oe.getD noEn = q at *
        clear hth
        obtain ⟨q1, q2, q3⟩ := q
        simp only [encE] at hen ⊢
        obtain ⟨isd, hisd⟩ : ∃ isd, st.isDir q2 = isd := ⟨_, rfl⟩
        simp only [hisd] at HLP
        have HISD2 := Lib.hid hisd
        clear hisd
        go_wp2_with fail
        have G6' := Lib.hid (G6.out.alloc (.cells #[.string q1, .int .i64 q2, .int .i64 q3] 51))
        have re : Row (w6.alloc (.cells #[.string q1, .int .i64 q2, .int .i64 q3] 51)) w6.heap.size 51 [.string q1, .int .i64 q2, .int .i64 q3] := Row.new w6 _ [.string q1, .int .i64 q2, .int .i64 q3]
        refine (wdir_any G6'.out.tree (by omega)).mono ?_
        rintro e w7 ⟨rfl, hb7⟩
        rw [HISD2.out]
        generalize (st.nd q2).getD noNd = d at *
        obtain ⟨d1, d2, d3, d4, d5, d6⟩ := d
        simp only [encN]
        have G7 := Lib.hid (G6'.out.below hb7)
        have hb67 := bl_trans (bl_alloc (Below.refl w6.heap.size w6) _) hb7
        have HE7 := Lib.hid (HE6.out.below hb67)
        have RP7 := Lib.hid (RP6.out.below hb67)
        have RF7 := Lib.hid (RF6.out.below hb67)
        have y1 : w7.cell? ⟨w6.heap.size, 1, none⟩ = some (.int .i64 q2) := ((re.below hb7).cell 1).trans rfl
        have yl : w6.heap.size < w7.heap.size := (re.below hb7).lt
        have xp : w7.cell? ⟨w.heap.size, 1, none⟩ = some (.bool slash) := (RP7.out.cell 1).trans rfl
        have xpl : w.heap.size < w7.heap.size := RP7.out.lt
        clear hb67 hb7 re G6 G6' HE6 RP6 RF6
        have x0 : w7.cell? ⟨CC, 0, none⟩ = some (.int .i64 0) := (RF7.out.cell 0).trans rfl
        have x1 : w7.cell? ⟨CC, 1, none⟩ = some (.int .i64 0) := (RF7.out.cell 1).trans rfl
        have x2 : w7.cell? ⟨CC, 2, none⟩ = some (.string ⟨#[]⟩) := (RF7.out.cell 2).trans rfl
        have xf : ∀ i, w7.frozen? ⟨CC, i, none⟩ = false := fun i => RF7.out.froz i
        have xl : CC < w7.heap.size := RF7.out.lt
        have e1 := HE7.out.cell 7 (by decide)
        have l1 : 7 < w7.heap.size := Nat.lt_of_lt_of_le (HE7.out.glt _ (by decide)) HE7.out.size
        have c1 : errOf E 111 = errV E 7 := errOf_code (g := 7) (by decide)
        have C1 := Lib.hid c1
        clear c1
        have hx : (slash = true ∧ th = true ∧ isd = false) ∨ ((slash && th && !isd) = false) := by cases slash <;> cases th <;> cases isd <;> simp
        rcases hx with ⟨rfl, rfl, rfl⟩ | hx
        · go_wp2_with fail
          go_region
          go_wp2
          rw [← HP.out]
          refine bodyPost_ret (v := .tuple #[.agg #[.int .i64 0, .int .i64 0, .string ⟨#[]⟩], errV E 7]) (by simp [results, Tryz.results55, go_sem, x0, x1, x2, xl]) rfl ?_
          refine ⟨?_, (by repeat (first | exact G7.out | refine Gd.set ?_ (.inr rfl) _ | refine Gd.alloc ?_ _ | refine Gd.drew ?_) : Gd B L (fun x => (x = w.heap.size ∨ x = CC) ∨ L x) w b t dm st (fun x => x = w.heap.size ∨ x = CC) _).out⟩
          rw [HLP.out, ← C1.out]
          rfl
        · have HX := Lib.hid hx
          clear hx
          cases slash <;> cases th <;> cases isd
          all_goals try exact absurd HX.out (by decide)
          all_goals
            go_wp2
            rw [← HP.out]
            refine bodyPost_ret (v := .tuple #[.agg #[.int .i64 id, .int .i64 q2, .string qn], .nilIface]) (by simp [results, Tryz.results55, go_sem, x0, x1, x2, xl]) rfl ?_
            refine ⟨?_, (by repeat (first | exact G7.out | refine Gd.set ?_ (.inr rfl) _ | refine Gd.alloc ?_ _ | refine Gd.drew ?_) : Gd B L (fun x => (x = w.heap.size ∨ x = CC) ∨ L x) w b t dm st (fun x => x = w.heap.size ∨ x = CC) _).out⟩
            rw [HLP.out]
            rfl
    · obtain ⟨ad, had⟩ := errOf_some (E := E) htc
      have hne : tc ≠ 0 := by omega
      have HLP : Hid (lastP st ⟨ps, slash⟩ = (tc, noFnd)) := Lib.hid (by
        unfold lastP
        rw [HQ.out]
        simp only
        rw [HTO.out]
        simp only
        rw [if_pos hne]
        rfl)
      rw [had]
      have C1 := Lib.hid had
      clear had hne htc
      have x0 : w4.cell? ⟨CC, 0, none⟩ = some (.int .i64 0) := (RF4.out.cell 0).trans rfl
      have x1 : w4.cell? ⟨CC, 1, none⟩ = some (.int .i64 0) := (RF4.out.cell 1).trans rfl
      have x2 : w4.cell? ⟨CC, 2, none⟩ = some (.string ⟨#[]⟩) := (RF4.out.cell 2).trans rfl
      have xf : ∀ i, w4.frozen? ⟨CC, i, none⟩ = false := fun i => RF4.out.froz i
      have xl : CC < w4.heap.size := RF4.out.lt
      go_wp2
      rw [← HP.out]
      refine bodyPost_ret (v := .tuple #[.agg #[.int .i64 0, .int .i64 0, .string ⟨#[]⟩], .iface 295 (.pointer (some ad))]) (by simp [results, Tryz.results55, go_sem, x0, x1, x2, xl]) rfl ?_
      refine ⟨?_, (by repeat (first | exact G4.out | refine Gd.set ?_ (.inr rfl) _ | refine Gd.alloc ?_ _ | refine Gd.drew ?_) : Gd B L (fun x => (x = w.heap.size ∨ x = CC) ∨ L x) w b t dm st (fun x => x = w.heap.size ∨ x = CC) _).out⟩
      rw [HLP.out, ← C1.out]
      rfl
  · have c1 : errOf E 114 = errV E 3 := errOf_code (g := 3) (by decide)
    have HLP : Hid (lastP st ⟨ps, slash⟩ = (114, noFnd)) := Lib.hid (by unfold lastP; rw [HQ.out]; rfl)
    rw [c1]
    have C1 := Lib.hid c1
    clear c1
    go_wp2
    rw [← HP.out]
    refine bodyPost_ret (v := .tuple #[.agg #[.int .i64 0, .int .i64 0, .string ⟨#[]⟩], errV E 3]) (by simp [results, Tryz.results55, go_sem, x0, x1, x2, xl]) rfl ?_
    refine ⟨?_, (by repeat (first | exact G2.out | refine Gd.set ?_ (.inr rfl) _ | refine Gd.alloc ?_ _ | refine Gd.drew ?_) : Gd B L (fun x => (x = w.heap.size ∨ x = CC) ∨ L x) w b t dm st (fun x => x = w.heap.size ∨ x = CC) _).out⟩
    rw [HLP.out, ← C1.out]
    rfl
end
end Go.Proofs.YtjekpbkmhgfhoaaGreatDoor
end

section
/- The walks of package tree, the small ones: put, add, drop, target, less, gone, full. -/
namespace Go.Proofs.YtjekpbkmhgfhoaaGreatDoor
open Go Go.RowKit
set_option maxRecDepth 100000
set_option linter.unusedSimpArgs false
set_option linter.unusedVariables false
attribute [local go_sem] giv
variable {E : Nat → Addr} {B : Nat}

/-- Block a is a tree: it leads to the world's block. -/
def TA (w : World) (a b : Nat) : Prop := w.cell? ⟨a, 0, none⟩ = some (.pointer (some ⟨b, 0, none⟩)) ∧ a < w.heap.size
theorem TA.below {w w' : World} {a b : Nat} (h : TA w a b) (hb : Below w.heap.size w w') : TA w' a b := ⟨(hb.cell (p := ⟨a, 0, none⟩) h.2).trans h.1, Nat.lt_of_lt_of_le h.2 hb.size⟩
theorem TA.kept {L : Nat → Prop} {w w' : World} {a b : Nat} (h : TA w a b) (hl : L a) (hk : KeptP B L w w') : TA w' a b := ⟨(hk.cell hl 0).trans h.1, Nat.lt_of_lt_of_le h.2 hk.below.size⟩
section
variable {L : Nat → Prop} {w : World} {a b t dm : Nat} {st : St}
theorem tput_ok (ha : TA w a b) (hl : L a) (h : WB B L w b t dm st) (hr : RiseN st.ns) (n : Nd) (hv : validB n = true) (hn : st.get n.id = none → st.ns.length < 512) (hE : Env E B w) :
    Calls Tryz.prog 77 #[.pointer (some ⟨a, 0, none⟩), encN n] w fun e w' => e = .returned (.bool true) ∧ WB B L w' b t dm (st.put n) ∧ KeptP B L w w' := by
  have H := Lib.hid h
  have HR := Lib.hid hr
  have HV := Lib.hid hv
  have HN := Lib.hid hn
  have HE := Lib.hid hE
  have HA := Lib.hid ha
  have HL := Lib.hid hl
  generalize hP : (fun (e : Ending) (w' : World) => e = .returned (.bool true) ∧ WB B L w' b t dm (st.put n) ∧ KeptP B L w w') = Post
  have HP := Lib.hid hP
  clear h hr hv hn hE ha hl hP
  obtain ⟨n1, n2, n3, n4, n5, n6⟩ := n
  simp only [encN]
  go_enter Tryz.func77, Tryz.ntmps77
  go_wp2_with fail
  obtain ⟨w1, hw1⟩ : ∃ w1, w1 = w.alloc (.cells #[.int .i64 n1, .int .i64 n2, .int .i64 n3, .int .i64 n4, .string n5, .int .i64 n6] 59) := ⟨_, rfl⟩
  have b1 : Below w.heap.size w w1 := by rw [hw1]; exact bl_alloc (Below.refl _ _) _
  have r1 : Row w1 w.heap.size 59 [.int .i64 n1, .int .i64 n2, .int .i64 n3, .int .i64 n4, .string n5, .int .i64 n6] := by rw [hw1]; exact Row.new w _ [.int .i64 n1, .int .i64 n2, .int .i64 n3, .int .i64 n4, .string n5, .int .i64 n6]
  rw [← hw1]
  have HA1 := Lib.hid (HA.out.below b1)
  have R1 := Lib.hid r1
  have H1 := Lib.hid (H.out.below b1)
  have B1 := Lib.hid b1
  clear hw1 b1 r1
  have S : ∀ w', Below w1.heap.size w1 w' → w'.cell? ⟨a, 0, none⟩ = some (.pointer (some ⟨b, 0, none⟩)) ∧ w'.cell? ⟨w.heap.size, 0, none⟩ = some (.int .i64 n1) ∧ w'.cell? ⟨w.heap.size, 1, none⟩ = some (.int .i64 n2) ∧ w'.cell? ⟨w.heap.size, 2, none⟩ = some (.int .i64 n3) ∧
      w'.cell? ⟨w.heap.size, 3, none⟩ = some (.int .i64 n4) ∧ w'.cell? ⟨w.heap.size, 4, none⟩ = some (.string n5) ∧ w'.cell? ⟨w.heap.size, 5, none⟩ = some (.int .i64 n6) := by
    intro w' hb
    have r := R1.out.below hb
    exact ⟨(HA1.out.below hb).1, (r.cell 0).trans rfl, (r.cell 1).trans rfl, (r.cell 2).trans rfl, (r.cell 3).trans rfl, (r.cell 4).trans rfl, (r.cell 5).trans rfl⟩
  apply wp_region_tail 5 _ (by kernel_rfl) (by kernel_rfl) (by kernel_rfl) (by decide) (fun w' => Below w1.heap.size w1 w') (fun w' w'' => Below w'.heap.size w' w'') (fun w' w'' h1 h2 => bl_trans h1 h2) (Below.refl _ _).drew
  simp only [List.take_succ_cons, List.take_zero, List.drop_succ_cons, List.drop_zero]
  repeat (first
    | (apply wpRel_skip (by rfl)
       simp only [Act.put, List.setIfInBounds_toArray, List.set_cons_zero, List.set_cons_succ])
    | (apply wpRel_fix (by rfl)
       · intro w' hC hf R hR
         have hS := S w' hC
         go_simp
         exact hR _ (Below.refl _ _)
       simp only [Act.put, List.setIfInBounds_toArray, List.set_cons_zero, List.set_cons_succ]))
  refine wpRel_nil (fun w2 hC hf => ?_)
  clear S hf
  have hb2 := B1.out.trans (hC.mono B1.out.size)
  go_wp2_with fail
  refine (wput_ok (H.out.below hb2) HR.out ⟨n1, n2, n3, n4, n5, n6⟩ HV.out HN.out (HE.out.below hb2)).mono ?_
  rintro e w3 ⟨rfl, h3, k3⟩
  have H3 := Lib.hid h3
  have K3 := Lib.hid ((H.out.kept hb2).trans k3)
  clear h3 k3 hC hb2
  go_wp2
  rw [← HP.out]
  exact ⟨rfl, H3.out, K3.out⟩
theorem tadd_ok (ha : TA w a b) (hl : L a) (h : WB B L w b t dm st) {k : Int} (hk : 1 ≤ k ∧ k ≤ 9223372036854775807) (hd : st.isDir k = true) (e : En) (hyes : addCode (entOf (st.ents k)) e = 0) (hE : Env E B w) :
    Calls Tryz.prog 78 #[.pointer (some ⟨a, 0, none⟩), .int .i64 k, encE e] w fun v w' => v = .returned .nilIface ∧ WB B L w' b t dm (st.addE k e) ∧ KeptP B L w w' := by
  have H := Lib.hid h
  have HD := Lib.hid hd
  have HY := Lib.hid hyes
  have HE := Lib.hid hE
  have HA := Lib.hid ha
  have HL := Lib.hid hl
  generalize hP : (fun (v : Ending) (w' : World) => v = .returned .nilIface ∧ WB B L w' b t dm (st.addE k e) ∧ KeptP B L w w') = Post
  have HP := Lib.hid hP
  clear h hd hyes hE hl hP ha
  obtain ⟨e1, e2, e3⟩ := e
  simp only [encE]
  have a0 := (HA.out.below (bl_alloc (Below.refl w.heap.size w) (.cells #[.string e1, .int .i64 e2, .int .i64 e3] 51))).1
  have al := HA.out.2
  have aw := HA.out.1
  go_enter Tryz.func78, Tryz.ntmps78
  go_wp2_with fail
  refine (wDir_yes (H.out.loc _) hk HD.out).mono ?_
  rintro v w1 ⟨x, rfl, h1, k1⟩
  have r1 := (Row.new w 51 [.string e1, .int .i64 e2, .int .i64 e3]).keep (k1.loc _ (.inl rfl))
  have x0 : w1.cell? ⟨w.heap.size, 0, none⟩ = some (.string e1) := (r1.cell 0).trans rfl
  have x1 : w1.cell? ⟨w.heap.size, 1, none⟩ = some (.int .i64 e2) := (r1.cell 1).trans rfl
  have x2 : w1.cell? ⟨w.heap.size, 2, none⟩ = some (.int .i64 e3) := (r1.cell 2).trans rfl
  have H1 := Lib.hid (WL.less (L' := L) h1 (fun x hx => .inr hx))
  have K1 := Lib.hid (KeptP.less (bl_alloc (Below.refl w.heap.size w) _) k1 H.out.1 H.out.2.1 (fun x hx => .inr hx))
  clear h1 k1 r1 a0 al aw
  go_wp2_with fail
  refine (wb_dadd H1.out ⟨e1, e2, e3⟩ HY.out (HE.out.keep K1.out.below)).mono ?_
  rintro v w2 ⟨rfl, h2, k2⟩
  have H2 := Lib.hid h2
  have K2 := Lib.hid (K1.out.trans k2)
  clear h2 k2
  go_wp2
  rw [← HP.out]
  exact ⟨rfl, H2.out, K2.out⟩
end
end Go.Proofs.YtjekpbkmhgfhoaaGreatDoor
end

section
/- The walks of package tree: target, fresh. -/
namespace Go.Proofs.YtjekpbkmhgfhoaaGreatDoor
open Go Go.RowKit
set_option maxRecDepth 100000
set_option linter.unusedSimpArgs false
set_option linter.unusedVariables false
attribute [local go_sem] giv
variable {E : Nat → Addr} {B : Nat}

def nulC (z : Bool) : Int := if z then 114 else 0
theorem ttarget_any (s : ByteArray) (w : World) (hE : Env E B w) : Calls Tryz.prog 103 #[.string s] w fun e w' => e = .returned (errOf E (tgtCode s)) ∧ Below w.heap.size w w' := by
  have e1 := hE.cell 0 (by decide)
  have l1 : 0 < w.heap.size := Nat.lt_of_lt_of_le (hE.glt _ (by decide)) hE.size
  have e2 := hE.cell 8 (by decide)
  have l2 : 8 < w.heap.size := Nat.lt_of_lt_of_le (hE.glt _ (by decide)) hE.size
  have e3 := hE.cell 3 (by decide)
  have l3 : 3 < w.heap.size := Nat.lt_of_lt_of_le (hE.glt _ (by decide)) hE.size
  have C1 := Lib.hid (show errOf E 109 = errV E 0 from errOf_code (g := 0) (by decide))
  have C2 := Lib.hid (show errOf E 115 = errV E 8 from errOf_code (g := 8) (by decide))
  have C3 := Lib.hid (show errOf E 114 = errV E 3 from errOf_code (g := 3) (by decide))
  clear hE
  generalize hP : (fun (e : Ending) (w' : World) => e = .returned (errOf E (tgtCode s)) ∧ Below w.heap.size w w') = Post
  have HP := Lib.hid hP
  clear hP
  by_cases h0 : s.data.toList = []
  · have HT : Hid (tgtCode s = 109) := Lib.hid (by unfold tgtCode; rw [if_pos h0])
    have hs : s.toList = [] := by rw [ByteArray.toList_eq]; exact h0
    clear h0
    go_enter Tryz.func103, Tryz.ntmps103
    go_wp2
    rw [← HP.out]
    exact ⟨by rw [HT.out, C1.out]; rfl, Below.refl _ _⟩
  · have h0' : ¬ s.toList = [] := by rw [ByteArray.toList_eq]; exact h0
    have h0'' := ne_list h0
    by_cases h8 : 88 < s.size
    · have HT : Hid (tgtCode s = 115) := Lib.hid (by unfold tgtCode; rw [if_neg h0, if_pos h8])
      have h9 : (s.size : Int) > 88 := by omega
      clear h0 h8
      go_enter Tryz.func103, Tryz.ntmps103
      go_wp2
      rw [← HP.out]
      exact ⟨by rw [HT.out, C2.out]; rfl, Below.refl _ _⟩
    · have h9 : ¬ (s.size : Int) > 88 := by omega
      obtain ⟨z, hz⟩ : ∃ z, s.data.toList.contains 0 = z := ⟨_, rfl⟩
      have HT : Hid (tgtCode s = nulC z) := Lib.hid (by unfold tgtCode nulC; rw [if_neg h0, if_neg h8, hz])
      have HZ := Lib.hid hz
      clear h0 h8 hz
      go_enter Tryz.func103, Tryz.ntmps103
      go_wp2_with fail
      refine (contains_one _ _ _).mono ?_
      rintro e w1 ⟨rfl, rfl⟩
      rw [HZ.out]
      cases z with
      | true =>
        go_wp2
        rw [← HP.out]
        exact ⟨by rw [HT.out, show nulC true = 114 from rfl, C3.out]; rfl, Below.refl _ _⟩
      | false =>
        go_wp2
        rw [← HP.out]
        exact ⟨by rw [HT.out, show nulC false = 0 from rfl]; rfl, Below.refl _ _⟩
theorem lastP_code (s : St) (p : Pth) : CodeOk (lastP s p).1 := by
  unfold lastP
  simp only
  rcases splitP_code p with h | h
  · rw [if_neg (by rw [h]; decide)]
    split
    · exact toP_code _ _ _
    · split
      · exact .inr (by decide)
      · split
        · exact .inl rfl
        · split
          · exact .inr (by decide)
          · exact .inl rfl
  · rw [if_pos (by rw [h]; decide)]
    exact .inr (by rw [h]; decide)
section
variable {L : Nat → Prop} {w : World} {a b t dm : Nat} {st : St}
set_option maxHeartbeats 2000000 in
theorem tfresh_any (ha : TA w a b) (hl : L a) (h : WB B L w b t dm st) (f : Full st) {sp : Option Addr} {np cap : Nat} {ps : List ByteArray} (rp : RdS w (.slice sp np cap) ps) (hlp : ∀ x, (Value.slice sp np cap).ownBlock = some x → L x) (hlen : ps.length ≤ 1000) (hsm : ∀ x ∈ ps, x.size ≤ 1000000) (pslash slash : Bool) (hE : EnvM E B w) :
    Calls Tryz.prog 104 #[.pointer (some ⟨a, 0, none⟩), .agg #[.slice sp np cap, .bool pslash], .bool slash] w (LastR E B L b t dm st (freshP st ⟨ps, pslash⟩ slash) w) := by
  have H := Lib.hid h
  have HF := Lib.hid f
  have HR := Lib.hid rp
  have HLP := Lib.hid hlp
  have HL := Lib.hid hlen
  have HS := Lib.hid hsm
  have HE := Lib.hid hE
  have HA := Lib.hid ha
  have HLA := Lib.hid hl
  generalize hP : LastR E B L b t dm st (freshP st ⟨ps, pslash⟩ slash) w = Post
  have HP := Lib.hid hP
  clear h f rp hlen hsm hE hP ha hl hlp
  go_enter Tryz.func104, Tryz.ntmps104
  go_wp2_with fail
  obtain ⟨w1, hw1⟩ : ∃ w1, w1 = (w.alloc (.cells #[.slice sp np cap, .bool pslash] 120)).alloc (.cells #[.int .i64 0, .int .i64 0, .string ⟨#[]⟩] 127) := ⟨_, rfl⟩
  have b1 : Below w.heap.size w w1 := by rw [hw1]; exact bl_alloc (bl_alloc (Below.refl _ _) _) _
  have z1 : w1.heap.size = w.heap.size + 2 := by rw [hw1]; simp
  have G1 := Lib.hid (Gd.first (B := B) H.out b1 (S := fun x => x = w.heap.size ∨ x = w.heap.size + 1) (fun x hx => by rcases hx with rfl | rfl <;> omega))
  have rp1 : Row w1 w.heap.size 120 [.slice sp np cap, .bool pslash] := by rw [hw1]; exact (Row.new w _ [.slice sp np cap, .bool pslash]).alloc _
  have rf1 : Row w1 (w.heap.size + 1) 127 [.int .i64 0, .int .i64 0, .string ⟨#[]⟩] := by
    have := Row.new (w.alloc (.cells #[.slice sp np cap, .bool pslash] 120)) 127 [.int .i64 0, .int .i64 0, .string ⟨#[]⟩]
    rw [hw1]
    simpa using this
  rw [← hw1]
  have HE1 := Lib.hid (HE.out.below b1)
  have HR1 := Lib.hid (HR.out.below b1)
  have HA1 := Lib.hid (HA.out.below b1)
  have RP1 := Lib.hid rp1
  have RF1 := Lib.hid rf1
  clear hw1 rp1 rf1 b1 z1
  generalize hCC : w.heap.size + 1 = CC at *
  have gn1 : ¬ CC = 14 := by have h1 := HE.out.glt 14 (by decide); have h2 := HE.out.size; omega
  have gn2 : ¬ 14 = CC := fun h => gn1 h.symm
  have gn3 : ¬ CC = 0 := by have h1 := HE.out.glt 0 (by decide); have h2 := HE.out.size; omega
  have gn4 : ¬ 0 = CC := fun h => gn3 h.symm
  have HCC := Lib.hid hCC
  clear hCC
  obtain ⟨L1, hL1⟩ : ∃ L1 : Nat → Prop, L1 = fun x => (x = w.heap.size ∨ x = CC) ∨ L x := ⟨_, rfl⟩
  obtain ⟨R, hR⟩ : ∃ R, lastP st ⟨ps, pslash⟩ = R := ⟨_, rfl⟩
  obtain ⟨lc, ld, ln, lname⟩ := R
  have HLAST := Lib.hid hR
  have hlc := lastP_code st ⟨ps, pslash⟩
  rw [hR] at hlc
  simp only at hlc
  have HLC := Lib.hid hlc
  have HW0 : Hid (WB B L1 w1 b t dm st) := Lib.hid (hL1 ▸ G1.out.tree)
  have S : ∀ w', WB B L1 w' b t dm st ∧ KeptP B L1 w1 w' → w'.cell? ⟨a, 0, none⟩ = some (.pointer (some ⟨b, 0, none⟩)) ∧ w'.cell? ⟨w.heap.size, 0, none⟩ = some (.slice sp np cap) ∧ w'.cell? ⟨w.heap.size, 1, none⟩ = some (.bool pslash) := by
    intro w' hc
    have k1 : L1 w.heap.size := by rw [hL1]; exact .inl (.inl rfl)
    have k2 : L1 a := by rw [hL1]; exact .inr HLA.out
    exact ⟨(HA1.out.kept k2 hc.2).1, (hc.2.cell k1 0).trans ((RP1.out.cell 0).trans rfl), (hc.2.cell k1 1).trans ((RP1.out.cell 1).trans rfl)⟩
  have HT : Hid (∀ w', WB B L1 w' b t dm st ∧ KeptP B L1 w1 w' → Calls Tryz.prog 55 #[.pointer (some ⟨b, 0, none⟩), .agg #[.slice sp np cap, .bool pslash]] w' fun e w'' =>
      e = .returned (.tuple #[.agg #[.int .i64 ld, .int .i64 ln, .string lname], errOf E lc]) ∧ WB B (fun x => L1 x ∨ (x < w'.heap.size ∧ Plain w' x)) w'' b t dm st ∧ KeptP B (fun x => L1 x ∨ (x < w'.heap.size ∧ Plain w' x)) w' w'') := Lib.hid (by
    intro w' hc
    have := wlast_any (WL.wide hc.1) HF.out (RdE.kept HR1.out hc.2 (fun x hx => by rw [hL1]; exact .inr (HLP.out x hx))) HL.out HS.out pslash (HE1.out.keep hc.2.below)
    unfold LastR at this
    rw [HLAST.out] at this
    exact this)
  clear hlc hR
  apply wp_region_rel _ (by kernel_rfl) (by kernel_rfl) (fun w' => WB B L1 w' b t dm st ∧ KeptP B L1 w1 w') (fun w' w'' => ShT B L1 b t dm st w1.heap.size [.int .i64 ld, .int .i64 ln, .string lname] 127 w' w'') (fun w' w'' h1 h2 => ⟨h2.tree h1.1, h1.2.trans (h2.kept h1.1)⟩) ⟨HW0.out.below (Below.refl _ _).drew, HW0.out.kept (Below.refl _ _).drew⟩
  repeat (first
    | (apply wpRel_fix (by rfl)
       · intro w' hC hf R hR
         have hS := S w' hC
         go_simp
         exact hR _ (ShT.refl _ _ _ _ _ _ _ _ _ _)
       simp only [Act.put, List.setIfInBounds_toArray, List.set_cons_zero, List.set_cons_succ])
    | (apply wpRel_fix (by rfl)
       · intro w' hC hf R hR
         have hS := S w' hC
         go_simp
         refine (HT.out w' hC).mono ?_
         rintro e w'' ⟨rfl, hw9, hk9⟩
         exact ⟨_, rfl, hR _ (ShT.call hw9 hk9)⟩
       simp only [Act.put, List.setIfInBounds_toArray, List.set_cons_zero, List.set_cons_succ]))
  apply wpRel_rel (PtTyT w1.heap.size ([.int .i64 ld, .int .i64 ln, .string lname] : List Value).length 127) (by rfl) ptTyT_keep
  · intro w' hC hf R hR
    go_simp
    exact hR _ _ ⟨_, rfl, hC.2.below.size, TyB.new _ _ _ rfl, ⟨_, (Row.new w' _ _).cell 0, by first | exact plainI _ _ | exact plainS _ | exact plainSl _ _ _⟩⟩ (ShT.of_below (bl_alloc (Below.refl _ _) _))
  intro vptr
  simp only [Act.put, List.setIfInBounds_toArray, List.set_cons_zero, List.set_cons_succ]
  apply wpRel_dep 8 (PtRowT w1.heap.size [.int .i64 ld, .int .i64 ln, .string lname] 127) (by rfl) (by rfl) ptRowT_keep
  · intro w' hC hf R hR
    obtain ⟨c, rfl, hc, hk, hpl⟩ := hf _ (List.mem_cons_self ..) (by kernel_rfl)
    obtain ⟨u0, e0⟩ := hk.cell (i := 0) (Nat.lt_of_lt_of_eq (by decide : 0 < 3) rfl)
    have f0 := hk.froz 0
    obtain ⟨u1, e1⟩ := hk.cell (i := 1) (Nat.lt_of_lt_of_eq (by decide : 1 < 3) rfl)
    have f1 := hk.froz 1
    obtain ⟨u2, e2⟩ := hk.cell (i := 2) (Nat.lt_of_lt_of_eq (by decide : 2 < 3) rfl)
    have f2 := hk.froz 2
    have hN := Lib.hid hk
    have hM := Lib.hid hpl
    clear hk hpl
    go_simp
    exact hR _ _ (ptRowT_mk ⟨_, _, rfl, (by first | exact plainI _ _ | exact plainS _ | exact plainSl _ _ _)⟩ hN.out hc) (ShT.setAll ⟨_, _, rfl, (by first | exact plainI _ _ | exact plainS _ | exact plainSl _ _ _)⟩ hN.out hM.out (Nat.le_trans HW0.out.1 hc) (fun hl => absurd (HW0.out.2.1 _ hl) (by omega)))
  intro vst
  simp only [Act.put, List.setIfInBounds_toArray, List.set_cons_zero, List.set_cons_succ]
  repeat (first
    | (apply wpRel_fix (by rfl)
       · intro w' hC hf R hR
         have hS := S w' hC
         go_simp
         exact hR _ (ShT.refl _ _ _ _ _ _ _ _ _ _)
       simp only [Act.put, List.setIfInBounds_toArray, List.set_cons_zero, List.set_cons_succ]))
  refine wpRel_nil (fun w2 hC hf => ?_)
  obtain ⟨c, rfl, hc0, hcp, rw2⟩ : PtRowT w1.heap.size [.int .i64 ld, .int .i64 ln, .string lname] 127 vptr w2 := hf _ (List.mem_cons_self ..)
  have G2 : Hid (Gd B L L1 w b t dm st (fun x => x = w.heap.size ∨ x = CC) w2) := Lib.hid (by
    have g := G1.out
    rw [← hL1] at g
    exact g.then hC.1 hC.2)
  have k1 : L1 w.heap.size := by rw [hL1]; exact .inl (.inl rfl)
  have k2 : L1 CC := by rw [hL1]; exact .inl (.inr rfl)
  have RF2 := Lib.hid (RF1.out.keep (hC.2.loc _ k2))
  have xp : w2.cell? ⟨w.heap.size, 1, none⟩ = some (.bool pslash) := (hC.2.cell k1 1).trans ((RP1.out.cell 1).trans rfl)
  have xpl : w.heap.size < w2.heap.size := hC.1.2.1 _ k1
  have x0 : w2.cell? ⟨CC, 0, none⟩ = some (.int .i64 0) := (RF2.out.cell 0).trans rfl
  have x1 : w2.cell? ⟨CC, 1, none⟩ = some (.int .i64 0) := (RF2.out.cell 1).trans rfl
  have x2 : w2.cell? ⟨CC, 2, none⟩ = some (.string ⟨#[]⟩) := (RF2.out.cell 2).trans rfl
  have xf : ∀ i, w2.frozen? ⟨CC, i, none⟩ = false := fun i => RF2.out.froz i
  have xl : CC < w2.heap.size := RF2.out.lt
  have y0 : w2.cell? ⟨c, 0, none⟩ = some (.int .i64 ld) := (rw2.cell 0).trans rfl
  have y1 : w2.cell? ⟨c, 1, none⟩ = some (.int .i64 ln) := (rw2.cell 1).trans rfl
  have y2 : w2.cell? ⟨c, 2, none⟩ = some (.string lname) := (rw2.cell 2).trans rfl
  have yl : c < w2.heap.size := rw2.lt
  have HE2 := Lib.hid (HE1.out.keep hC.2.below)
  clear S hf hC HT rw2 hcp k1 k2
  rcases HLC.out with hz | hz
  · have HQ0 : Hid (freshP st ⟨ps, pslash⟩ slash = if 0 < ln then (110, noFnd) else if pslash && !slash then (109, noFnd) else (0, ⟨ld, ln, lname⟩)) := Lib.hid (by
      unfold freshP
      rw [HLAST.out, hz]
      rfl)
    subst hz
    rw [show errOf E 0 = .nilIface from rfl]
    by_cases hn : 0 < ln
    · have hn' : ln > 0 := hn
      have HQ : Hid (freshP st ⟨ps, pslash⟩ slash = (110, noFnd)) := Lib.hid (by rw [HQ0.out, if_pos hn])
      have c1 : errOf E 110 = errV E 14 := errOf_code (g := 14) (by decide)
      have C1 := Lib.hid c1
      have e1 := HE2.out.cell 14 (by decide)
      have l1 : 14 < w2.heap.size := Nat.lt_of_lt_of_le (HE2.out.glt _ (by decide)) HE2.out.size
      clear c1
      go_wp2_with fail
      go_region
      go_wp2
      rw [← HP.out]
      refine bodyPost_ret (v := .tuple #[.agg #[.int .i64 0, .int .i64 0, .string ⟨#[]⟩], errV E 14]) (by simp [results, Tryz.results104, go_sem, x0, x1, x2, y0, y1, y2, yl, xl]) rfl ?_
      refine ⟨?_, (by repeat (first | exact G2.out | refine Gd.set ?_ (.inr rfl) _ | refine Gd.alloc ?_ _ | refine Gd.drew ?_) : Gd B L L1 w b t dm st (fun x => x = w.heap.size ∨ x = CC) _).out⟩
      rw [HQ.out, ← C1.out]
      rfl
    · have hn' : ¬ ln > 0 := hn
      by_cases hs : (pslash && !slash) = true
      · have HQ : Hid (freshP st ⟨ps, pslash⟩ slash = (109, noFnd)) := Lib.hid (by rw [HQ0.out, if_neg hn, if_pos hs])
        have hs1 : pslash = true ∧ slash = false := by simpa using hs
        clear hs
        obtain ⟨rfl, rfl⟩ := hs1
        have c1 : errOf E 109 = errV E 0 := errOf_code (g := 0) (by decide)
        have C1 := Lib.hid c1
        have e1 := HE2.out.cell 0 (by decide)
        have l1 : 0 < w2.heap.size := Nat.lt_of_lt_of_le (HE2.out.glt _ (by decide)) HE2.out.size
        clear c1
        go_wp2_with fail
        go_region
        go_wp2
        rw [← HP.out]
        refine bodyPost_ret (v := .tuple #[.agg #[.int .i64 0, .int .i64 0, .string ⟨#[]⟩], errV E 0]) (by simp [results, Tryz.results104, go_sem, x0, x1, x2, y0, y1, y2, yl, xl]) rfl ?_
        refine ⟨?_, (by repeat (first | exact G2.out | refine Gd.set ?_ (.inr rfl) _ | refine Gd.alloc ?_ _ | refine Gd.drew ?_) : Gd B L L1 w b t dm st (fun x => x = w.heap.size ∨ x = CC) _).out⟩
        rw [HQ.out, ← C1.out]
        rfl
      · have HQ : Hid (freshP st ⟨ps, pslash⟩ slash = (0, ⟨ld, ln, lname⟩)) := Lib.hid (by rw [HQ0.out, if_neg hn, if_neg hs])
        have hs1 : pslash = false ∨ slash = true := by cases pslash <;> cases slash <;> simp_all
        clear hs
        cases pslash <;> cases slash
        all_goals try (exact absurd hs1 (by decide))
        all_goals
          go_wp2
          rw [← HP.out]
          refine bodyPost_ret (v := .tuple #[.agg #[.int .i64 ld, .int .i64 ln, .string lname], .nilIface]) (by simp [results, Tryz.results104, go_sem, x0, x1, x2, y0, y1, y2, yl, xl]) rfl ?_
          refine ⟨?_, (by repeat (first | exact G2.out | refine Gd.set ?_ (.inr rfl) _ | refine Gd.alloc ?_ _ | refine Gd.drew ?_) : Gd B L L1 w b t dm st (fun x => x = w.heap.size ∨ x = CC) _).out⟩
          rw [HQ.out]
          rfl
  · obtain ⟨ad, had⟩ := errOf_some (E := E) hz
    have HQ : Hid (freshP st ⟨ps, pslash⟩ slash = (lc, noFnd)) := Lib.hid (by unfold freshP; rw [HLAST.out]; simp only; rw [if_pos (show lc ≠ 0 by omega)])
    rw [had]
    have C1 := Lib.hid had
    clear had hz
    go_wp2
    rw [← HP.out]
    refine bodyPost_ret (v := .tuple #[.agg #[.int .i64 0, .int .i64 0, .string ⟨#[]⟩], .iface 295 (.pointer (some ad))]) (by simp [results, Tryz.results104, go_sem, x0, x1, x2, y0, y1, y2, yl, xl]) rfl ?_
    refine ⟨?_, (by repeat (first | exact G2.out | refine Gd.set ?_ (.inr rfl) _ | refine Gd.alloc ?_ _ | refine Gd.drew ?_) : Gd B L L1 w b t dm st (fun x => x = w.heap.size ∨ x = CC) _).out⟩
    rw [HQ.out, ← C1.out]
    rfl
end
end Go.Proofs.YtjekpbkmhgfhoaaGreatDoor
end

section
/- The walks of package tree: there. -/
namespace Go.Proofs.YtjekpbkmhgfhoaaGreatDoor
open Go Go.RowKit
set_option maxRecDepth 100000
set_option linter.unusedSimpArgs false
set_option linter.unusedVariables false
attribute [local go_sem] giv
variable {E : Nat → Addr} {B : Nat}

section
variable {L : Nat → Prop} {w : World} {a b t dm : Nat} {st : St}
/-- What there answers. -/
def ThereR (E : Nat → Addr) (B : Nat) (L : Nat → Prop) (b t dm : Nat) (st : St) (R : Int × Fnd × Nd) (w : World) (e : Ending) (w' : World) : Prop :=
  e = .returned (.tuple #[.agg #[.int .i64 R.2.1.dir, .int .i64 R.2.1.node, .string R.2.1.name], encN R.2.2, errOf E R.1]) ∧ WB B L w' b t dm st ∧ KeptP B L w w'
end
end Go.Proofs.YtjekpbkmhgfhoaaGreatDoor
end

section
/- The walks of package tree: two, onto. -/
namespace Go.Proofs.YtjekpbkmhgfhoaaGreatDoor
open Go Go.RowKit
set_option maxRecDepth 100000
set_option linter.unusedSimpArgs false
set_option linter.unusedVariables false
attribute [local go_sem] giv
variable {E : Nat → Addr} {B : Nat}

section
variable {L : Nat → Prop} {w : World} {a b t dm : Nat} {st : St}
/-- What two answers. -/
def TwoR (E : Nat → Addr) (x y : ByteArray) (w : World) (e : Ending) (w' : World) : Prop :=
  (∃ sp1 n1 c1 s1 sp2 n2 c2 s2 c, e = .returned (.tuple #[.agg #[.slice sp1 n1 c1, .bool s1], .agg #[.slice sp2 n2 c2, .bool s2], errOf E c]) ∧
    (((parseP x).1 ≠ 0 ∧ c = (parseP x).1) ∨ ((parseP x).1 = 0 ∧ c = (parseP y).1 ∧ s1 = (parseP x).2.slash ∧ s2 = (parseP y).2.slash ∧ SlS w' w.heap.size (.slice sp1 n1 c1) (parseP x).2.parts ∧ SlS w' w.heap.size (.slice sp2 n2 c2) (parseP y).2.parts))) ∧ Below w.heap.size w w'
end
end Go.Proofs.YtjekpbkmhgfhoaaGreatDoor
end
