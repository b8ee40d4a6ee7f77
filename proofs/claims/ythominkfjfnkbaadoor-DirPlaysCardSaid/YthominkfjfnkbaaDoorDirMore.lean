/- The walks that the law DirPlays needs: find, right, maps.Clone and Clone of package dir. -/
import Derived.Test.YthominkfjfnkbaaDoorDirFrom
import Derived.Test.YthominkfjfnkbaaDoorDirLaw
import Derived.Test.YthominkfjfnkbaaDoorCell
import Derived.Shelf.SlMaps.Clone
namespace Go.Proofs.YthominkfjfnkbaaDoor
open Go Go.RowKit
set_option maxRecDepth 100000
set_option linter.unusedSimpArgs false
attribute [local go_sem] giv tx_leq
variable {E : Nat → Addr} {B : Nat}

theorem elCells {α : Type} {w : World} {k : Nat} {enc : α → List Value} {xs : List α} {sp : Option Addr} {n cap : Nat} (r : RdE w k enc (.slice sp n cap) xs) {j : Nat} (hj : j < xs.length) :
    ∃ h off, sp = some ⟨h, off, none⟩ ∧ h < w.heap.size ∧ ∀ i, i < k → w.cell? ⟨h, off + j * k + i, none⟩ = (enc xs[j])[i]? := by
  obtain ⟨sp', cap', he, _, _, h3⟩ := r
  injection he with e1 e2 e3
  subst e1
  obtain ⟨h, off, h4, h5, h6⟩ := h3 (by rintro rfl; simp at hj)
  refine ⟨h, off, h4, h5, fun i hi => ?_⟩
  rw [h6 j i hj hi, List.getElem?_eq_getElem hj]
  rfl
theorem wrapE_step {j n : Nat} (h : j < n) (hn : n ≤ 1000000) : wrap64 ((j : Int) + 1) = ((j + 1 : Nat) : Int) := by unfold wrap64; omega

/-- A name's place among entries; -1. -/
def findI : List En → ByteArray → Nat → Int
  | [], _, _ => -1
  | x :: l, s, i => if x.name = s then (i : Int) else findI l s (i + 1)
theorem findI_hit {s : ByteArray} : ∀ {l : List En} {j : Nat} {x : En} (i : Nat), l[j]? = some x → x.name = s → (∀ m y, m < j → l[m]? = some y → y.name ≠ s) → findI l s i = ((i + j : Nat) : Int)
  | [], j, x, i, h, _, _ => by simp at h
  | y :: l, 0, x, i, h, hs, _ => by
    simp at h
    subst h
    simp [findI, hs]
  | y :: l, j + 1, x, i, h, hs, hn => by
    rw [findI, if_neg (hn 0 y (by omega) rfl)]
    rw [findI_hit (i + 1) (by simpa using h) hs (fun m z hm hz => hn (m + 1) z (by omega) (by simpa using hz))]
    congr 1
    omega
theorem findI_none {s : ByteArray} : ∀ {l : List En} (i : Nat), (∀ (m : Nat) y, l[m]? = some y → y.name ≠ s) → findI l s i = -1
  | [], i, _ => rfl
  | y :: l, i, hn => by
    rw [findI, if_neg (hn 0 y rfl)]
    exact findI_none (i + 1) fun m z hz => hn (m + 1) z (by simpa using hz)

set_option maxHeartbeats 1000000 in
theorem find_any {w : World} {v : Value} {l : List En} (r : RdEn w v l) (hlen : l.length ≤ 1000000) (s : ByteArray) :
    Calls Tryd.prog 67 #[v, .string s] w fun e w' => e = .returned (.int .i64 (findI l s 0)) ∧ Below w.heap.size w w' := by
  obtain ⟨sp, cap, rfl, hcap⟩ := RdE.shape r
  generalize hres : findI l s 0 = res
  have HRES := Lib.hid hres
  have HR := Lib.hid r
  clear hres r
  go_enter Tryd.func67, Tryd.ntmps67
  go_wp2_with fail
  go_loopw [5] (fun v wr => ∃ j : Nat, j ≤ l.length ∧ v = .int .i64 j ∧ Hid ((∀ m x, m < j → l[m]? = some x → x.name ≠ s) ∧ Below w.heap.size w wr)) (fun v _ => l.length - (Go.RowKit.intOf v).toNat)
  case atStart => exact ⟨0, Nat.zero_le _, rfl, Lib.hid ⟨fun m x hm => by omega, Below.refl _ _⟩⟩
  case round =>
    obtain ⟨j, hj, rfl, HI⟩ := hrel
    by_cases hlt : j < l.length
    · obtain ⟨h, off, rfl, hh, hc⟩ := elCells HR.out hlt
      have c0 : wr.cell? ⟨h, off + j * 3, none⟩ = some (.string (l[j]).name) := by
        have := hc 0 (by omega)
        rw [HI.out.2.cell (p := ⟨h, off + j * 3, none⟩) hh]
        simp only [Nat.add_zero] at this
        exact this
      have hstep : ∀ m x, m < j + 1 → l[m]? = some x → l[j].name ≠ s → x.name ≠ s := by
        intro m x hm hx hne
        rcases Nat.lt_or_ge m j with h | h
        · exact HI.out.1 m x h hx
        · obtain rfl : m = j := by omega
          rw [List.getElem?_eq_getElem hlt] at hx
          injection hx with hx
          rw [← hx]; exact hne
      have HST := Lib.hid hstep
      have HF : Hid (l[j].name = s → res = (j : Int)) := Lib.hid (fun he : l[j].name = s => by
        rw [← HRES.out, findI_hit 0 (List.getElem?_eq_getElem hlt) he HI.out.1]; congr 1; omega)
      generalize l[j].name = y at *
      have HC := Lib.hid hc
      clear hc hstep
      by_cases hy : y = s
      · subst hy
        go_wp2
        go_ret
        exact ⟨by rw [show res = (j : Int) from by first | exact HF.out rfl | exact HF.out trivial]; rfl, HI.out.2⟩
      · have hy' : (y.toList == s.toList) = false := by rw [beq_eq_false_iff_ne]; exact fun h => hy (str_ext h)
        go_wp2
        go_roundw
        case rel => exact ⟨j + 1, by omega, by first | go_num | exact congrArg (Value.int .i64) (wrapE_step hlt hlen), Lib.hid ⟨fun m x hm hx => HST.out m x hm hx hy, HI.out.2⟩⟩
        case measure => simp [Go.RowKit.intOf]; omega
    · obtain rfl : j = l.length := by omega
      go_wp2
      go_ret
      exact ⟨by rw [← HRES.out, findI_none 0 (fun m x hx => HI.out.1 m x (List.getElem?_eq_some_iff.1 hx).1 hx)]; rfl, HI.out.2⟩

theorem right_any (e : En) (w : World) : Calls Tryd.prog 68 #[encE e] w fun x w' => x = .returned (.bool (mayB e)) ∧ Below w.heap.size w w' := by
  obtain ⟨a1, a2, a3⟩ := e
  have hm : mayB ⟨a1, a2, a3⟩ = (decide (1 ≤ a2) && (decide (a2 ≤ 16777215) && (decide (1 ≤ a3) && decide (a3 ≤ 3)))) := rfl
  rw [hm]
  unfold encE
  by_cases h1 : 1 ≤ a2
  · by_cases h2 : a2 ≤ 16777215
    · have h2' : a2 < 16777216 := by omega
      by_cases h3 : 1 ≤ a3
      · go_enter Tryd.func68, Tryd.ntmps68
        go_wp2
        go_ret
        exact ⟨by simp [h1, h2, h3] <;> omega, bl_alloc (Below.refl _ _) _⟩
      · go_enter Tryd.func68, Tryd.ntmps68
        go_wp2
        go_ret
        exact ⟨by simp [h1, h2, h3] <;> omega, bl_alloc (Below.refl _ _) _⟩
    · have h2' : ¬ a2 < 16777216 := by omega
      go_enter Tryd.func68, Tryd.ntmps68
      go_wp2
      go_ret
      exact ⟨by simp [h1, h2] <;> omega, bl_alloc (Below.refl _ _) _⟩
  · go_enter Tryd.func68, Tryd.ntmps68
    go_wp2
    go_ret
    exact ⟨by simp [h1] <;> omega, bl_alloc (Below.refl _ _) _⟩

theorem mclone_e {w : World} {r n : Nat} {g : ByteArray → Option En} (h : EMap w r g n) : Calls Tryd.prog 102 #[.map (some r)] w fun e w' =>
    e = .returned (.map (some w.heap.size)) ∧ EMap w' w.heap.size g n ∧ Below w.heap.size w w' ∧ w'.heap.size = w.heap.size + 1 := by
  obtain ⟨es, clk, _, hb, hc⟩ := h.copy
  have hq := fun w => run_eql_map_nil_sl (P := Tryd.prog) w 79 _ _ (some r) Tryd.underlying79
  clear h
  go_enter Tryd.func102, Tryd.ntmps102
  go_wp2
  rw [run_callFunc_extern Tryd.func115 (by kernel_rfl) (by kernel_rfl) (by kernel_rfl) (e := Extern.MapsClone.clone) (by kernel_rfl), run_maps_clone_sl w 79 hb]
  simp only [Result.andThen]
  rw [Oper.upon_value]
  go_wp2
  rw [run_typeAssert_map_sl _ 79 _ _ _ _ Tryd.underlying79]
  simp only [Result.andThen]
  rw [Oper.upon_value]
  go_wp2
  go_ret
  exact ⟨rfl, hc w, bl_alloc (Below.refl _ _) _, by simp⟩
theorem mclone_e0 (w : World) : Calls Tryd.prog 102 #[.map none] w fun e w' =>
    e = .returned (.map none) ∧ w = w' := by
  have hq := fun w => run_eql_map_nil_sl (P := Tryd.prog) w 79 _ _ none Tryd.underlying79
  go_enter Tryd.func102, Tryd.ntmps102
  go_wp2
  go_ret
  exact ⟨rfl, rfl⟩

/-- A directory of its own, which has the same. -/
theorem dclone_any {w : World} {b : Nat} {m : Option Nat} {g : ByteArray → Option En} {n : Nat} (h : DirAt w b m g n) :
    Calls Tryd.prog 66 #[.pointer (some ⟨b, 0, none⟩)] w fun e w' =>
      (∃ b' m', e = .returned (.pointer (some ⟨b', 0, none⟩)) ∧ DirAt w' b' m' g n ∧ ∀ x, OwnD b' m' x → w.heap.size ≤ x) ∧ Below w.heap.size w w' := by
  generalize hP : (fun (e : Ending) (w' : World) => (∃ b' m', e = .returned (.pointer (some ⟨b', 0, none⟩)) ∧ DirAt w' b' m' g n ∧ ∀ x, OwnD b' m' x → w.heap.size ≤ x) ∧ Below w.heap.size w w') = Post
  have HP := Lib.hid hP
  clear hP
  have H := Lib.hid h
  have s0 := H.out.1
  have hlt := H.out.2.2.1
  clear h
  cases m with
  | none =>
    go_enter Tryd.func66, Tryd.ntmps66
    go_wp2_with fail
    refine (mclone_e0 _).mono ?_
    rintro e w1 ⟨rfl, rfl⟩
    go_wp2
    rw [← HP.out]
    have r := Row.new w 81 [.map none]
    refine ⟨⟨w.heap.size, none, rfl, ⟨(r.cell 0 : _), (r.froz 0 : _), (r.lt : _), H.out.2.2.2⟩, ?_⟩, bl_alloc (Below.refl _ _) _⟩
    rintro x (rfl | h)
    · exact Nat.le_refl _
    · cases h
  | some r =>
    have HM := Lib.hid H.out.2.2.2.2
    go_enter Tryd.func66, Tryd.ntmps66
    go_wp2_with fail
    refine (mclone_e HM.out).mono ?_
    rintro e w1 ⟨rfl, hv1, hb1, hs1⟩
    have HV1 := Lib.hid hv1
    have HB1 := Lib.hid hb1
    have HS1 := Lib.hid hs1
    clear hv1 hb1 hs1
    go_wp2
    rw [← HP.out]
    have hs1 : w1.heap.size = w.heap.size + 1 := HS1.out
    have r := Row.new w1 81 [.map (some w.heap.size)]
    have hm1 : EMap w1 w.heap.size g n := HV1.out
    refine ⟨⟨_, some w.heap.size, rfl, ⟨(r.cell 0 : _), (r.froz 0 : _), (r.lt : _), by omega, hm1.alloc _⟩, ?_⟩, bl_alloc HB1.out _⟩
    rintro x (rfl | h)
    · omega
    · injection h with h
      omega
end Go.Proofs.YthominkfjfnkbaaDoor
