/- Merged texts: DirFrom DirMore DirHave Tree TreeActs TreeAt TreeStep TreeIo TreePut TreeCnt. -/
import Derived.Test.YtjekpbkmhgfhoaaGreatDoorGBase19
import Derived.Test.YtjekpbkmhgfhoaaGreatDoorGBase17
import Derived.Test.YtjekpbkmhgfhoaaGreatDoorGBase09
import Derived.Laws.CopyRow
import Derived.Test.YtjekpbkmhgfhoaaGreatDoorGBase13
import Derived.Shelf.SlMaps.Clone
import Derived.Test.YtjekpbkmhgfhoaaGreatDoorGBase18
import Derived.Test.YtjekpbkmhgfhoaaGreatDoorGBase20
import Derived.Test.YtjekpbkmhgfhoaaGreatDoorGBase08
section
/- The walks of package dir: From, by slices.DeleteFunc and slices.Clone at entries. -/
namespace Go.Proofs.YtjekpbkmhgfhoaaGreatDoor
open Go Go.RowKit
set_option maxRecDepth 100000
set_option linter.unusedSimpArgs false
theorem tx_leq (t : TypeId) (a b : ByteArray) : binOp .leq t (.string a) (.string b) = pure (.bool (Op.bytesLess a.toList b.toList || a.toList == b.toList)) := by simp [binOp, Op.stringOp]
attribute [local go_sem] giv tx_leq
variable {E : Nat → Addr} {B : Nat}

/-- Is an entry behind a name? -/
def behB (s : ByteArray) (e : En) : Bool := decide (s.data.toList < e.name.data.toList)
theorem leq_val (x s : ByteArray) : (Op.bytesLess x.toList s.toList || x.toList == s.toList) = !decide (s.data.toList < x.data.toList) := by
  rw [bytesLess_eq, Lib.toList_data, Lib.toList_data]
  by_cases h : nmLt s x
  · rw [decide_eq_true (show s.data.toList < x.data.toList from h)]
    have h1 : ¬ nmLt x s := fun k => nmLt_irrefl _ (nmLt_trans h k)
    have h2 : ¬ x.data.toList = s.data.toList := fun k => by rw [nm_ext k] at h; exact nmLt_irrefl _ h
    rw [decide_eq_false (show ¬ x.data.toList < s.data.toList from h1)]
    simpa using h2
  · rw [decide_eq_false (show ¬ s.data.toList < x.data.toList from h)]
    rcases nmLt_tri x s with k | k | k
    · rw [decide_eq_true (show x.data.toList < s.data.toList from k)]; rfl
    · subst k; simp
    · exact (h k).elim

theorem drop_filter {α : Type} (p : α → Bool) : ∀ (l : List α) (c : Nat), (∀ (j : Nat) x, l[j]? = some x → j < c → p x = false) → (∀ (j : Nat) x, l[j]? = some x → c ≤ j → p x = true) → l.drop c = l.filter p
  | [], c, _, _ => by simp
  | x :: l, 0, _, h2 => by
    rw [List.drop_zero, List.filter_cons, if_pos (h2 0 x (by simp) (Nat.zero_le _))]
    congr 1
    exact drop_filter p l 0 (fun j y hj hl => by omega) (fun j y hj _ => h2 (j + 1) y (by simpa using hj) (Nat.zero_le _)) |>.symm ▸ (by simp)
  | x :: l, c + 1, h1, h2 => by
    rw [List.drop_succ_cons, List.filter_cons, if_neg (by rw [h1 0 x (by simp) (by omega)]; simp)]
    exact drop_filter p l c (fun j y hj hl => h1 (j + 1) y (by simpa using hj) (by omega)) (fun j y hj hl => h2 (j + 1) y (by simpa using hj) (by omega))
theorem mono_split {α : Type} (p : α → Bool) (l : List α) (hm : ∀ (i j : Nat) (x y : α), i ≤ j → l[i]? = some x → l[j]? = some y → p x = true → p y = true) :
    ∃ c, c ≤ l.length ∧ (∀ (j : Nat) x, l[j]? = some x → j < c → p x = false) ∧ (∀ (j : Nat) x, l[j]? = some x → c ≤ j → p x = true) := by
  induction l with
  | nil => exact ⟨0, Nat.le_refl _, fun j x hj => by simp at hj, fun j x hj => by simp at hj⟩
  | cons a l ih =>
    by_cases ha : p a = true
    · exact ⟨0, Nat.zero_le _, fun j x _ h => by omega, fun j x hj _ => hm 0 j a x (Nat.zero_le _) (by simp) hj ha⟩
    · obtain ⟨c, h0, h1, h2⟩ := ih (fun i j x y hij hi hj => hm (i + 1) (j + 1) x y (by omega) (by simpa using hi) (by simpa using hj))
      refine ⟨c + 1, by simpa using h0, fun j x hj hl => ?_, fun j x hj hl => ?_⟩
      · cases j with
        | zero => simp at hj; subst hj; simpa using ha
        | succ j => exact h1 j x (by simpa using hj) (by omega)
      · cases j with
        | zero => omega
        | succ j => exact h2 j x (by simpa using hj) (by omega)

theorem from1_any {w : World} (e : En) {bs : Nat} {after : ByteArray} (hc : w.cell? ⟨bs, 0, none⟩ = some (.string after)) (hl : bs < w.heap.size) :
    Calls Tryz.prog 93 #[encE e, .pointer (some ⟨bs, 0, none⟩)] w fun x w' => x = .returned (.bool (!behB after e)) ∧ Below w.heap.size w w' := by
  obtain ⟨e1, e2, e3⟩ := e
  have hv := leq_val e1 after
  have hv2 : (!behB after ⟨e1, e2, e3⟩) = (!decide (after.data.toList < e1.data.toList)) := rfl
  rw [hv2, ← hv]
  clear hv hv2
  unfold encE
  go_enter Tryz.func93, Tryz.ntmps93
  go_wp2
  go_ret
  exact ⟨rfl, bl_alloc (Below.refl _ _) _⟩

set_option maxHeartbeats 1000000 in
theorem indexfunc_any {w : World} {v : Value} {l : List En} (r : RdEn w v l) (hlen : l.length ≤ 1000000) {bs c : Nat} {after : ByteArray} (hc : w.cell? ⟨bs, 0, none⟩ = some (.string after)) (hl : bs < w.heap.size)
    (h1 : ∀ (j : Nat) x, l[j]? = some x → j < c → behB after x = false) (h2 : ∀ (j : Nat) x, l[j]? = some x → c ≤ j → behB after x = true) (hcl : c ≤ l.length) :
    Calls Tryz.prog 129 #[v, .func (.func 93) #[] #[.pointer (some ⟨bs, 0, none⟩)]] w fun e w' => e = .returned (.int .i64 (if c = 0 then -1 else 0)) ∧ Below w.heap.size w w' := by
  obtain ⟨sp, cap, rfl, hcap⟩ := RdE.shape r
  generalize hres : (if c = 0 then (-1 : Int) else 0) = res
  have HRES := Lib.hid hres
  have HR := Lib.hid r
  have HC := Lib.hid hc
  have H1 := Lib.hid h1
  have H2 := Lib.hid h2
  clear hres r hc h1 h2
  go_enter Tryz.func129, Tryz.ntmps129
  go_wp2
  go_loopw [5, 8] (fun _ v wr => ∃ j : Nat, j ≤ l.length ∧ v = .int .i64 j ∧ (0 < j → c = 0) ∧ Hid (Below w.heap.size w wr)) (fun _ v _ => l.length - (intOf v).toNat)
  case atStart => exact ⟨0, Nat.zero_le _, rfl, fun h => by omega, Lib.hid (Below.refl _ _)⟩
  case round =>
    obtain ⟨j, hj, rfl, hz, HI⟩ := hrel
    by_cases hlt : j < l.length
    · obtain ⟨h, off, hsp, hh, hcs⟩ : ∃ h off, sp = some ⟨h, off, none⟩ ∧ h < w.heap.size ∧ ∀ i, i < 3 → w.cell? ⟨h, off + j * 3 + i, none⟩ = (encEl l[j])[i]? := by
        obtain ⟨sp', cap', he, _, _, h3⟩ := HR.out
        injection he with e1 e2 e3
        subst e1
        obtain ⟨h, off, h4, h5, h6⟩ := h3 (by rintro rfl; simp at hlt)
        refine ⟨h, off, h4, h5, fun i hi => ?_⟩
        rw [h6 j i hlt hi, List.getElem?_eq_getElem hlt]; rfl
      subst hsp
      have d : ∀ i, i < 3 → wr.cell? ⟨h, off + j * 3 + i, none⟩ = (encEl l[j])[i]? := fun i hi => (HI.out.cell (p := ⟨h, off + j * 3 + i, none⟩) hh).trans (hcs i hi)
      have d0 := d 0 (by omega)
      have d1 := d 1 (by omega)
      have d2 := d 2 (by omega)
      have HA1 := Lib.hid (H1.out j l[j] (List.getElem?_eq_getElem hlt))
      have HA2 := Lib.hid (H2.out j l[j] (List.getElem?_eq_getElem hlt))
      clear d hcs
      generalize l[j] = x at *
      obtain ⟨x1, x2, x3⟩ := x
      simp only [encEl, List.getElem?_cons_zero, List.getElem?_cons_succ, Nat.add_zero] at d0 d1 d2
      have hj0 : (0 : Int) ≤ (j : Int) := by omega
      have hj1 : (j : Int) < (l.length : Int) := by omega
      have hcw : Hid (wr.cell? ⟨bs, 0, none⟩ = some (.string after)) := Lib.hid ((HI.out.cell (p := ⟨bs, 0, none⟩) hl).trans HC.out)
      have hlw : bs < wr.heap.size := by have := HI.out.size; omega
      have HZ := Lib.hid hz
      clear hz
      go_wp2_with fail
      refine (from1_any ⟨x1, x2, x3⟩ hcw.out hlw).mono ?_
      rintro e w2 ⟨rfl, hb2⟩
      have HB2 := Lib.hid (HI.out.trans (hb2.mono HI.out.size))
      clear hb2
      by_cases hjc : j < c
      · rw [HA1.out hjc]
        have hj00 : j = 0 := by
          rcases Nat.eq_zero_or_pos j with h | h
          · exact h
          · have := HZ.out h; omega
        have hr : res = 0 := by rw [← HRES.out, if_neg (by omega)]
        subst hr hj00
        go_wp2
        go_ret
        exact ⟨rfl, HB2.out⟩
      · rw [HA2.out (by omega)]
        have hc0 : c = 0 := by
          rcases Nat.eq_zero_or_pos j with h | h
          · omega
          · exact HZ.out h
        go_wp2
        go_roundw
        case rel => exact ⟨j + 1, by omega, by first | go_num | exact congrArg (Value.int .i64) (wrap_next (by omega)), fun _ => hc0, HB2⟩
        case measure => (simp [intOf]; try unfold wrap64); omega
    · obtain rfl : j = l.length := by omega
      have hr : res = -1 := by
        rw [← HRES.out, if_pos]
        rcases Nat.eq_zero_or_pos l.length with h | h
        · omega
        · exact hz h
      subst hr
      clear hz
      go_wp2
      go_ret
      exact ⟨rfl, HI.out⟩

/-- 'clear(s[i:])'. -/
theorem run_clear_own {α : Type} {P : Program} {w : World} {base : Nat} {e t : TypeId} {k : Nat} {enc : α → List Value} (ht : P.underlying t = some (.slice e)) {z : Value} (hz : ∀ w, (zeroValue e).run P w = .ok z w) (hzs : z.cells.size = k) (hz1 : ∀ u ∈ z.cells.toList, u.oneCell' = true)
    (hl : ∀ x, (enc x).length = k) (hk : 0 < k) {g cap : Nat} {xs : List α} (h : SlE w base e k enc (.slice (some ⟨g, 0, none⟩) xs.length cap) xs) {i : Nat} (hi : i < xs.length) (c : Nat) :
    ∃ w', (∀ ty, (Builtin.clear_ #[t] ty #[.slice (some ⟨g, i * k, none⟩) (xs.length - i) c]).run P w = .ok (.tuple #[]) w') ∧ SlE w' base e k enc (.slice (some ⟨g, 0, none⟩) i cap) (xs.take i) ∧ Touch (fun x => x = g) w w' := by
  rcases h.2 with ⟨h3, _⟩ | ⟨g', cap', cur, h3, h4, h5, h6, h7, h8, h9⟩
  · cases h3
  injection h3 with e1 e2 e3
  injection e1 with e1
  injection e1 with e1
  subst e1 e3
  have hlen : (xs.take i).length = i := by rw [List.length_take]; omega
  have hmul : i * k + (xs.length - i) * k = xs.length * k := by rw [← Nat.add_mul]; congr 1; omega
  have hmul2 : xs.length * k ≤ cap * k := Nat.mul_le_mul_right _ h6
  have hzl : (Builtin.zeroCells z.cells (xs.length - i)).toList.length = (xs.length - i) * k := by rw [Array.length_toList, size_zeroCells, hzs]
  have hone : ∀ v ∈ (Builtin.zeroCells z.cells (xs.length - i)).toList, v.oneCell' = true := by
    intro v hv
    obtain ⟨m, hm, rfl⟩ := List.getElem_of_mem hv
    have hml : m < (xs.length - i) * k := by rw [← hzl]; exact hm
    have hmod : m % z.cells.size < z.cells.size := Nat.mod_lt _ (by omega)
    have : (Builtin.zeroCells z.cells (xs.length - i)).toList[m] = z.cells[m % z.cells.size] := by
      simp [Builtin.zeroCells, Nat.mod_lt, hmod]
    rw [this]
    exact hz1 _ (by simp)
  have hst := run_storeCells_at (P := P) g (i * k) e (Builtin.zeroCells z.cells (xs.length - i)).toList 0 cur w h5 (by rw [hzl]; omega) hone
  obtain ⟨m, hm⟩ : ∃ m, xs.length - i = m + 1 := ⟨xs.length - i - 1, by omega⟩
  refine ⟨w.setRow g (cur.toList.take (i * k) ++ (Builtin.zeroCells z.cells (xs.length - i)).toList ++ cur.toList.drop (i * k + (Builtin.zeroCells z.cells (xs.length - i)).toList.length)).toArray, ?_, ⟨by rw [flat_len hl], .inr ⟨g, cap, _, by rw [hlen], h4, setRow_heap w g cur _ e _ h5, by rw [hlen]; omega, h7, ?_, ?_⟩⟩, ⟨rfl, rfl, rfl, by simp [World.setRow], fun x _ hne => setRow_other w g x _ hne⟩⟩
  · intro ty
    simp only [Nat.add_zero] at hst
    rw [hm] at hst ⊢
    simp [Builtin.clear_, run_underlying ht, hz, hst]
  · simp only [List.size_toArray, List.length_append, List.length_take, List.length_drop, Array.length_toList, hzl]
    omega
  · rw [List.append_assoc, List.take_append_of_le_length (by rw [hlen, List.length_take, Array.length_toList]; omega), List.take_take, hlen, Nat.min_self]
    have hf : flat enc xs = flat enc (xs.take i) ++ flat enc (xs.drop i) := by rw [← flat_append, List.take_append_drop]
    have h10 := congrArg (List.take (flat enc (xs.take i)).length) h9
    rw [hf, List.take_left, List.take_take, flat_len hl, hlen, Nat.min_eq_left (by omega)] at h10
    exact h10

/-- The list in the midst of DeleteFunc: c are gone from its head. -/
def midL (l : List En) (c j : Nat) : List En := (l.drop c).take (j - c) ++ l.drop (j - c)
theorem midL_len {l : List En} {c j : Nat} (hc : c ≤ l.length) (hj : j ≤ l.length) : (midL l c j).length = l.length := by
  unfold midL
  rw [List.length_append, List.length_take, List.length_drop, List.length_drop]
  omega
theorem midL_at {l : List En} {c j : Nat} (hj : j < l.length) (hcj : c ≤ j) : (midL l c j)[j]? = l[j]? := by
  unfold midL
  rw [List.getElem?_append_right (by rw [List.length_take, List.length_drop]; omega), List.length_take, List.length_drop, List.getElem?_drop]
  congr 1
  omega
theorem midL_at' {l : List En} {c j : Nat} (hj : j < l.length) : (midL l c j)[j]? = l[j]? := by
  by_cases hcj : c ≤ j
  · exact midL_at hj hcj
  · unfold midL
    rw [show j - c = 0 by omega, List.take_zero, List.nil_append, List.drop_zero]
theorem midL_stay {l : List En} {c j : Nat} (h : j < c) : midL l c (j + 1) = midL l c j := by
  unfold midL
  rw [show j + 1 - c = 0 by omega, show j - c = 0 by omega]
theorem midL_step {l : List En} {c j : Nat} (hj : j < l.length) (hcj : c ≤ j) : (midL l c j).set (j - c) l[j] = midL l c (j + 1) := by
  unfold midL
  have h1 : (l.drop c).take (j + 1 - c) = (l.drop c).take (j - c) ++ [l[j]] := by
    rw [show j + 1 - c = (j - c) + 1 by omega, List.take_succ_eq_append_getElem (by rw [List.length_drop]; omega), List.getElem_drop]
    congr 3
    omega
  have h2 : l.drop (j - c) = l[j - c] :: l.drop (j + 1 - c) := by
    rw [List.drop_eq_getElem_cons (by omega), show j - c + 1 = j + 1 - c by omega]
  have h3 : ((l.drop c).take (j - c)).length = j - c := by rw [List.length_take, List.length_drop]; omega
  rw [h1, h2, List.set_append_right _ _ (by omega), h3, Nat.sub_self, List.set_cons_zero, List.append_assoc, List.singleton_append]
theorem midL_end {l : List En} {c : Nat} (hc : c ≤ l.length) : (midL l c l.length).take (l.length - c) = l.drop c := by
  unfold midL
  have h3 : ((l.drop c).take (l.length - c)).length = l.length - c := by rw [List.length_take, List.length_drop]; omega
  rw [List.take_left' h3, List.take_of_length_le (by rw [List.length_drop]; omega)]
theorem ent_info : ∀ w, (zeroValue 51).run Tryz.prog w = .ok (.agg #[.string { data := #[] }, .int .i64 0, .int .i64 0]) w := fun w => by kernel_rfl

theorem SlE.ne {α : Type} {w : World} {base : Nat} {e : TypeId} {k : Nat} {enc : α → List Value} {v : Value} {xs : List α} (h : SlE w base e k enc v xs) (hx : xs ≠ []) : ∃ g cap, v = .slice (some ⟨g, 0, none⟩) xs.length cap ∧ base ≤ g ∧ g < w.heap.size ∧ xs.length ≤ cap := by
  rcases h.cases with ⟨_, h2⟩ | ⟨g, cap, h1, h2, h3, h4, _⟩
  · exact (hx h2).elim
  · exact ⟨g, cap, h1, h2, h3, h4⟩

set_option maxHeartbeats 2000000 in
theorem delfunc_any {w : World} {base : Nat} {v : Value} {l : List En} (hs : SlEn w base v l) (hlen : l.length ≤ 1000000) (hbase : base ≤ w.heap.size) {bs c : Nat} {after : ByteArray} (hc : w.cell? ⟨bs, 0, none⟩ = some (.string after)) (hl : bs < base)
    (h1 : ∀ (j : Nat) x, l[j]? = some x → j < c → behB after x = false) (h2 : ∀ (j : Nat) x, l[j]? = some x → c ≤ j → behB after x = true) (hcl : c ≤ l.length) :
    Calls Tryz.prog 91 #[v, .func (.func 93) #[] #[.pointer (some ⟨bs, 0, none⟩)]] w fun e w' => (∃ u, e = .returned u ∧ SlEn w' base u (l.drop c)) ∧ Below base w w' := by
  obtain ⟨sp, cap, hv, hcap⟩ := RdE.shape (hs.rd encEl_len)
  have HIX := Lib.hid (indexfunc_any (hs.rd encEl_len) hlen hc (Nat.lt_of_lt_of_le hl hbase) h1 h2 hcl)
  have HS := Lib.hid hs
  have HC := Lib.hid hc
  have H1 := Lib.hid h1
  have H2 := Lib.hid h2
  clear hs hc h1 h2
  subst hv
  by_cases hc0 : c = 0
  · have hr : (if c = 0 then (-1 : Int) else 0) = -1 := by rw [if_pos hc0]
    rw [hr] at HIX
    go_enter Tryz.func91, Tryz.ntmps91
    go_wp2_with fail
    refine HIX.out.mono ?_
    rintro e w2 ⟨rfl, hb2⟩
    have HS2 := Lib.hid (HS.out.below hb2)
    have HB2 := Lib.hid (hb2.mono hbase)
    have HC0 := Lib.hid hc0
    clear hb2 hr hc0
    go_wp2
    go_ret
    exact ⟨⟨_, rfl, by rw [HC0.out, List.drop_zero]; exact HS2.out⟩, HB2.out⟩
  have hr : (if c = 0 then (-1 : Int) else 0) = 0 := by rw [if_neg hc0]
  rw [hr] at HIX
  obtain ⟨g, cap', hv, hbg, hgl, hcap'⟩ := SlE.ne HS.out (by rintro rfl; simp at hcl; omega)
  injection hv with e1 e2 e3
  subst e1 e3
  clear e2 hcap'
  go_enter Tryz.func91, Tryz.ntmps91
  go_wp2_with fail
  refine HIX.out.mono ?_
  rintro e w2 ⟨rfl, hb2⟩
  have HM0 : Hid (midL l c 1 = l) := Lib.hid (by unfold midL; rw [show 1 - c = 0 by omega]; simp)
  have HS2 := Lib.hid (HS.out.below hb2)
  have HB2 := Lib.hid (hb2.mono hbase)
  have HC2 : Hid (w2.cell? ⟨bs, 0, none⟩ = some (.string after)) := Lib.hid ((HB2.out.cell (p := ⟨bs, 0, none⟩) hl).trans HC.out)
  have hbs2 : base ≤ w2.heap.size := by have := hb2.size; omega
  have hgl2 : g < w2.heap.size := by have := hb2.size; omega
  clear hb2 hr HIX HC
  go_wp2_with fail
  go_loopw [5, 6, 7] (fun i v _ wr => ∃ j : Nat, 1 ≤ j ∧ j ≤ l.length ∧ v = .int .i64 j ∧ i = .int .i64 (j - c : Nat) ∧ Hid (SlEn wr base (.slice (some ⟨g, 0, none⟩) l.length cap) (midL l c j) ∧ Below base w2 wr)) (fun _ v _ _ => l.length - (intOf v).toNat)
  case atStart => exact ⟨1, Nat.le_refl _, by omega, rfl, by rw [show 1 - c = 0 by omega]; rfl, Lib.hid ⟨by rw [HM0.out]; exact HS2.out, Below.refl _ _⟩⟩
  case round =>
    obtain ⟨j, hj1, hj, rfl, rfl, HI⟩ := hrel
    have hj0 : (0 : Int) ≤ (j : Int) := by omega
    have hwz : base ≤ wr.heap.size := by have := HI.out.2.size; omega
    have hgw : g < wr.heap.size := by have := HI.out.2.size; omega
    by_cases hlt : j < l.length
    · have hml : (midL l c j).length = l.length := midL_len hcl hj
      have HML := Lib.hid hml
      have hcells : ∀ (i : Nat) (x : En), (midL l c j)[i]? = some x → ∀ q, q < 3 → wr.cell? ⟨g, i * 3 + q, none⟩ = (encEl x)[q]? := by
        intro i x hx q hq
        obtain ⟨sp', cap', he, _, _, h3⟩ := HI.out.1.rd encEl_len
        injection he with e1 e2 e3
        subst e1
        have hil : i < (midL l c j).length := (List.getElem?_eq_some_iff.1 hx).1
        obtain ⟨h, off, h4, _, h6⟩ := h3 (by intro h0; rw [h0] at hil; simp at hil)
        injection h4 with h4
        injection h4 with h4 h5
        subst h4 h5
        have := h6 i q hil hq
        rw [Nat.zero_add] at this
        rw [this, hx]; rfl
      have HCELL := Lib.hid hcells
      have hjx := midL_at' (c := c) hlt
      rw [List.getElem?_eq_getElem hlt] at hjx
      have d := hcells j _ hjx
      have d0 := d 0 (by omega)
      have d1 := d 1 (by omega)
      have d2 := d 2 (by omega)
      have HA1 := Lib.hid (H1.out j l[j] (List.getElem?_eq_getElem hlt))
      have HA2 := Lib.hid (H2.out j l[j] (List.getElem?_eq_getElem hlt))
      have HST := Lib.hid (fun h => midL_step (c := c) hlt h)
      clear d hcells hjx hml
      generalize l[j] = x at *
      obtain ⟨x1, x2, x3⟩ := x
      simp only [encEl, List.getElem?_cons_zero, List.getElem?_cons_succ, Nat.add_zero] at d0 d1 d2
      have hj1' : (j : Int) < (l.length : Int) := by omega
      have hcw : Hid ((wr.alloc (.cells #[.string x1, .int .i64 x2, .int .i64 x3] 51)).cell? ⟨bs, 0, none⟩ = some (.string after)) := Lib.hid (by
        rw [(bl_alloc (Below.refl _ wr) _).cell (p := ⟨bs, 0, none⟩) (show bs < wr.heap.size by omega)]
        exact (HI.out.2.cell (p := ⟨bs, 0, none⟩) hl).trans HC2.out)
      have HSA := Lib.hid (HI.out.1.below (bl_alloc (Below.refl _ wr) (.cells #[.string x1, .int .i64 x2, .int .i64 x3] 51)))
      have HBA := Lib.hid (HI.out.2.trans ((bl_alloc (Below.refl _ wr) (.cells #[.string x1, .int .i64 x2, .int .i64 x3] 51)).mono hwz))
      have HRA : Hid (Row (wr.alloc (.cells #[.string x1, .int .i64 x2, .int .i64 x3] 51)) wr.heap.size 51 (encEl ⟨x1, x2, x3⟩)) := Lib.hid (Row.new wr 51 (encEl ⟨x1, x2, x3⟩))
      have hbsl : bs < (wr.alloc (.cells #[.string x1, .int .i64 x2, .int .i64 x3] 51)).heap.size := by simp; omega
      go_wp2_with fail
      clear d0 d1 d2
      generalize wr.alloc (.cells #[.string x1, .int .i64 x2, .int .i64 x3] 51) = wa at *
      generalize hbn : wr.heap.size = bn at *
      have HBN := Lib.hid hbn
      clear hbn
      refine (from1_any ⟨x1, x2, x3⟩ hcw.out hbsl).mono ?_
      rintro e w3 ⟨rfl, hb3⟩
      have HS3 := Lib.hid (HSA.out.below hb3)
      have HB3 := Lib.hid (HBA.out.trans (hb3.mono (by have := HBA.out.size; omega)))
      have HR3 := Lib.hid (HRA.out.below hb3)
      clear hb3 HSA HBA HRA hcw
      have HW : Hid (wrap64 ((j : Int) + 1) = ((j + 1 : Nat) : Int)) := Lib.hid (wrap_next (by omega))
      by_cases hjc : j < c
      · rw [HA1.out hjc]
        have HSTY := Lib.hid (midL_stay (l := l) hjc)
        go_wp2
        go_roundw
        case rel => exact ⟨j + 1, by omega, by omega, by first | go_num | exact congrArg (Value.int .i64) HW.out, by rw [show j + 1 - c = j - c by omega], Lib.hid ⟨by rw [HSTY.out]; exact HS3.out, HB3.out⟩⟩
        case measure => (simp [intOf]; try unfold wrap64); omega
      · rw [HA2.out (by omega)]
        obtain ⟨i, hi⟩ : ∃ i, i = j - c := ⟨_, rfl⟩
        rw [← hi]
        have hil : i < l.length := by omega
        have hi0 : (0 : Int) ≤ (i : Int) := by omega
        have hi1 : (i : Int) < (l.length : Int) := by omega
        have HII := Lib.hid hi
        have hy : (midL l c j)[i]? = some ((midL l c j)[i]'(by have := HML.out; omega)) := List.getElem?_eq_getElem _
        obtain ⟨y, hy'⟩ : ∃ y, (midL l c j)[i]? = some y := ⟨_, hy⟩
        obtain ⟨y1, y2, y3⟩ := y
        have s1 := HS3.out.set encEl_len rfl hy' (j := 0) (y := ⟨x1, y2, y3⟩) (u := .string x1) (by omega) rfl
        have s2 := s1.set encEl_len rfl (i := i) (x := ⟨x1, y2, y3⟩) (j := 1) (y := ⟨x1, x2, y3⟩) (u := .int .i64 x2) (by rw [List.getElem?_set_self (by have := HML.out; omega)]) (by omega) rfl
        have s3 := s2.set encEl_len rfl (i := i) (x := ⟨x1, x2, y3⟩) (j := 2) (y := ⟨x1, x2, x3⟩) (u := .int .i64 x3) (by rw [List.set_set, List.getElem?_set_self (by have := HML.out; omega)]) (by omega) rfl
        rw [List.set_set, List.set_set, hi, HST.out (by omega), ← hi] at s3
        have HS4 := Lib.hid s3
        have k : ∀ q, q < 3 → w3.cell? ⟨g, i * 3 + q, none⟩ = (encEl ⟨y1, y2, y3⟩)[q]? := by
          intro q hq
          obtain ⟨sp', cap', he, _, _, h3⟩ := HS3.out.rd encEl_len
          injection he with e1 e2 e3
          subst e1
          have hil' : i < (midL l c j).length := (List.getElem?_eq_some_iff.1 hy').1
          obtain ⟨h, off, h4, _, h6⟩ := h3 (by intro h0; rw [h0] at hil'; simp at hil')
          injection h4 with h4
          injection h4 with h4 h5
          subst h4 h5
          have := h6 i q hil' hq
          rw [Nat.zero_add] at this
          rw [this, hy']; rfl
        have k0 := k 0 (by omega)
        have k1 := k 1 (by omega)
        have k2 := k 2 (by omega)
        simp only [encEl, List.getElem?_cons_zero, List.getElem?_cons_succ, Nat.add_zero] at k0 k1 k2
        have f0 := HS3.out.froz (g := g) rfl (i * 3)
        have f1 := HS3.out.froz (g := g) rfl (i * 3 + 1)
        have f2 := HS3.out.froz (g := g) rfl (i * 3 + 2)
        have r0 := HR3.out.cell 0
        have r1 := HR3.out.cell 1
        have r2 := HR3.out.cell 2
        simp only [encEl, List.getElem?_cons_zero, List.getElem?_cons_succ] at r0 r1 r2
        have HWI : Hid (wrap64 ((i : Int) + 1) = ((i + 1 : Nat) : Int)) := Lib.hid (wrap_next (by omega))
        clear s1 s2 s3 k hy hy' hi
        go_wp2
        go_roundw
        case rel => exact ⟨j + 1, by omega, by omega, by first | go_num | exact congrArg (Value.int .i64) HW.out, by rw [show j + 1 - c = i + 1 by have := HII.out; omega]; first | go_num | exact congrArg (Value.int .i64) HWI.out, Lib.hid ⟨HS4.out, ((HB3.out.setCell (p := ⟨g, _, none⟩) hbg _).setCell (p := ⟨g, _, none⟩) hbg _).setCell (p := ⟨g, _, none⟩) hbg _⟩⟩
        case measure => (simp [intOf]; try unfold wrap64); omega
    · obtain rfl : j = l.length := by omega
      have hml : (midL l c l.length).length = l.length := midL_len hcl (Nat.le_refl _)
      obtain ⟨i, hi⟩ : ∃ i, i = l.length - c := ⟨_, rfl⟩
      rw [← hi]
      have hil : i < l.length := by omega
      have hsl := HI.out.1
      have hicap : i ≤ cap := by omega
      obtain ⟨w5, hrun, hs5, ht5⟩ := run_clear_own (P := Tryz.prog) (t := 47) (k := 3) Tryz.underlying47 ent_info rfl (by intro u hu; simp [Value.cells] at hu; rcases hu with rfl | rfl | rfl <;> rfl) encEl_len (by omega) (xs := midL l c l.length) (g := g) (cap := cap) (by rw [hml]; exact hsl) (i := i) (by rw [hml]; exact hil) (cap - i)
      rw [hml] at hrun
      have hr0 := hrun 0
      have HS5 : Hid (SlEn w5 base (.slice (some ⟨g, 0, none⟩) i cap) (l.drop c)) := Lib.hid (by have := hs5; rw [hi, midL_end hcl, ← hi] at this; exact this)
      have HB5 := Lib.hid (HB2.out.trans (HI.out.2.trans (ht5.below hwz (fun x hx => by subst hx; exact hbg))))
      have hi0 : (0 : Int) ≤ (i : Int) := by omega
      have hi1 : (i : Int) ≤ (l.length : Int) := by omega
      have hne : (cap = i) = False := by simp; omega
      clear hrun hs5 ht5 hml hsl hi
      go_wp2
      go_ret
      exact ⟨⟨_, rfl, HS5.out⟩, HB5.out⟩

theorem SlE.made0 {α : Type} (w : World) (e : TypeId) (k : Nat) (enc : α → List Value) : SlE (w.alloc (.cells #[] e)) w.heap.size e k enc (.slice (some ⟨w.heap.size, 0, none⟩) 0 0) [] :=
  ⟨by simp [flat], .inr ⟨w.heap.size, 0, #[], rfl, Nat.le_refl _, World.alloc_heap_new w _, Nat.le_refl _, Nat.zero_le _, by simp, by simp [flat]⟩⟩

set_option maxHeartbeats 1000000 in
theorem eclone_any {w : World} {v : Value} {l : List En} (r : RdEn w v l) (hlen : l.length ≤ 1000000) :
    Calls Tryz.prog 94 #[v] w fun e w' => (∃ u, e = .returned u ∧ SlEn w' w.heap.size u l) ∧ Below w.heap.size w w' := by
  obtain ⟨sp, cap, rfl, hcap⟩ := RdE.shape r
  have q : ∀ (w : World) (a : Option Addr) (n c n' c' : Nat), (binOp .eql 47 (.slice a n c) (.slice none n' c')).run Tryz.prog w = .ok (.bool a.isNone) w := fun w a n c n' c' => Lib.run_eql_slice_nil w _ _ a n c n' c' Tryz.underlying47
  have HR := Lib.hid r
  clear r
  cases sp with
  | none =>
    have hl : l = [] := List.eq_nil_of_length_eq_zero (RdE.nosp HR.out).2
    have HL := Lib.hid hl
    clear hl
    go_enter Tryz.func94, Tryz.ntmps94
    go_wp2
    go_ret
    exact ⟨⟨_, rfl, by rw [HL.out]; exact SlE.nil _ _ _ _ _⟩, Below.refl _ _⟩
  | some a =>
    have HOWN := Lib.hid (SlE.made0 (α := En) w 51 3 encEl)
    have HRD := Lib.hid (HR.out.below (bl_alloc (Below.refl _ w) (.cells #[] 51)))
    have HBS : Hid (w.heap.size ≤ (w.alloc (.cells #[] 51)).heap.size) := Lib.hid (by simp)
    have HM := Lib.hid hlen
    go_enter Tryz.func94, Tryz.ntmps94
    go_wp2_with (at_builtin; refine wpList_app entT rfl _ _ rfl rfl HOWN.out rfl HRD.out (by have := HM.out; unfold maxLen; simp; omega) (by have := HM.out; simp; omega) HBS.out ?_; intro v' w' hs' ht'; have HS' := Lib.hid hs'; have HT' := Lib.hid ht'; clear hs' ht')
    go_ret
    exact ⟨⟨_, rfl, HS'.out⟩, (bl_alloc (Below.refl _ _) _).trans (HT'.out.below (B := w.heap.size) HBS.out (fun x hx => (SlE.lt HOWN.out x hx).1))⟩

/-- The first entries behind a name; are there more? -/
def fromL (l : List En) (after : ByteArray) (num : Int) : List En × Bool :=
  if ((l.filter (behB after)).length : Int) ≤ max num 0 then (l.filter (behB after), false) else ((l.filter (behB after)).take num.toNat, true)

theorem ents_at {g : ByteArray → Option En} {ks : List ByteArray} (hk : SortedNames g ks) (hnm : ∀ k e, g k = some e → e.name = k) {i : Nat} {x : En} (hx : (entsOf g ks)[i]? = some x) : ks[i]? = some x.name := by
  unfold entsOf at hx
  rw [List.getElem?_map] at hx
  obtain ⟨k, hki, rfl⟩ := Option.map_eq_some_iff.1 hx
  have hmem := (hk.mem k).1 (List.mem_of_getElem? hki)
  obtain ⟨e, he⟩ := Option.isSome_iff_exists.1 hmem
  rw [he, Option.getD_some, hnm k e he, hki]
theorem ents_split {g : ByteArray → Option En} {ks : List ByteArray} (hk : SortedNames g ks) (hnm : ∀ k e, g k = some e → e.name = k) (after : ByteArray) :
    ∃ c, c ≤ (entsOf g ks).length ∧ (∀ (j : Nat) x, (entsOf g ks)[j]? = some x → j < c → behB after x = false) ∧ (∀ (j : Nat) x, (entsOf g ks)[j]? = some x → c ≤ j → behB after x = true) ∧ (entsOf g ks).drop c = (entsOf g ks).filter (behB after) := by
  obtain ⟨c, h0, h1, h2⟩ := mono_split (behB after) (entsOf g ks) (by
    intro i j x y hij hi hj hp
    have a := ents_at hk hnm hi
    have b := ents_at hk hnm hj
    have hp0 : after.data.toList < x.name.data.toList := of_decide_eq_true hp
    have hp : nmLt after x.name := hp0
    have goal : nmLt after y.name → behB after y = true := fun h => decide_eq_true (show after.data.toList < y.name.data.toList from h)
    refine goal ?_
    rcases Nat.eq_or_lt_of_le hij with rfl | hlt
    · rw [a] at b; injection b with b; rw [← b]; exact hp
    · obtain ⟨ia, ea⟩ := List.getElem?_eq_some_iff.1 a
      obtain ⟨ib, eb⟩ := List.getElem?_eq_some_iff.1 b
      have := List.pairwise_iff_getElem.1 hk.rise i j ia ib hlt
      rw [ea, eb] at this
      exact nmLt_trans hp this)
  exact ⟨c, h0, h1, h2, drop_filter _ _ _ h1 h2⟩

set_option maxHeartbeats 2000000 in
theorem dfrom_any {w : World} {b n : Nat} {m : Option Nat} {g : ByteArray → Option En} (h : DirAt w b m g n) (hn : n ≤ 1000000) (hsz : ∀ k, (g k).isSome = true → k.size ≤ maxLen) (hnm : ∀ k e, g k = some e → e.name = k) (after : ByteArray) (num : Int) :
    Calls Tryz.prog 50 #[.pointer (some ⟨b, 0, none⟩), .string after, .int .i64 num] w fun e w' =>
      (∃ v ks, e = .returned (.tuple #[v, .bool (fromL (entsOf g ks) after num).2]) ∧ SlEn w' w.heap.size v (fromL (entsOf g ks) after num).1 ∧ SortedNames g ks ∧ ks.length = n) ∧ Below w.heap.size w w' := by
  generalize hP : (fun (e : Ending) (w' : World) => (∃ v ks, e = .returned (.tuple #[v, .bool (fromL (entsOf g ks) after num).2]) ∧ SlEn w' w.heap.size v (fromL (entsOf g ks) after num).1 ∧ SortedNames g ks ∧ ks.length = n) ∧ Below w.heap.size w w') = Post
  have HP := Lib.hid hP
  have H0 := Lib.hid (h.below (bl_alloc (Below.refl _ w) (.cells #[.string after] 9)))
  have HSZ := Lib.hid hsz
  have HNM := Lib.hid hnm
  have HBX : Hid ((w.alloc (.cells #[.string after] 9)).cell? ⟨w.heap.size, 0, none⟩ = some (.string after)) := Lib.hid (by simp)
  have HB0 := Lib.hid (bl_alloc (Below.refl _ w) (.cells #[.string after] 9))
  have hbz : w.heap.size < (w.alloc (.cells #[.string after] 9)).heap.size := by simp
  clear hP h hsz hnm
  go_enter Tryz.func50, Tryz.ntmps50
  go_wp2_with fail
  generalize w.alloc (.cells #[.string after] 9) = w0 at *
  generalize hbs : w.heap.size = bs at *
  have HBS := Lib.hid hbs
  clear hbs
  refine (dall_any H0.out hn HSZ.out).mono ?_
  rintro e w1 ⟨⟨v, ks, rfl, hs, hk, hkl⟩, hb⟩
  obtain ⟨c, hc0, hc1, hc2, hc3⟩ := ents_split hk HNM.out after
  have hel : (entsOf g ks).length = n := by rw [entsOf_len, hkl]
  have HK := Lib.hid hk
  have HKL := Lib.hid hkl
  have HDF := Lib.hid (delfunc_any hs (by omega) hb.size ((hb.cell (p := ⟨bs, 0, none⟩) hbz).trans HBX.out) hbz hc1 hc2 hc0)
  rw [hc3] at HDF
  have HB1 := Lib.hid hb
  have hrl : ((entsOf g ks).filter (behB after)).length ≤ n := by rw [← hel]; exact List.length_filter_le _ _
  have HF : Hid (fromL (entsOf g ks) after num = if (((entsOf g ks).filter (behB after)).length : Int) ≤ max num 0 then ((entsOf g ks).filter (behB after), false) else (((entsOf g ks).filter (behB after)).take num.toNat, true)) := Lib.hid rfl
  generalize (entsOf g ks).filter (behB after) = rest at *
  generalize hfl : fromL (entsOf g ks) after num = fl at *
  have HFL := Lib.hid hfl
  clear hs hk hkl hb hc0 hc1 hc2 hc3 hel hfl
  go_wp2_with fail
  refine HDF.out.mono ?_
  rintro e w2 ⟨⟨u, rfl, hs2⟩, hb2⟩
  have HS2 := Lib.hid hs2
  have HB2 := Lib.hid (HB0.out.trans ((HB1.out.trans hb2).mono (Nat.le_of_lt hbz)))
  obtain ⟨sq, cq, hu, hcq⟩ := RdE.shape (hs2.rd encEl_len)
  subst hu
  clear hs2 hb2 HDF
  by_cases hle : (rest.length : Int) ≤ max num 0
  · have hf : fl = (rest, false) := by rw [HF.out, if_pos hle]
    subst hf
    go_wp2
    rw [← HP.out]
    refine ⟨⟨.slice sq rest.length cq, ks, ?_, ?_, HK.out, HKL.out⟩, HB2.out⟩
    · rw [HFL.out]; rfl
    · rw [HFL.out]
      exact HS2.out.mono (Nat.le_of_lt hbz)
  · have hf : fl = (rest.take (max num 0).toNat, true) := by rw [HF.out, if_neg hle, show num.toNat = (max num 0).toNat by omega]
    subst hf
    have hle2 : ¬ (rest.length : Int) ≤ max num 0 := hle
    go_wp2_with fail
    refine (eclone_any (RdE.taken (HS2.out.rd encEl_len) (by omega)) (by rw [List.length_take]; omega)).mono ?_
    rintro e w3 ⟨⟨u3, rfl, hs3⟩, hb3⟩
    have HS3 := Lib.hid hs3
    have hz2 : bs ≤ w2.heap.size := by have := HB2.out.size; rw [HBS.out] at this; exact this
    have HB3 := Lib.hid (HB2.out.trans (hb3.mono hz2))
    clear hs3 hb3
    go_wp2
    rw [← HP.out]
    refine ⟨⟨u3, ks, ?_, ?_, HK.out, HKL.out⟩, HB3.out⟩
    · rw [HFL.out]; rfl
    · rw [HFL.out]
      exact HS3.out.mono hz2
end Go.Proofs.YtjekpbkmhgfhoaaGreatDoor
end

section
/- The walks that the law DirPlays needs: find, right, maps.Clone and Clone of package dir. -/
namespace Go.Proofs.YtjekpbkmhgfhoaaGreatDoor
open Go Go.RowKit
set_option maxRecDepth 100000
set_option linter.unusedSimpArgs false
attribute [local go_sem] giv tx_leq
variable {E : Nat → Addr} {B : Nat}

/-- A name's place among entries; -1. -/
def findI : List En → ByteArray → Nat → Int
  | [], _, _ => -1
  | x :: l, s, i => if x.name = s then (i : Int) else findI l s (i + 1)
theorem mclone_e {w : World} {r n : Nat} {g : ByteArray → Option En} (h : EMap w r g n) : Calls Tryz.prog 204 #[.map (some r)] w fun e w' =>
    e = .returned (.map (some w.heap.size)) ∧ EMap w' w.heap.size g n ∧ Below w.heap.size w w' ∧ w'.heap.size = w.heap.size + 1 := by
  obtain ⟨es, clk, _, hb, hc⟩ := h.copy
  have hq := fun w => run_eql_map_nil_sl (P := Tryz.prog) w 188 _ _ (some r) Tryz.underlying188
  clear h
  go_enter Tryz.func204, Tryz.ntmps204
  go_wp2
  rw [run_callFunc_extern Tryz.func170 (by kernel_rfl) (by kernel_rfl) (by kernel_rfl) (e := Extern.MapsClone.clone) (by kernel_rfl), run_maps_clone_sl w 188 hb]
  simp only [Result.andThen]
  rw [Oper.upon_value]
  go_wp2
  rw [run_typeAssert_map_sl _ 188 _ _ _ _ Tryz.underlying188]
  simp only [Result.andThen]
  rw [Oper.upon_value]
  go_wp2
  go_ret
  exact ⟨rfl, hc w, bl_alloc (Below.refl _ _) _, by simp⟩
theorem mclone_e0 (w : World) : Calls Tryz.prog 204 #[.map none] w fun e w' =>
    e = .returned (.map none) ∧ w = w' := by
  have hq := fun w => run_eql_map_nil_sl (P := Tryz.prog) w 188 _ _ none Tryz.underlying188
  go_enter Tryz.func204, Tryz.ntmps204
  go_wp2
  go_ret
  exact ⟨rfl, rfl⟩

/-- A directory of its own, which has the same. -/
theorem dclone_any {w : World} {b : Nat} {m : Option Nat} {g : ByteArray → Option En} {n : Nat} (h : DirAt w b m g n) :
    Calls Tryz.prog 169 #[.pointer (some ⟨b, 0, none⟩)] w fun e w' =>
      (∃ b' m', e = .returned (.pointer (some ⟨b', 0, none⟩)) ∧ DirAt w' b' m' g n ∧ ∀ x, OwnD b' m' x → w.heap.size ≤ x) ∧ Below w.heap.size w w' := by
  generalize hP : (fun (e : Ending) (w' : World) => (∃ b' m', e = .returned (.pointer (some ⟨b', 0, none⟩)) ∧ DirAt w' b' m' g n ∧ ∀ x, OwnD b' m' x → w.heap.size ≤ x) ∧ Below w.heap.size w w') = Post
  have HP := Lib.hid hP
  clear hP
  have H := Lib.hid h
  have s0 := H.out.1
  have hlt := H.out.2.2.1
  clear h
  cases m with
  | none =>
    go_enter Tryz.func169, Tryz.ntmps169
    go_wp2_with fail
    refine (mclone_e0 _).mono ?_
    rintro e w1 ⟨rfl, rfl⟩
    go_wp2
    rw [← HP.out]
    have r := Row.new w 190 [.map none]
    refine ⟨⟨w.heap.size, none, rfl, ⟨(r.cell 0 : _), (r.froz 0 : _), (r.lt : _), H.out.2.2.2⟩, ?_⟩, bl_alloc (Below.refl _ _) _⟩
    rintro x (rfl | h)
    · exact Nat.le_refl _
    · cases h
  | some r =>
    have HM := Lib.hid H.out.2.2.2.2
    go_enter Tryz.func169, Tryz.ntmps169
    go_wp2_with fail
    refine (mclone_e HM.out).mono ?_
    rintro e w1 ⟨rfl, hv1, hb1, hs1⟩
    have HV1 := Lib.hid hv1
    have HB1 := Lib.hid hb1
    have HS1 := Lib.hid hs1
    clear hv1 hb1 hs1
    go_wp2
    rw [← HP.out]
    have hs1 : w1.heap.size = w.heap.size + 1 := HS1.out
    have r := Row.new w1 190 [.map (some w.heap.size)]
    have hm1 : EMap w1 w.heap.size g n := HV1.out
    refine ⟨⟨_, some w.heap.size, rfl, ⟨(r.cell 0 : _), (r.froz 0 : _), (r.lt : _), by omega, hm1.alloc _⟩, ?_⟩, bl_alloc HB1.out _⟩
    rintro x (rfl | h)
    · omega
    · injection h with h
      omega
end Go.Proofs.YtjekpbkmhgfhoaaGreatDoor
end

section
/- A list of entries by their names, as law 14 keeps it, against a directory's function. -/
namespace Go.Proofs.YtjekpbkmhgfhoaaGreatDoor
open Go
set_option maxRecDepth 100000

/-- Law 14's list stands for a directory. -/
structure HaveD (l : List En) (g : ByteArray → Option En) : Prop where
  rise : l.Pairwise (fun a b => nmLt a.name b.name)
  get : ∀ k x, g k = some x ↔ x ∈ l ∧ x.name = k

section
variable {l : List En} {g : ByteArray → Option En} (h : HaveD l g)
include h
theorem HaveD.sorted : SortedNames g (l.map En.name) := by
  refine ⟨List.pairwise_map.2 h.rise, fun k => ?_⟩
  rw [List.mem_map]
  constructor
  · rintro ⟨x, h1, h2⟩
    rw [(h.get k x).2 ⟨h1, h2⟩]; rfl
  · intro hs
    obtain ⟨x, hx⟩ := Option.isSome_iff_exists.1 hs
    exact ⟨x, (h.get k x).1 hx⟩
theorem HaveD.ents {ks : List ByteArray} (hk : SortedNames g ks) : entsOf g ks = l := by
  have h2 := h.sorted
  obtain rfl : ks = l.map En.name := rise_ext hk.rise h2.rise fun x => (hk.mem x).trans (h2.mem x).symm
  unfold entsOf
  rw [List.map_map]
  conv => rhs; rw [← List.map_id l]
  refine List.map_congr_left fun x hx => ?_
  simp only [Function.comp, id]
  rw [(h.get x.name x).2 ⟨hx, rfl⟩]; rfl
end
end Go.Proofs.YtjekpbkmhgfhoaaGreatDoor
end

section
/- Trees in plain words: paths, where they lead, the acts; what holds of every tree. No program in sight. -/
namespace Go.Proofs.YtjekpbkmhgfhoaaGreatDoor
set_option maxRecDepth 100000
set_option linter.unusedSimpArgs false
set_option linter.unusedVariables false

instance (a b : ByteArray) : Decidable (nmLt a b) := inferInstanceAs (Decidable (a.data.toList < b.data.toList))
theorem nmSpecial_eq' (s : ByteArray) : nmSpecial s = (s.data.toList == [46] || s.data.toList == [46, 46]) := nmSpecial_eq s
/-! ### paths -/
/-- A path: its parts; does a slash stand behind them? -/
structure Pth where
  parts : List ByteArray
  slash : Bool
def noPth : Pth := ⟨[], false⟩
/-- Cut at each slash. -/
def cuts : List UInt8 → List (List UInt8)
  | [] => [[]]
  | c :: l => if c = 47 then [] :: cuts l else match cuts l with
    | [] => [[c]]
    | x :: r => (c :: x) :: r
/-- The parts that are some; none: one is too long. -/
def partsOf : List (List UInt8) → Option (List ByteArray)
  | [] => some []
  | x :: l => if x = [] ∨ x = [46] then partsOf l else if 24 < x.length then none else (partsOf l).map (⟨x.toArray⟩ :: ·)
def lastSlash (l : List UInt8) : Bool := match l.getLast? with
  | some c => c == 47
  | none => false
def parseP (s : ByteArray) : Int × Pth :=
  if s.data.toList = [] then (109, noPth) else if 256 < s.size then (115, noPth) else
  if s.data.toList.head? ≠ some 47 ∨ s.data.toList.contains 0 then (114, noPth) else
  match partsOf (cuts s.data.toList) with
  | none => (115, noPth)
  | some ps => (0, ⟨ps, !ps.isEmpty && lastSlash s.data.toList⟩)
def dots : List UInt8 := [46, 46]
def isUp (p : ByteArray) : Bool := p.data.toList == dots
def splitP (p : Pth) : Int × List ByteArray × ByteArray := match p.parts.getLast? with
  | none => (114, [], noText)
  | some x => if isUp x then (114, [], noText) else (0, p.parts.dropLast, x)

/-! ### trees -/
structure NR where
  nd : Nd
  ents : List En
structure St where
  last : Int
  ns : List NR
def St.get (s : St) (id : Int) : Option NR := s.ns.find? fun x => x.nd.id == id
def St.isDir (s : St) (id : Int) : Bool := match s.get id with
  | some r => r.nd.kind == 2
  | none => false
def entOf (l : List En) (n : ByteArray) : Option En := l.find? fun e => e.name.data.toList == n.data.toList
def St.dirOf (s : St) (id : Int) : Option (List En) := match s.get id with
  | some r => if r.nd.kind = 2 then some r.ents else none
  | none => none
def St.entry (s : St) (id : Int) (n : ByteArray) : Option En := (s.dirOf id).bind fun l => entOf l n
def upOf (n : Nd) : Int := if n.id = 1 then 1 else n.parent

def goParts (s : St) (follow slash : Bool) (next : ByteArray → Int → List ByteArray → Int × Int) : List ByteArray → Int → Int × Int
  | [], at' => if slash && !s.isDir at' then (111, 0) else (0, at')
  | p :: ps, at' => match s.get at' with
    | none => (111, 0)
    | some d => if d.nd.kind ≠ 2 then (111, 0) else
      if isUp p then goParts s follow slash next ps (upOf d.nd) else
      match entOf d.ents p with
      | none => (109, 0)
      | some e => match s.get e.node with
        | none => (109, 0)
        | some x => if x.nd.kind ≠ 3 ∨ (ps = [] ∧ follow = false ∧ slash = false) then goParts s follow slash next ps e.node
          else next x.nd.target at' ps
def tgtOf (t : ByteArray) (at' : Int) : (Int × Pth) × Int :=
  if t.data.toList.head? = some 47 then (parseP t, 1) else (parseP ⟨(47 :: t.data.toList).toArray⟩, at')
def goH (s : St) (follow slash : Bool) : Nat → List ByteArray → Int → Int × Int
  | 0 => goParts s follow slash fun _ _ _ => (116, 0)
  | h + 1 => goParts s follow slash fun t at' ps =>
    let q := tgtOf t at'
    if q.1.1 ≠ 0 then (q.1.1, 0) else goH s follow slash h (q.1.2.parts ++ ps) q.2
def toP (s : St) (p : Pth) (follow : Bool) : Int × Int := goH s follow p.slash 4 p.parts 1
structure Fnd where
  dir : Int
  node : Int
  name : ByteArray
def noFnd : Fnd := ⟨0, 0, noText⟩
def lastP (s : St) (p : Pth) : Int × Fnd :=
  let q := splitP p
  if q.1 ≠ 0 then (q.1, noFnd) else
  let t := toP s ⟨q.2.1, false⟩ true
  if t.1 ≠ 0 then (t.1, noFnd) else
  match s.dirOf t.2 with
  | none => (111, noFnd)
  | some l => match entOf l q.2.2 with
    | none => (0, ⟨t.2, 0, q.2.2⟩)
    | some e => if p.slash && !s.isDir e.node then (111, noFnd) else (0, ⟨t.2, e.node, q.2.2⟩)

/-! ### what turns a tree -/
def putN (n : Nd) : List NR → List NR
  | [] => [⟨n, []⟩]
  | r :: l => if n.id < r.nd.id then ⟨n, []⟩ :: r :: l else if n.id = r.nd.id then ⟨n, if n.kind = 2 ∧ r.nd.kind = 2 then r.ents else []⟩ :: l else r :: putN n l
def St.put (s : St) (n : Nd) : St := ⟨max s.last n.id, putN n s.ns⟩
def insE (e : En) : List En → List En
  | [] => [e]
  | x :: l => if nmLt e.name x.name then e :: x :: l else x :: insE e l
def onR (id : Int) (f : List En → List En) (l : List NR) : List NR := l.map fun r => if r.nd.id = id then ⟨r.nd, f r.ents⟩ else r
def St.addE (s : St) (d : Int) (e : En) : St := ⟨s.last, onR d (insE e) s.ns⟩
def St.delE (s : St) (d : Int) (n : ByteArray) : St := ⟨s.last, onR d (fun l => l.filter fun e => !(e.name.data.toList == n.data.toList)) s.ns⟩
def St.drop (s : St) (id : Int) : St := ⟨s.last, s.ns.filter fun r => r.nd.id != id⟩
def newSt : St := ⟨1, [⟨⟨1, 2, 1, 0, noText, 1⟩, []⟩]⟩

def setLinks (n : Nd) (l : Int) : Nd := ⟨n.id, n.kind, l, n.size, n.target, n.parent⟩
def setPar (n : Nd) (p : Int) : Nd := ⟨n.id, n.kind, n.links, n.size, n.target, p⟩
/-! ### the acts: code, number, tree -/
def tgtCode (t : ByteArray) : Int := if t.data.toList = [] then 109 else if 88 < t.size then 115 else if t.data.toList.contains 0 then 114 else 0
def freshP (s : St) (p : Pth) (slash : Bool) : Int × Fnd :=
  let f := lastP s p
  if f.1 ≠ 0 then (f.1, noFnd) else if 0 < f.2.node then (110, noFnd) else if p.slash && !slash then (109, noFnd) else f
def makeT (s : St) (a : ByteArray) (kind : Int) (to : ByteArray) : Int × Int × St :=
  let p := parseP a
  if p.1 ≠ 0 then (p.1, 0, s) else
  if kind < 1 ∨ 3 < kind then (114, 0, s) else
  if kind = 3 ∧ tgtCode to ≠ 0 then (tgtCode to, 0, s) else
  let f := freshP s p.2 (kind == 2)
  if f.1 ≠ 0 then (f.1, 0, s) else
  if 512 ≤ s.ns.length ∨ 16777215 ≤ s.last then (104, 0, s) else
  let id := s.last + 1
  (0, id, (s.put ⟨id, kind, 1, 0, if kind = 3 then to else noText, if kind = 2 then f.2.dir else 0⟩).addE f.2.dir ⟨f.2.name, id, kind⟩)
def hardT (s : St) (a b : ByteArray) : Int × St :=
  let p := parseP a
  if p.1 ≠ 0 then (p.1, s) else
  let q := parseP b
  if q.1 ≠ 0 then (q.1, s) else
  let t := toP s p.2 false
  if t.1 ≠ 0 then (t.1, s) else
  match s.get t.2 with
  | none => (114, s)
  | some n => if n.nd.kind = 2 then (114, s) else
    let f := freshP s q.2 false
    if f.1 ≠ 0 then (f.1, s) else
    if 16 ≤ n.nd.links then (117, s) else
    (0, (s.put (setLinks n.nd (n.nd.links + 1))).addE f.2.dir ⟨f.2.name, t.2, n.nd.kind⟩)
def thereP (s : St) (p : Pth) : Int × Fnd × Nd :=
  let f := lastP s p
  if f.1 ≠ 0 then (f.1, noFnd, noNd) else match s.get f.2.node with
  | none => (109, noFnd, noNd)
  | some n => (0, f.2, n.nd)
def unlinkT (s : St) (a : ByteArray) : Int × Int × St :=
  let p := parseP a
  if p.1 ≠ 0 then (p.1, 0, s) else
  let f := thereP s p.2
  if f.1 ≠ 0 then (f.1, 0, s) else
  if f.2.2.kind = 2 then (112, 0, s) else
  (0, f.2.2.id, (s.delE f.2.1.dir f.2.1.name).put (setLinks f.2.2 (max (f.2.2.links - 1) 0)))
def St.full (s : St) (id : Int) : Bool := match s.dirOf id with
  | some l => !l.isEmpty
  | none => false
def rmdirT (s : St) (a : ByteArray) : Int × Int × St :=
  let p := parseP a
  if p.1 ≠ 0 then (p.1, 0, s) else
  let f := thereP s p.2
  if f.1 ≠ 0 then (f.1, 0, s) else
  if f.2.2.kind ≠ 2 then (111, 0, s) else
  if s.full f.2.2.id then (113, 0, s) else
  (0, f.2.2.id, (s.delE f.2.1.dir f.2.1.name).drop f.2.2.id)
def withinK (s : St) (tgt : Int) : Nat → Int → Bool
  | 0, _ => false
  | k + 1, id => match s.get id with
    | none => false
    | some n => if n.nd.kind ≠ 2 then false else if id = tgt then true else if id = 1 then false else withinK s tgt k n.nd.parent
def St.within (s : St) (id tgt : Int) : Bool := withinK s tgt (s.ns.length + 1) id
def ontoC (s : St) (n m : Nd) : Int :=
  if n.kind = 2 ∧ m.kind ≠ 2 then 111 else if n.kind ≠ 2 ∧ m.kind = 2 then 112 else if m.kind = 2 ∧ s.full m.id then 113 else 0
def ousted (s : St) (g : Fnd) : St := match s.get g.node with
  | none => s
  | some m => if m.nd.kind = 2 then (s.delE g.dir g.name).drop m.nd.id else (s.delE g.dir g.name).put (setLinks m.nd (max (m.nd.links - 1) 0))
/-- May a node be put at a place? -/
def renC (s : St) (g : Fnd) (slash : Bool) (n : Nd) : Int := match s.get g.node with
  | some m => ontoC s n m.nd
  | none => if slash && n.kind != 2 then 111 else 0
/-- A name moved from one directory to another (or another name in it). -/
def moveS (s : St) (d1 : Int) (nm1 : ByteArray) (d2 : Int) (nm2 : ByteArray) (n : Nd) : St :=
  (if n.kind = 2 then (s.delE d1 nm1).put (setPar n d2) else s.delE d1 nm1).addE d2 ⟨nm2, n.id, n.kind⟩
def renameT (s : St) (a b : ByteArray) : Int × Int × St :=
  let p := parseP a
  if p.1 ≠ 0 then (p.1, 0, s) else
  let q := parseP b
  if q.1 ≠ 0 then (q.1, 0, s) else
  let f := thereP s p.2
  if f.1 ≠ 0 then (f.1, 0, s) else
  let g := lastP s q.2
  if g.1 ≠ 0 then (g.1, 0, s) else
  if f.2.1.node = g.2.node then (0, 0, s) else
  if f.2.2.kind = 2 ∧ s.within g.2.dir f.2.2.id then (114, 0, s) else
  let c := renC s g.2 q.2.slash f.2.2
  if c ≠ 0 then (c, 0, s) else
  (0, g.2.node, moveS (ousted s g.2) f.2.1.dir f.2.1.name g.2.dir g.2.name f.2.2)
def lookT (s : St) (a : ByteArray) (follow : Bool) : Int × Nd :=
  let p := parseP a
  if p.1 ≠ 0 then (p.1, noNd) else
  let t := toP s p.2 follow
  if t.1 ≠ 0 then (t.1, noNd) else
  match s.get t.2 with
  | none => (109, noNd)
  | some n => (0, n.nd)
def St.count (s : St) : Int := (s.ns.map fun r => (r.ents.length : Int)).sum
def freeT (s : St) (id : Int) : Bool × St := match s.get id with
  | none => (false, s)
  | some n => if 0 < n.nd.links then (false, s) else (true, s.drop id)
/-! ### laws of the plain tree -/
def RiseN (l : List NR) : Prop := l.Pairwise fun a b => a.nd.id < b.nd.id
def findN (l : List NR) (k : Int) : Option NR := l.find? fun x => x.nd.id == k
theorem St.get_eq (s : St) (k : Int) : s.get k = findN s.ns k := rfl
theorem findN_nil (k : Int) : findN [] k = none := rfl
theorem findN_cons (r : NR) (l : List NR) (k : Int) : findN (r :: l) k = if r.nd.id = k then some r else findN l k := by
  unfold findN
  rw [List.find?_cons]
  by_cases h : r.nd.id = k
  · simp [h]
  · rw [if_neg h, beq_eq_false_iff_ne.2 h]
theorem findN_id {l : List NR} {k : Int} {r : NR} (h : findN l k = some r) : r.nd.id = k := by
  have := List.find?_some h
  simpa using this
theorem findN_mem {l : List NR} {k : Int} {r : NR} (h : findN l k = some r) : r ∈ l := List.mem_of_find?_eq_some h
theorem findN_of_mem {l : List NR} (hr : RiseN l) {r : NR} (h : r ∈ l) : findN l r.nd.id = some r := by
  induction l with
  | nil => cases h
  | cons x l ih =>
    rw [findN_cons]
    obtain ⟨h1, h2⟩ := List.pairwise_cons.1 hr
    rcases List.mem_cons.1 h with rfl | h
    · simp
    · have := h1 r h
      rw [if_neg (by omega)]
      exact ih h2 h
theorem findN_none_of_lt {l : List NR} {k : Int} (h : ∀ r ∈ l, k < r.nd.id) : findN l k = none := by
  induction l with
  | nil => rfl
  | cons x l ih =>
    rw [findN_cons, if_neg (by have := h x (List.mem_cons_self ..); omega)]
    exact ih fun r hr => h r (List.mem_cons_of_mem _ hr)
theorem putN_mem {n : Nd} {l : List NR} {r : NR} (h : r ∈ putN n l) : r.nd = n ∨ r ∈ l := by
  induction l with
  | nil => simp [putN] at h; exact .inl (by rw [h])
  | cons x l ih =>
    unfold putN at h
    split at h
    · rcases List.mem_cons.1 h with rfl | h
      · exact .inl rfl
      · exact .inr h
    · split at h
      · rcases List.mem_cons.1 h with rfl | h
        · exact .inl rfl
        · exact .inr (List.mem_cons_of_mem _ h)
      · rcases List.mem_cons.1 h with rfl | h
        · exact .inr (List.mem_cons_self ..)
        · rcases ih h with h | h
          · exact .inl h
          · exact .inr (List.mem_cons_of_mem _ h)
theorem putN_rise {n : Nd} {l : List NR} (hr : RiseN l) : RiseN (putN n l) := by
  induction l with
  | nil => exact List.pairwise_singleton _ _
  | cons x l ih =>
    obtain ⟨h1, h2⟩ := List.pairwise_cons.1 hr
    unfold putN
    split
    · rename_i hlt
      refine List.pairwise_cons.2 ⟨fun r hm => ?_, hr⟩
      rcases List.mem_cons.1 hm with rfl | hm
      · exact hlt
      · have := h1 r hm
        show n.id < r.nd.id
        omega
    · split
      · rename_i he
        exact List.pairwise_cons.2 ⟨fun r hm => by have := h1 r hm; show n.id < r.nd.id; omega, h2⟩
      · refine List.pairwise_cons.2 ⟨fun r hm => ?_, ih h2⟩
        rcases putN_mem hm with he | hm
        · rw [he]; omega
        · exact h1 r hm
/-- The entries that a node has behind a put. -/
def keepE (n : Nd) : Option NR → List En
  | none => []
  | some r => if n.kind = 2 ∧ r.nd.kind = 2 then r.ents else []
theorem findN_putN {n : Nd} {l : List NR} (hr : RiseN l) (k : Int) : findN (putN n l) k = if k = n.id then some ⟨n, keepE n (findN l n.id)⟩ else findN l k := by
  induction l with
  | nil =>
    rw [show putN n [] = [⟨n, []⟩] from rfl, findN_cons]
    by_cases h : k = n.id
    · subst h; simp [findN_nil, keepE]
    · rw [if_neg h, if_neg (fun e => h e.symm)]
  | cons x l ih =>
    obtain ⟨h1, h2⟩ := List.pairwise_cons.1 hr
    unfold putN
    split
    · rename_i hlt
      rw [findN_cons]
      by_cases h : k = n.id
      · subst h
        rw [if_pos rfl, if_pos rfl, findN_none_of_lt (fun r hm => by
          rcases List.mem_cons.1 hm with rfl | hm
          · exact hlt
          · have := h1 r hm; omega)]
        rfl
      · rw [if_neg h, if_neg (fun e => h e.symm)]
    · split
      · rename_i he
        rw [findN_cons, findN_cons x l n.id, findN_cons x l k, if_pos he.symm]
        by_cases h : k = n.id
        · subst h
          rw [if_pos rfl, if_pos rfl]
          rfl
        · rw [if_neg h, if_neg (fun e => h e.symm), if_neg (fun e => h (e.symm.trans he.symm))]
      · rename_i hne hne2
        have hne3 : ¬ x.nd.id = n.id := fun e => hne2 e.symm
        rw [findN_cons, findN_cons x l n.id, findN_cons x l k, ih h2, if_neg hne3]
        by_cases h : k = n.id
        · subst h
          rw [if_neg hne3, if_pos rfl, if_pos rfl]
        · rw [if_neg h, if_neg h]
theorem putN_length {n : Nd} {l : List NR} (hr : RiseN l) : (putN n l).length = if (findN l n.id).isSome then l.length else l.length + 1 := by
  induction l with
  | nil => rfl
  | cons x l ih =>
    obtain ⟨h1, h2⟩ := List.pairwise_cons.1 hr
    unfold putN
    split
    · rename_i hlt
      rw [findN_none_of_lt (fun r hm => by
          rcases List.mem_cons.1 hm with rfl | hm
          · exact hlt
          · have := h1 r hm; omega)]
      rfl
    · split
      · rename_i he
        rw [findN_cons, if_pos he.symm]
        rfl
      · rename_i h3
        have hne3 : ¬ x.nd.id = n.id := fun e => h3 e.symm
        rw [findN_cons, if_neg hne3, List.length_cons, ih h2]
        split <;> rfl
theorem onR_rise {id : Int} {f : List En → List En} {l : List NR} (hr : RiseN l) : RiseN (onR id f l) := by
  unfold onR RiseN
  rw [List.pairwise_map]
  refine hr.imp fun {a b} h => ?_
  split <;> split <;> exact h
theorem findN_onR {id : Int} {f : List En → List En} {l : List NR} (k : Int) : findN (onR id f l) k = (findN l k).map fun r => if r.nd.id = id then ⟨r.nd, f r.ents⟩ else r := by
  induction l with
  | nil => rfl
  | cons x l ih =>
    show findN ((if x.nd.id = id then ⟨x.nd, f x.ents⟩ else x) :: onR id f l) k = _
    rw [findN_cons, findN_cons, ih]
    have e : (if x.nd.id = id then (⟨x.nd, f x.ents⟩ : NR) else x).nd.id = x.nd.id := by split <;> rfl
    rw [e]
    by_cases h : x.nd.id = k
    · rw [if_pos h, if_pos h]; rfl
    · rw [if_neg h, if_neg h]
theorem onR_length (id : Int) (f : List En → List En) (l : List NR) : (onR id f l).length = l.length := by simp [onR]
/-! entries -/
theorem entOf_nil (n : ByteArray) : entOf [] n = none := rfl
theorem nm_ext' {a b : ByteArray} (h : a.data.toList = b.data.toList) : a = b := by
  cases a; cases b; simp at h; subst h; rfl
theorem entOf_cons (e : En) (l : List En) (n : ByteArray) : entOf (e :: l) n = if e.name = n then some e else entOf l n := by
  unfold entOf
  rw [List.find?_cons]
  by_cases h : e.name = n
  · subst h; simp
  · rw [if_neg h]
    have : (e.name.data.toList == n.data.toList) = false := by
      rw [beq_eq_false_iff_ne]
      exact fun e1 => h (nm_ext' e1)
    rw [this]
theorem entOf_name {l : List En} {n : ByteArray} {e : En} (h : entOf l n = some e) : e.name = n := by
  have := List.find?_some h
  exact nm_ext' (by simpa using this)
theorem entOf_mem {l : List En} {n : ByteArray} {e : En} (h : entOf l n = some e) : e ∈ l := List.mem_of_find?_eq_some h
def RiseE (l : List En) : Prop := l.Pairwise fun a b => nmLt a.name b.name
theorem nmLt_irr (a : ByteArray) : ¬ nmLt a a := fun h => List.lt_irrefl _ h
theorem nmLt_tr {a b c : ByteArray} (h : nmLt a b) (k : nmLt b c) : nmLt a c := List.lt_trans h k
theorem nmLt_of_not {a b : ByteArray} (h : ¬ nmLt a b) (hne : a ≠ b) : nmLt b a := by
  rcases Classical.em (nmLt b a) with k | k
  · exact k
  · exact absurd (nm_ext' (List.le_antisymm (List.not_lt.1 k) (List.not_lt.1 h))) hne
theorem entOf_of_mem {l : List En} (hr : RiseE l) {e : En} (h : e ∈ l) : entOf l e.name = some e := by
  induction l with
  | nil => cases h
  | cons x l ih =>
    rw [entOf_cons]
    obtain ⟨h1, h2⟩ := List.pairwise_cons.1 hr
    rcases List.mem_cons.1 h with rfl | h
    · rw [if_pos rfl]
    · have := h1 e h
      rw [if_neg (fun e1 => by rw [e1] at this; exact nmLt_irr _ this)]
      exact ih h2 h
theorem entOf_none_iff {l : List En} {n : ByteArray} : entOf l n = none ↔ ∀ e ∈ l, e.name ≠ n := by
  induction l with
  | nil => simp [entOf_nil]
  | cons x l ih =>
    rw [entOf_cons]
    by_cases h : x.name = n
    · simp [h]
    · rw [if_neg h, ih]
      simp [h]
theorem insE_mem {e x : En} {l : List En} : x ∈ insE e l ↔ x = e ∨ x ∈ l := by
  induction l with
  | nil => simp [insE]
  | cons y l ih =>
    unfold insE
    split
    · simp
    · simp only [List.mem_cons, ih]
      constructor
      · rintro (h | h | h)
        · exact .inr (.inl h)
        · exact .inl h
        · exact .inr (.inr h)
      · rintro (h | h | h)
        · exact .inr (.inl h)
        · exact .inl h
        · exact .inr (.inr h)
theorem insE_length (e : En) (l : List En) : (insE e l).length = l.length + 1 := by
  induction l with
  | nil => rfl
  | cons y l ih =>
    unfold insE
    split
    · rfl
    · rw [List.length_cons, ih, List.length_cons]
theorem insE_rise {e : En} {l : List En} (hr : RiseE l) (hn : entOf l e.name = none) : RiseE (insE e l) := by
  induction l with
  | nil => exact List.pairwise_singleton _ _
  | cons y l ih =>
    obtain ⟨h1, h2⟩ := List.pairwise_cons.1 hr
    rw [entOf_none_iff] at hn
    have hy := hn y (List.mem_cons_self ..)
    unfold insE
    split
    · rename_i hlt
      refine List.pairwise_cons.2 ⟨fun z hz => ?_, hr⟩
      rcases List.mem_cons.1 hz with rfl | hz
      · exact hlt
      · exact nmLt_tr hlt (h1 z hz)
    · rename_i hlt
      have hye := nmLt_of_not hlt (fun e1 => hy e1.symm)
      refine List.pairwise_cons.2 ⟨fun z hz => ?_, ih h2 (entOf_none_iff.2 fun z hz => hn z (List.mem_cons_of_mem _ hz))⟩
      rcases insE_mem.1 hz with rfl | hz
      · exact hye
      · exact h1 z hz
theorem entOf_insE {e : En} {l : List En} (hn : entOf l e.name = none) (k : ByteArray) : entOf (insE e l) k = if k = e.name then some e else entOf l k := by
  induction l with
  | nil =>
    show entOf [e] k = _
    rw [entOf_cons]
    by_cases h : k = e.name
    · subst h; simp
    · rw [if_neg h, if_neg (fun e1 => h e1.symm)]
  | cons y l ih =>
    rw [entOf_none_iff] at hn
    have hy := hn y (List.mem_cons_self ..)
    have ih := ih (entOf_none_iff.2 fun z hz => hn z (List.mem_cons_of_mem _ hz))
    unfold insE
    split
    · rw [entOf_cons]
      by_cases h : k = e.name
      · subst h; simp
      · rw [if_neg h, if_neg (fun e1 => h e1.symm)]
    · rw [entOf_cons, entOf_cons, ih]
      by_cases h : k = e.name
      · subst h; rw [if_neg hy, if_pos rfl, if_pos rfl]
      · rw [if_neg h, if_neg h]
def cutE (n : ByteArray) (l : List En) : List En := l.filter fun e => !(e.name.data.toList == n.data.toList)
/-! ### what holds of every tree -/
structure EntOk (s : St) (e : En) : Prop where
  code : nmCode e.name = 0
  spec : nmSpecial e.name = false
  may : mayB e = true
  node : ∃ x, s.get e.node = some x ∧ x.nd.kind = e.kind

structure Good (s : St) : Prop where
  rise : RiseN s.ns
  hi : s.last ≤ 16777215
  len : s.ns.length ≤ 512
  ids : ∀ r ∈ s.ns, r.nd.id ≤ s.last
  val : ∀ r ∈ s.ns, validB r.nd = true
  flat : ∀ r ∈ s.ns, r.nd.kind ≠ 2 → r.ents = []
  erise : ∀ r ∈ s.ns, RiseE r.ents
  ent : ∀ r ∈ s.ns, ∀ e ∈ r.ents, EntOk s e
  root : ∃ r, s.get 1 = some r ∧ r.nd.kind = 2 ∧ r.nd.parent = 1

theorem valid_ids {n : Nd} (h : validB n = true) : 1 ≤ n.id ∧ n.id ≤ 16777215 := by
  simp only [validB, idB, Bool.and_eq_true, decide_eq_true_eq] at h
  exact h.1
theorem Good.get_mem {s : St} (g : Good s) {r : NR} (h : r ∈ s.ns) : s.get r.nd.id = some r := findN_of_mem g.rise h
theorem Good.lo {s : St} (g : Good s) : 1 ≤ s.last := by
  obtain ⟨r, h, _⟩ := g.root
  have := g.ids r (findN_mem h)
  rw [findN_id h] at this
  exact this
theorem Good.no {s : St} (g : Good s) {k : Int} (hk : s.last < k ∨ k < 1) : s.get k = none := by
  cases h : s.get k with
  | none => rfl
  | some r =>
    have h1 := g.ids r (findN_mem h)
    have h2 := (valid_ids (g.val r (findN_mem h))).1
    rw [findN_id h] at h1 h2
    omega

theorem get_put {s : St} (hr : RiseN s.ns) (n : Nd) (k : Int) : (s.put n).get k = if k = n.id then some ⟨n, keepE n (s.get n.id)⟩ else s.get k := findN_putN hr k
theorem get_addE (s : St) (d : Int) (e : En) (k : Int) : (s.addE d e).get k = (s.get k).map fun r => if r.nd.id = d then ⟨r.nd, insE e r.ents⟩ else r := findN_onR k
theorem EntOk.mono {s s' : St} {e : En} (h : EntOk s e) (hk : ∀ x, s.get e.node = some x → ∃ y, s'.get e.node = some y ∧ y.nd.kind = x.nd.kind) : EntOk s' e := by
  obtain ⟨h1, h2, h3, x, h4, h5⟩ := h
  obtain ⟨y, h6, h7⟩ := hk x h4
  exact ⟨h1, h2, h3, y, h6, h7.trans h5⟩

/-- A node put: new, or in place of one of its kind. -/
theorem Good.put {s : St} (g : Good s) {n : Nd} (hv : validB n = true) (hk : ∀ r, s.get n.id = some r → r.nd.kind = n.kind) (hn : s.get n.id = none → s.ns.length < 512) (hroot : n.id = 1 → n.parent = 1) : Good (s.put n) := by
  have hm : ∀ r ∈ (s.put n).ns, r = ⟨n, keepE n (s.get n.id)⟩ ∨ (r ∈ s.ns ∧ r.nd.id ≠ n.id) := fun r hr => by
    have h1 := findN_of_mem (putN_rise (n := n) g.rise) hr
    rw [findN_putN g.rise] at h1
    by_cases he : r.nd.id = n.id
    · rw [if_pos he] at h1
      injection h1 with h1
      exact .inl h1.symm
    · rw [if_neg he] at h1
      exact .inr ⟨findN_mem h1, he⟩
  have hget : ∀ k x, s.get k = some x → ∃ y, (s.put n).get k = some y ∧ y.nd.kind = x.nd.kind := fun k x hx => by
    rw [get_put g.rise]
    by_cases he : k = n.id
    · subst he
      exact ⟨_, if_pos rfl, (hk x hx).symm⟩
    · exact ⟨x, by rw [if_neg he]; exact hx, rfl⟩
  have hvid := valid_ids hv
  have hkeep : ∀ e ∈ keepE n (s.get n.id), ∃ r ∈ s.ns, e ∈ r.ents := fun e he => by
    cases hg : s.get n.id with
    | none => rw [hg] at he; cases he
    | some r =>
      rw [hg] at he
      unfold keepE at he
      simp only at he
      split at he
      · exact ⟨r, findN_mem hg, he⟩
      · cases he
  refine ⟨putN_rise g.rise, ?_, ?_, ?_, ?_, ?_, ?_, ?_, ?_⟩
  · have := g.hi
    show max s.last n.id ≤ _
    omega
  · show (putN n s.ns).length ≤ 512
    rw [putN_length g.rise]
    have := g.len
    split
    · exact this
    · rename_i hno
      have := hn (Option.not_isSome_iff_eq_none.1 hno)
      omega
  · intro r hr
    show r.nd.id ≤ max s.last n.id
    rcases hm r hr with rfl | ⟨h, _⟩
    · exact Int.le_max_right _ _
    · have := g.ids r h; omega
  · intro r hr
    rcases hm r hr with rfl | ⟨h, _⟩
    · exact hv
    · exact g.val r h
  · intro r hr hk2
    rcases hm r hr with rfl | ⟨h, _⟩
    · simp only at hk2 ⊢
      unfold keepE
      split
      · rfl
      · rw [if_neg (fun h => hk2 h.1)]
    · exact g.flat r h hk2
  · intro r hr
    rcases hm r hr with rfl | ⟨h, _⟩
    · simp only
      cases hg : s.get n.id with
      | none => exact List.Pairwise.nil
      | some r =>
        unfold keepE
        simp only
        split
        · exact g.erise r (findN_mem hg)
        · exact List.Pairwise.nil
    · exact g.erise r h
  · intro r hr e he
    have : ∃ r ∈ s.ns, e ∈ r.ents := by
      rcases hm r hr with rfl | ⟨h, _⟩
      · exact hkeep e he
      · exact ⟨r, h, he⟩
    obtain ⟨r', h1, h2⟩ := this
    exact (g.ent r' h1 e h2).mono (hget _)
  · obtain ⟨r, h1, h2, h3⟩ := g.root
    rw [get_put g.rise]
    by_cases he : (1 : Int) = n.id
    · refine ⟨_, if_pos he, ?_, hroot he.symm⟩
      rw [← he] at hk
      exact (hk r h1).symm.trans h2
    · exact ⟨r, by rw [if_neg he]; exact h1, h2, h3⟩

theorem onR_mem {id : Int} {f : List En → List En} {l : List NR} {r : NR} (h : r ∈ onR id f l) : ∃ x ∈ l, r.nd = x.nd ∧ ((x.nd.id = id ∧ r.ents = f x.ents) ∨ (x.nd.id ≠ id ∧ r.ents = x.ents)) := by
  obtain ⟨x, hx, rfl⟩ := List.mem_map.1 h
  refine ⟨x, hx, ?_⟩
  by_cases he : x.nd.id = id
  · rw [if_pos he]; exact ⟨rfl, .inl ⟨he, rfl⟩⟩
  · rw [if_neg he]; exact ⟨rfl, .inr ⟨he, rfl⟩⟩

/-- Entries turned in one directory. -/
theorem Good.onE {s : St} (g : Good s) (d : Int) (f : List En → List En) (hd : ∀ x, s.get d = some x → x.nd.kind = 2)
    (hrise : ∀ x, s.get d = some x → RiseE x.ents → RiseE (f x.ents)) (hent : ∀ x, s.get d = some x → ∀ e ∈ f x.ents, e ∈ x.ents ∨ EntOk s e) : Good ⟨s.last, onR d f s.ns⟩ := by
  have hget : ∀ k x, s.get k = some x → ∃ y, (⟨s.last, onR d f s.ns⟩ : St).get k = some y ∧ y.nd = x.nd := fun k x hx => by
    refine ⟨_, (findN_onR k).trans (by rw [show findN s.ns k = some x from hx]; rfl), ?_⟩
    show (if x.nd.id = d then (⟨x.nd, f x.ents⟩ : NR) else x).nd = x.nd
    split <;> rfl
  refine ⟨onR_rise g.rise, g.hi, by rw [onR_length]; exact g.len, ?_, ?_, ?_, ?_, ?_, ?_⟩
  · intro r hr
    obtain ⟨x, hx, h1, _⟩ := onR_mem hr
    rw [h1]; exact g.ids x hx
  · intro r hr
    obtain ⟨x, hx, h1, _⟩ := onR_mem hr
    rw [h1]; exact g.val x hx
  · intro r hr hk
    obtain ⟨x, hx, h1, h2⟩ := onR_mem hr
    rw [h1] at hk
    rcases h2 with ⟨h2, _⟩ | ⟨_, h3⟩
    · exact absurd (hd x (by rw [← h2]; exact g.get_mem hx)) hk
    · rw [h3]; exact g.flat x hx hk
  · intro r hr
    obtain ⟨x, hx, h1, h2⟩ := onR_mem hr
    rcases h2 with ⟨h2, h3⟩ | ⟨_, h3⟩
    · rw [h3]; exact hrise x (by rw [← h2]; exact g.get_mem hx) (g.erise x hx)
    · rw [h3]; exact g.erise x hx
  · intro r hr e he
    obtain ⟨x, hx, h1, h2⟩ := onR_mem hr
    have : e ∈ x.ents ∨ EntOk s e := by
      rcases h2 with ⟨h2, h3⟩ | ⟨_, h3⟩
      · rw [h3] at he; exact hent x (by rw [← h2]; exact g.get_mem hx) e he
      · rw [h3] at he; exact .inl he
    have ok : EntOk s e := by
      rcases this with h | h
      · exact g.ent x hx e h
      · exact h
    refine ok.mono fun y hy => ?_
    obtain ⟨z, h4, h5⟩ := hget _ y hy
    exact ⟨z, h4, by rw [h5]⟩
  · obtain ⟨r, h1, h2, h3⟩ := g.root
    obtain ⟨z, h4, h5⟩ := hget _ r h1
    exact ⟨z, h4, by rw [h5]; exact h2, by rw [h5]; exact h3⟩

theorem Good.addE {s : St} (g : Good s) {d : Int} {e : En} {x : NR} (hd : s.get d = some x) (hk : x.nd.kind = 2) (hno : entOf x.ents e.name = none) (hok : EntOk s e) : Good (s.addE d e) := by
  have hx : ∀ y, s.get d = some y → y = x := fun y hy => by rw [hd] at hy; injection hy with hy; exact hy.symm
  refine g.onE d (insE e) (fun y hy => by rw [hx y hy]; exact hk) (fun y hy hr => ?_) (fun y hy z hz => ?_)
  · rw [hx y hy] at hr ⊢; exact insE_rise hr hno
  · rcases insE_mem.1 hz with rfl | hz
    · exact .inr hok
    · exact .inl hz
theorem newNd_valid' : validB ⟨1, 2, 1, 0, noText, 1⟩ = true := by decide +kernel
theorem newSt_good : Good newSt := by
  refine ⟨List.pairwise_singleton _ _, by decide, by decide, ?_, ?_, ?_, ?_, ?_, ⟨_, rfl, rfl, rfl⟩⟩ <;> intro r hr <;> obtain rfl := List.mem_singleton.1 hr
  · decide
  · exact newNd_valid' 
  · intro h; rfl
  · exact List.Pairwise.nil
  · intro e he; cases he
/-! ### names counted -/
/-- How many entries lead to a node. -/
def namesL (id : Int) (l : List En) : Nat := l.countP fun e => e.node == id
def namesN (id : Int) (l : List NR) : Nat := (l.map fun r => namesL id r.ents).sum
def St.names (s : St) (id : Int) : Nat := namesN id s.ns

theorem namesL_ins (id : Int) (e : En) (l : List En) : namesL id (insE e l) = namesL id l + if e.node = id then 1 else 0 := by
  induction l with
  | nil =>
    show namesL id [e] = _
    unfold namesL
    rw [List.countP_cons]
    by_cases h : e.node = id <;> simp [h]
  | cons x l ih =>
    unfold insE
    unfold namesL at ih ⊢
    split
    · rw [List.countP_cons]
      by_cases h : e.node = id <;> simp [h]
    · rw [List.countP_cons, ih, List.countP_cons]
      omega
theorem namesN_put {id : Int} {n : Nd} {l : List NR} (hk : ∀ r, findN l n.id = some r → (n.kind = 2 ∧ r.nd.kind = 2) ∨ r.ents = []) (hr : RiseN l) : namesN id (putN n l) = namesN id l := by
  induction l with
  | nil => rfl
  | cons x l ih =>
    obtain ⟨h1, h2⟩ := List.pairwise_cons.1 hr
    unfold putN
    split
    · show namesL id [] + namesN id (x :: l) = namesN id (x :: l)
      simp [namesL]
    · split
      · rename_i he
        have := hk x (by rw [findN_cons, if_pos he.symm])
        unfold namesN
        rw [List.map_cons, List.map_cons, List.sum_cons, List.sum_cons]
        congr 1
        simp only
        split
        · rfl
        · rename_i h3
          rcases this with h | h
          · exact absurd h h3
          · rw [h]
      · rename_i h3
        have hne3 : ¬ x.nd.id = n.id := fun e => h3 e.symm
        have := ih (fun r h => hk r (by rw [findN_cons, if_neg hne3]; exact h)) h2
        unfold namesN at this ⊢
        rw [List.map_cons, List.map_cons, List.sum_cons, List.sum_cons, this]
theorem namesN_on {id d : Int} {f : List En → List En} {l : List NR} {x : NR} (hr : RiseN l) (hd : findN l d = some x) : namesN id (onR d f l) + namesL id x.ents = namesN id l + namesL id (f x.ents) := by
  induction l with
  | nil => cases hd
  | cons y l ih =>
    obtain ⟨h1, h2⟩ := List.pairwise_cons.1 hr
    rw [findN_cons] at hd
    unfold namesN at ih ⊢
    unfold onR at ih ⊢
    rw [List.map_cons, List.map_cons, List.map_cons, List.sum_cons, List.sum_cons]
    by_cases h : y.nd.id = d
    · rw [if_pos h] at hd
      injection hd with hd
      subst hd
      rw [if_pos h]
      have : (l.map fun r => if r.nd.id = d then (⟨r.nd, f r.ents⟩ : NR) else r) = l := by
        conv => rhs; rw [← List.map_id l]
        refine List.map_congr_left fun r hr' => ?_
        have := h1 r hr'
        rw [if_neg (by omega)]; rfl
      rw [this]
      show namesL id (f y.ents) + _ + _ = _
      omega
    · rw [if_neg h] at hd
      rw [if_neg h]
      have := ih h2 hd
      omega
theorem le_sum_mem {l : List Nat} {x : Nat} (h : x ∈ l) : x ≤ l.sum := by
  induction l with
  | nil => cases h
  | cons y l ih =>
    rw [List.sum_cons]
    rcases List.mem_cons.1 h with rfl | h
    · omega
    · have := ih h; omega
structure Full (s : St) : Prop extends Good s where
  cnt : ∀ k r, s.get k = some r → r.nd.links = s.names k + if k = 1 then 1 else 0
  par : ∀ d r, s.get d = some r → ∀ e ∈ r.ents, ∀ x, s.get e.node = some x → x.nd.kind = 2 → x.nd.parent = d
  one : ∀ k r, s.get k = some r → r.nd.kind = 2 → r.nd.links = 1
theorem newSt_full : Full newSt := by
  refine { newSt_good with cnt := ?_, par := ?_, one := ?_ } <;> intro k r hr <;> obtain rfl := List.mem_singleton.1 (findN_mem hr) <;> obtain rfl := findN_id hr
  · rfl
  · intro e he; cases he
  · intro _; rfl

theorem sum_zero {l : List Nat} (h : ∀ x ∈ l, x = 0) : l.sum = 0 := by
  induction l with
  | nil => rfl
  | cons x l ih => rw [List.sum_cons, h x (List.mem_cons_self ..), ih fun y hy => h y (List.mem_cons_of_mem _ hy)]
theorem names_of {s : St} {k : Int} (h : 0 < s.names k) : ∃ r ∈ s.ns, ∃ e ∈ r.ents, e.node = k := by
  refine Classical.byContradiction fun hn => ?_
  have : s.names k = 0 := by
    unfold St.names namesN
    refine sum_zero fun x hx => ?_
    obtain ⟨r, hr, rfl⟩ := List.mem_map.1 hx
    refine List.countP_eq_zero.2 fun e he => ?_
    simp only [beq_iff_eq]
    exact fun hk => hn ⟨r, hr, e, he, hk⟩
  omega
theorem Full.parent {s : St} (f : Full s) {id : Int} {x : NR} (h : s.get id = some x) (hk : x.nd.kind = 2) : ∃ y, s.get (upOf x.nd) = some y ∧ y.nd.kind = 2 := by
  unfold upOf
  have hid := findN_id h
  by_cases h1 : x.nd.id = 1
  · rw [if_pos h1]
    obtain ⟨r, h2, h3, _⟩ := f.root
    exact ⟨r, h2, h3⟩
  · rw [if_neg h1]
    have h2 := f.cnt id x h
    rw [f.one id x h hk, if_neg (by rw [← hid]; exact h1)] at h2
    obtain ⟨r, hr, e, he, hek⟩ := names_of (s := s) (k := id) (by omega)
    have h3 := f.par _ r (f.get_mem hr) e he x (by rw [hek]; exact h) hk
    refine ⟨r, by rw [h3]; exact f.get_mem hr, ?_⟩
    refine Classical.byContradiction fun hn => ?_
    rw [f.flat r hr hn] at he
    cases he
end Go.Proofs.YtjekpbkmhgfhoaaGreatDoor
end

section
/- Trees in plain words: each act keeps what holds of every tree. -/
namespace Go.Proofs.YtjekpbkmhgfhoaaGreatDoor
set_option maxRecDepth 100000
set_option linter.unusedSimpArgs false
set_option linter.unusedVariables false

theorem toList_empty {t : ByteArray} (h : t.data.toList ≠ []) : t.toList.isEmpty = false := by
  rw [ByteArray.toList_eq, List.isEmpty_eq_false_iff]
  exact h
/-! ### what a path's parts are -/
structure PartOk (x : ByteArray) : Prop where
  code : nmCode x = 0
  dot : x.data.toList ≠ [46]
theorem cuts_ne {l : List UInt8} : cuts l ≠ [] := by
  induction l with
  | nil => intro h; cases h
  | cons c l ih =>
    unfold cuts
    split
    · intro h; cases h
    · split <;> intro h <;> cases h
theorem cuts_mem {l : List UInt8} {x : List UInt8} (h : x ∈ cuts l) : ∀ c ∈ x, c ≠ 47 ∧ c ∈ l := by
  induction l generalizing x with
  | nil =>
    obtain rfl := List.mem_singleton.1 h
    intro c hc; cases hc
  | cons d l ih =>
    unfold cuts at h
    split at h
    · rcases List.mem_cons.1 h with rfl | h
      · intro c hc; cases hc
      · intro c hc
        exact ⟨(ih h c hc).1, List.mem_cons_of_mem _ (ih h c hc).2⟩
    · rename_i hd
      split at h
      · rename_i he; exact absurd he cuts_ne
      · rename_i y r he
        rcases List.mem_cons.1 h with rfl | h
        · intro c hc
          rcases List.mem_cons.1 hc with rfl | hc
          · exact ⟨hd, List.mem_cons_self ..⟩
          · have := ih (by rw [he]; exact List.mem_cons_self ..) c hc
            exact ⟨this.1, List.mem_cons_of_mem _ this.2⟩
        · intro c hc
          have := ih (by rw [he]; exact List.mem_cons_of_mem _ h) c hc
          exact ⟨this.1, List.mem_cons_of_mem _ this.2⟩
theorem partsOf_mem {l : List (List UInt8)} {ps : List ByteArray} (h : partsOf l = some ps) : ∀ p ∈ ps, p.data.toList ∈ l ∧ p.data.toList ≠ [] ∧ p.data.toList ≠ [46] ∧ p.size ≤ 24 := by
  induction l generalizing ps with
  | nil =>
    unfold partsOf at h
    injection h with h
    subst h
    intro p hp; cases hp
  | cons x l ih =>
    unfold partsOf at h
    split at h
    · intro p hp
      have := ih h p hp
      exact ⟨List.mem_cons_of_mem _ this.1, this.2⟩
    · rename_i hx
      split at h
      · cases h
      · rename_i hlen
        obtain ⟨qs, hq, rfl⟩ := Option.map_eq_some_iff.1 h
        intro p hp
        rcases List.mem_cons.1 hp with rfl | hp
        · refine ⟨by simp, ?_, ?_, ?_⟩
          · intro e; exact hx (.inl (by simpa using e))
          · intro e; exact hx (.inr (by simpa using e))
          · show x.toArray.size ≤ 24
            simp; omega
        · have := ih hq p hp
          exact ⟨List.mem_cons_of_mem _ this.1, this.2⟩
theorem parse_parts {s : ByteArray} {p : Pth} (h : parseP s = (0, p)) : ∀ x ∈ p.parts, PartOk x := by
  unfold parseP at h
  split at h
  · cases h
  · split at h
    · cases h
    · split at h
      · cases h
      · rename_i hz
        split at h
        · cases h
        · rename_i ps hps
          injection h with _ h
          subst h
          intro x hx
          obtain ⟨h1, h2, h3, h4⟩ := partsOf_mem hps x hx
          refine ⟨?_, h3⟩
          unfold nmCode
          rw [if_neg h2, if_neg (by omega), if_neg]
          intro hc
          rw [Bool.or_eq_true, List.contains_iff_mem, List.contains_iff_mem] at hc
          rcases hc with hc | hc
          · exact (cuts_mem h1 _ hc).1 rfl
          · exact hz (.inr (List.contains_iff_mem.2 (cuts_mem h1 _ hc).2))
theorem splitP_ok {p : Pth} {q : List ByteArray} {n : ByteArray} (h : splitP p = (0, q, n)) : p.parts = q ++ [n] ∧ isUp n = false := by
  unfold splitP at h
  split at h
  · cases h
  · rename_i x hx
    split at h
    · cases h
    · rename_i hu
      injection h with _ h
      injection h with h1 h2
      subst h1 h2
      have hne : p.parts ≠ [] := by intro e; rw [e] at hx; cases hx
      rw [List.getLast?_eq_some_getLast hne] at hx
      injection hx with hx
      exact ⟨by rw [← hx]; exact (List.dropLast_concat_getLast hne).symm, by simpa using hu⟩
theorem splitP_code (p : Pth) : (splitP p).1 = 0 ∨ (splitP p).1 = 114 := by
  unfold splitP
  split
  · exact .inr rfl
  · split
    · exact .inr rfl
    · exact .inl rfl

/-- What Last finds. -/
structure LastOk (s : St) (p : Pth) (f : Fnd) : Prop where
  part : f.name ∈ p.parts
  up : isUp f.name = false
  at' : ∃ x, s.get f.dir = some x ∧ x.nd.kind = 2 ∧ ((f.node = 0 ∧ entOf x.ents f.name = none) ∨ ∃ e, entOf x.ents f.name = some e ∧ e.node = f.node ∧ (p.slash = true → s.isDir f.node = true))
theorem dirOf_some {s : St} {id : Int} {l : List En} (h : s.dirOf id = some l) : ∃ x, s.get id = some x ∧ x.nd.kind = 2 ∧ x.ents = l := by
  unfold St.dirOf at h
  split at h
  · rename_i r hr
    split at h
    · rename_i hk
      injection h with h
      exact ⟨r, hr, hk, h⟩
    · cases h
  · cases h
theorem lastP_ok {s : St} {p : Pth} {f : Fnd} (h : lastP s p = (0, f)) : LastOk s p f := by
  unfold lastP at h
  obtain ⟨c, q, n, hq⟩ : ∃ c q n, splitP p = (c, q, n) := ⟨_, _, _, rfl⟩
  rw [hq] at h
  simp only at h
  split at h
  · rename_i hc
    injection h with h
    exact absurd h hc
  · rename_i hc
    have hc0 : c = 0 := by omega
    subst hc0
    obtain ⟨h1, h2⟩ := splitP_ok hq
    have hn : n ∈ p.parts := by rw [h1]; simp
    split at h
    · rename_i ht
      injection h with h
      exact absurd h ht
    · split at h
      · cases h
      · rename_i l hl
        obtain ⟨x, hx, hk, rfl⟩ := dirOf_some hl
        split at h
        · rename_i he
          injection h with _ h
          subst h
          exact ⟨hn, h2, x, hx, hk, .inl ⟨rfl, he⟩⟩
        · rename_i e he
          split at h
          · cases h
          · rename_i hs
            injection h with _ h
            subst h
            refine ⟨hn, h2, x, hx, hk, .inr ⟨e, he, rfl, fun hsl => ?_⟩⟩
            rw [hsl] at hs
            simpa using hs
theorem LastOk.name {s : St} {a : ByteArray} {p : Pth} {f : Fnd} (h : LastOk s p f) (hp : parseP a = (0, p)) : nmCode f.name = 0 ∧ nmSpecial f.name = false := by
  have h1 := parse_parts hp _ h.part
  have h2 := h.up
  refine ⟨h1.code, ?_⟩
  rw [nmSpecial_eq']
  unfold isUp dots at h2
  rw [h2, Bool.or_false, beq_eq_false_iff_ne]
  exact h1.dot
/-! ### where a path leads is there -/
theorem goParts_some {s : St} (f : Full s) {follow slash : Bool} {next : ByteArray → Int → List ByteArray → Int × Int} (hn : ∀ t at' ps id, next t at' ps = (0, id) → (∃ y, s.get at' = some y) → ∃ y, s.get id = some y) :
    ∀ (ps : List ByteArray) (at' id : Int), goParts s follow slash next ps at' = (0, id) → (∃ y, s.get at' = some y) → ∃ y, s.get id = some y := by
  intro ps
  induction ps with
  | nil =>
    intro at' id h hy
    unfold goParts at h
    split at h
    · cases h
    · injection h with _ h
      subst h; exact hy
  | cons p ps ih =>
    intro at' id h hy
    unfold goParts at h
    split at h
    · cases h
    · rename_i d hd
      split at h
      · cases h
      · rename_i hk
        split at h
        · obtain ⟨y, h1, _⟩ := f.parent hd (by simpa using hk)
          exact ih _ _ h ⟨y, h1⟩
        · split at h
          · cases h
          · split at h
            · cases h
            · rename_i x hx
              split at h
              · exact ih _ _ h ⟨x, hx⟩
              · exact hn _ _ _ _ h hy
theorem goH_some {s : St} (f : Full s) {follow slash : Bool} : ∀ (h : Nat) (ps : List ByteArray) (at' id : Int), goH s follow slash h ps at' = (0, id) → (∃ y, s.get at' = some y) → ∃ y, s.get id = some y := by
  intro h
  induction h with
  | zero =>
    unfold goH
    exact goParts_some f fun t at' ps id h => by cases h
  | succ h ih =>
    unfold goH
    refine goParts_some f fun t at' ps id hq hy => ?_
    simp only at hq
    split at hq
    · rename_i hne
      injection hq with hq
      exact absurd hq hne
    · refine ih _ _ _ hq ?_
      unfold tgtOf
      split
      · obtain ⟨r, h1, _⟩ := f.root
        exact ⟨r, h1⟩
      · exact hy
theorem toP_some {s : St} (f : Full s) {p : Pth} {follow : Bool} {id : Int} (h : toP s p follow = (0, id)) : ∃ y, s.get id = some y := by
  obtain ⟨r, h1, _⟩ := f.root
  exact goH_some f _ _ _ _ h ⟨r, h1⟩

/-! ### names behind a turn -/
theorem names_addE {s : St} (g : Good s) {d : Int} {x : NR} (hd : s.get d = some x) (e : En) (k : Int) : (s.addE d e).names k = s.names k + if e.node = k then 1 else 0 := by
  have h1 := namesN_on (id := k) (f := insE e) g.rise hd
  rw [namesL_ins] at h1
  show namesN k (onR d (insE e) s.ns) = namesN k s.ns + _
  omega
theorem names_put {s : St} (g : Good s) {n : Nd} (hk : ∀ r, s.get n.id = some r → r.nd.kind = n.kind) (k : Int) : (s.put n).names k = s.names k := by
  refine namesN_put (fun r hr => ?_) g.rise
  have := hk r hr
  by_cases h2 : n.kind = 2
  · exact .inl ⟨h2, by rw [this]; exact h2⟩
  · exact .inr (g.flat r (findN_mem hr) (by rw [this]; exact h2))
theorem Full.names_new {s : St} (f : Full s) {k : Int} (h : s.get k = none) : s.names k = 0 := by
  rcases Nat.eq_zero_or_pos (s.names k) with h0 | h0
  · exact h0
  · obtain ⟨r, hr, e, he, hk⟩ := names_of h0
    obtain ⟨x, hx, _⟩ := (f.ent r hr e he).node
    rw [hk, h] at hx
    cases hx
/-! ### every act keeps what holds of a tree -/
theorem mk_get_addE {s : St} {d : Int} {e : En} {k : Int} {r : NR} (h : (s.addE d e).get k = some r) : ∃ x, s.get k = some x ∧ r.nd = x.nd ∧ ((k = d ∧ r.ents = insE e x.ents) ∨ (k ≠ d ∧ r.ents = x.ents)) := by
  rw [get_addE] at h
  obtain ⟨x, hx, rfl⟩ := Option.map_eq_some_iff.1 h
  have hid := findN_id hx
  refine ⟨x, hx, ?_⟩
  by_cases he : x.nd.id = d
  · rw [if_pos he]; exact ⟨rfl, .inl ⟨by omega, rfl⟩⟩
  · rw [if_neg he]; exact ⟨rfl, .inr ⟨by omega, rfl⟩⟩
theorem entry_node {s : St} (g : Good s) {d : Int} {x : NR} (hd : s.get d = some x) {n : ByteArray} {e : En} (he : entOf x.ents n = some e) : ∃ y, s.get e.node = some y ∧ y.nd.kind = e.kind ∧ 1 ≤ e.node ∧ e.node ≤ 16777215 := by
  have h1 := (g.ent x (findN_mem hd) e (entOf_mem he))
  obtain ⟨y, h2, h3⟩ := h1.node
  have h4 := h1.may
  simp only [mayB, Bool.and_eq_true, decide_eq_true_eq] at h4
  exact ⟨y, h2, h3, h4.1, h4.2.1⟩
/-- A new node with its entry. -/
theorem Full.make {s : St} (f : Full s) {kind d : Int} {t nm : ByteArray} {x : NR} (hd : s.get d = some x) (hk : x.nd.kind = 2) (hno : entOf x.ents nm = none) (hc : nmCode nm = 0) (hs : nmSpecial nm = false)
    (hv : validB ⟨s.last + 1, kind, 1, 0, t, if kind = 2 then d else 0⟩ = true) (hn : s.ns.length < 512) (hl : s.last < 16777215) (hk3 : 1 ≤ kind ∧ kind ≤ 3) :
    Full ((s.put ⟨s.last + 1, kind, 1, 0, t, if kind = 2 then d else 0⟩).addE d ⟨nm, s.last + 1, kind⟩) := by
  have hnew : s.get (s.last + 1) = none := f.no (.inl (by omega))
  have hlo := f.lo
  have g1 : Good (s.put ⟨s.last + 1, kind, 1, 0, t, if kind = 2 then d else 0⟩) := f.toGood.put hv (fun r hr => by rw [hnew] at hr; cases hr) (fun _ => hn) (fun h => by simp only at h; omega)
  have hdn : d ≠ s.last + 1 := by rintro rfl; rw [hnew] at hd; cases hd
  have hd1 : (s.put ⟨s.last + 1, kind, 1, 0, t, if kind = 2 then d else 0⟩).get d = some x := by rw [get_put f.rise, if_neg hdn]; exact hd
  have hnn : (s.put ⟨s.last + 1, kind, 1, 0, t, if kind = 2 then d else 0⟩).get (s.last + 1) = some ⟨⟨s.last + 1, kind, 1, 0, t, if kind = 2 then d else 0⟩, []⟩ := by rw [get_put f.rise, if_pos rfl, hnew]; rfl
  have hmay : mayB ⟨nm, s.last + 1, kind⟩ = true := by
    simp only [mayB, Bool.and_eq_true, decide_eq_true_eq]
    omega
  have hnm : ∀ k, ((s.put ⟨s.last + 1, kind, 1, 0, t, if kind = 2 then d else 0⟩).addE d ⟨nm, s.last + 1, kind⟩).names k = s.names k + if s.last + 1 = k then 1 else 0 := fun k => by
    rw [names_addE g1 hd1, names_put f.toGood (fun r hr => by rw [hnew] at hr; cases hr)]
  have hold : ∀ k r, ((s.put ⟨s.last + 1, kind, 1, 0, t, if kind = 2 then d else 0⟩).addE d ⟨nm, s.last + 1, kind⟩).get k = some r →
      (k = s.last + 1 ∧ r = ⟨⟨s.last + 1, kind, 1, 0, t, if kind = 2 then d else 0⟩, []⟩) ∨ (k ≠ s.last + 1 ∧ ∃ x, s.get k = some x ∧ r.nd = x.nd ∧ ((k = d ∧ r.ents = insE ⟨nm, s.last + 1, kind⟩ x.ents) ∨ (k ≠ d ∧ r.ents = x.ents))) := fun k r hr => by
    obtain ⟨y, h1, h2, h3⟩ := mk_get_addE hr
    rw [get_put f.rise] at h1
    by_cases hkl : k = s.last + 1
    · left
      rw [if_pos hkl, hnew] at h1
      injection h1 with h1
      subst h1
      rcases h3 with ⟨h3, _⟩ | ⟨_, h3⟩
      · exact absurd (h3.symm.trans hkl) hdn
      · refine ⟨hkl, ?_⟩
        cases r
        simp only at h2 h3
        rw [h2, h3]; rfl
    · rw [if_neg hkl] at h1
      exact .inr ⟨hkl, y, h1, h2, h3⟩
  refine { (g1.addE hd1 hk hno ⟨hc, hs, hmay, _, hnn, rfl⟩) with cnt := ?_, par := ?_, one := ?_ }
  · intro k r hr
    rw [hnm]
    rcases hold k r hr with ⟨rfl, rfl⟩ | ⟨hkl, y, h1, h2, _⟩
    · have hne1 : ¬ (s.last + 1 = 1) := by omega
      rw [f.names_new hnew, if_pos rfl, if_neg hne1]; rfl
    · rw [h2, if_neg (fun e => hkl e.symm)]
      simpa using f.cnt k y h1
  · intro k r hr e he z hz hz2
    rcases hold _ z hz with ⟨h1, rfl⟩ | ⟨hkl, y, h1, h2, _⟩
    · -- the new node
      have hz2' : kind = 2 := hz2
      subst hz2'
      rcases hold k r hr with ⟨_, rfl⟩ | ⟨_, y, h3, _, h4⟩
      · cases he
      · rcases h4 with ⟨rfl, h4⟩ | ⟨_, h4⟩
        · rfl
        · rw [h4] at he
          obtain ⟨q, hq, _⟩ := (f.ent y (findN_mem h3) e he).node
          rw [h1, hnew] at hq
          cases hq
    · rcases hold k r hr with ⟨_, rfl⟩ | ⟨_, y', h3, _, h4⟩
      · cases he
      · have : e ∈ y'.ents := by
          rcases h4 with ⟨_, h4⟩ | ⟨_, h4⟩
          · rw [h4] at he
            rcases insE_mem.1 he with rfl | he
            · exact absurd rfl hkl
            · exact he
          · rw [h4] at he; exact he
        rw [h2] at hz2 ⊢
        exact f.par k y' h3 e this y h1 hz2
  · intro k r hr h2k
    rcases hold k r hr with ⟨_, rfl⟩ | ⟨_, y, h1, h2, _⟩
    · rfl
    · rw [h2] at h2k ⊢
      exact f.one k y h1 h2k

theorem valid_lk {n : Nd} (h : validB n = true) : 0 ≤ n.links ∧ n.links ≤ 16 := by
  simp only [validB, Bool.and_eq_true, decide_eq_true_eq] at h
  exact ⟨h.2.2.1, h.2.2.2.1⟩

theorem keepE_both {n : Nd} {r : NR} (h1 : n.kind = 2) (h2 : r.nd.kind = 2) : keepE n (some r) = r.ents := by
  unfold keepE
  simp only
  rw [if_pos ⟨h1, h2⟩]
theorem freshP_ok {s : St} {p : Pth} {sl : Bool} {f : Fnd} (h : freshP s p sl = (0, f)) : LastOk s p f ∧ f.node ≤ 0 ∧ (p.slash = true → sl = true) := by
  unfold freshP at h
  simp only at h
  split at h
  · rename_i hc; injection h with h; exact absurd h hc
  · rename_i hc
    split at h
    · cases h
    · rename_i hn
      split at h
      · cases h
      · rename_i hs
        have h1 : lastP s p = (0, f) := h
        rw [h1] at hn
        refine ⟨lastP_ok h1, by simp only at hn; omega, fun hp => ?_⟩
        rw [hp] at hs
        simpa using hs
theorem LastOk.fresh {s : St} (g : Good s) {p : Pth} {f : Fnd} (h : LastOk s p f) (h0 : f.node ≤ 0) : ∃ x, s.get f.dir = some x ∧ x.nd.kind = 2 ∧ entOf x.ents f.name = none := by
  obtain ⟨x, h1, h2, h3⟩ := h.at'
  rcases h3 with ⟨_, h3⟩ | ⟨e, h4, h5, _⟩
  · exact ⟨x, h1, h2, h3⟩
  · obtain ⟨_, _, _, h6, _⟩ := entry_node g h1 h4
    omega
theorem tgt_ok {t : ByteArray} (h : tgtCode t = 0) : t.data.toList ≠ [] ∧ t.size ≤ 88 ∧ t.data.toList.contains 0 = false := by
  unfold tgtCode at h
  split at h
  · omega
  · split at h
    · omega
    · split at h
      · omega
      · rename_i h1 h2 h3
        exact ⟨h1, by omega, by simpa using h3⟩
theorem dir_ids {s : St} (g : Good s) {d : Int} {x : NR} (h : s.get d = some x) : 1 ≤ d ∧ d ≤ 16777215 ∧ d ≤ s.last := by
  have h1 := valid_ids (g.val x (findN_mem h))
  have h2 := g.ids x (findN_mem h)
  rw [findN_id h] at h1 h2
  exact ⟨h1.1, h1.2, h2⟩

theorem make_valid {s : St} (g : Good s) {kind d : Int} {x : NR} {t : ByteArray} (hd : s.get d = some x) (hk : 1 ≤ kind ∧ kind ≤ 3) (ht : kind = 3 → tgtCode t = 0) (hl : s.last < 16777215) :
    validB ⟨s.last + 1, kind, 1, 0, if kind = 3 then t else noText, if kind = 2 then d else 0⟩ = true := by
  have hlo := g.lo
  have h2 := dir_ids g hd
  have hi : idB (s.last + 1) = true := by simp [idB]; omega
  have hd2 : idB d = true := by simp [idB]; omega
  have hkb : kindB kind = true := by simp [kindB]; omega
  have hk3 : kind = 1 ∨ kind = 2 ∨ kind = 3 := by omega
  have hno : noText.toList.isEmpty = true := by decide +kernel
  have hsz : noText.size ≤ 88 := by decide +kernel
  unfold validB
  simp only [hi, hkb, Bool.true_and]
  rcases hk3 with rfl | rfl | rfl
  · simp [hno, hsz]
  · simp [hno, hd2, hsz]
  · obtain ⟨h3, h4, _⟩ := tgt_ok (ht rfl)
    simp [toList_empty h3, h4]

theorem makeT_full {s : St} (f : Full s) (a : ByteArray) (kind : Int) (to : ByteArray) : Full (makeT s a kind to).2.2 := by
  unfold makeT
  simp only
  split
  · exact f
  · split
    · exact f
    · split
      · exact f
      · split
        · exact f
        · split
          · exact f
          · rename_i hp hk ht hf hn
            obtain ⟨p, hp'⟩ : ∃ p, parseP a = (0, p) := ⟨(parseP a).2, Prod.ext (by simpa using hp) rfl⟩
            obtain ⟨q, hq⟩ : ∃ q, freshP s p (kind == 2) = (0, q) := ⟨(freshP s p (kind == 2)).2, Prod.ext (by rw [hp'] at hf; simpa using hf) rfl⟩
            rw [hp']
            simp only
            rw [hq]
            simp only
            obtain ⟨h1, h2, _⟩ := freshP_ok hq
            obtain ⟨x, hx, hxk, hno⟩ := h1.fresh f.toGood h2
            obtain ⟨hc, hs⟩ := h1.name hp'
            exact f.make hx hxk hno hc hs (make_valid f.toGood hx (by omega) (fun h3 => by
              refine Classical.byContradiction fun h4 => ht ⟨h3, h4⟩) (by omega)) (by omega) (by omega) (by omega)
/-- What is there at a path's last part. -/
structure ThereOk (s : St) (p : Pth) (f : Fnd) (n : Nd) : Prop where
  last : LastOk s p f
  ex : ∃ x e r, s.get f.dir = some x ∧ x.nd.kind = 2 ∧ entOf x.ents f.name = some e ∧ e.node = f.node ∧ s.get f.node = some r ∧ r.nd = n
end Go.Proofs.YtjekpbkmhgfhoaaGreatDoor
end

section
/- A tree in memory: the world's block, its node table, its map of directories, each directory in blocks of its own; what each operation of tables and directories makes of it. -/
namespace Go.Proofs.YtjekpbkmhgfhoaaGreatDoor
open Go Go.RowKit
set_option maxRecDepth 100000
set_option linter.unusedSimpArgs false
set_option linter.unusedVariables false
variable {E : Nat → Addr} {B : Nat}

/-- Below B nothing has turned, nor have the blocks of L. -/
structure KeptP (B : Nat) (L : Nat → Prop) (w w' : World) : Prop where
  below : Below B w w'
  loc : ∀ x, L x → w'.heap[x]? = w.heap[x]?
section
variable {L L' : Nat → Prop} {a b c : World}
theorem KeptP.refl (B : Nat) (L : Nat → Prop) (w : World) : KeptP B L w w := ⟨Below.refl _ _, fun _ _ => rfl⟩
theorem KeptP.trans (h : KeptP B L a b) (k : KeptP B L b c) : KeptP B L a c := ⟨h.below.trans k.below, fun x hx => (k.loc x hx).trans (h.loc x hx)⟩
theorem KeptP.mono (h : KeptP B L a b) (hL : ∀ x, L' x → L x) : KeptP B L' a b := ⟨h.below, fun x hx => h.loc x (hL x hx)⟩
theorem KeptP.of_below (h : Below a.heap.size a b) (hB : B ≤ a.heap.size) (hL : ∀ x, L x → x < a.heap.size) : KeptP B L a b := ⟨h.mono hB, fun x hx => h.block x (hL x hx)⟩
theorem KeptP.of_touch {S : Nat → Prop} (h : Touch S a b) (hB : B ≤ a.heap.size) (hL : ∀ x, L x → x < a.heap.size) (hS : ∀ x, S x → B ≤ x ∧ ¬ L x) : KeptP B L a b :=
  ⟨h.below hB (fun x hx => (hS x hx).1), fun x hx => h.block x (hL x hx) (fun hs => (hS x hs).2 hx)⟩
theorem KeptP.cell (h : KeptP B L a b) {x : Nat} (hx : L x) (o : Nat) : b.cell? ⟨x, o, none⟩ = a.cell? ⟨x, o, none⟩ := World.cell?_of_block (w := a) (h.loc x hx)
theorem KeptP.froz (h : KeptP B L a b) {x : Nat} (hx : L x) (o : Nat) : b.frozen? ⟨x, o, none⟩ = a.frozen? ⟨x, o, none⟩ := World.frozen?_of_block (w := a) (h.loc x hx)
/-- Over a step that made new blocks only, the locals among them. -/
theorem KeptP.less (h : Below a.heap.size a b) (k : KeptP B L' b c) (hB : B ≤ a.heap.size) (hL : ∀ x, L x → x < a.heap.size) (hl : ∀ x, L x → L' x) : KeptP B L a c :=
  (KeptP.of_below h hB hL).trans (k.mono hl)
end

/-! ### the plain tree as functions -/
def St.nd (s : St) (k : Int) : Option Nd := (s.get k).map NR.nd
def St.ents (s : St) (k : Int) : List En := ((s.get k).map NR.ents).getD []
theorem St.isDir_nd (s : St) (k : Int) : s.isDir k = match s.nd k with | some n => n.kind == 2 | none => false := by
  unfold St.isDir St.nd
  cases s.get k <;> rfl
theorem nd_put {s : St} (hr : RiseN s.ns) (n : Nd) : (s.put n).nd = upd s.nd n.id n := by
  funext k
  unfold St.nd upd
  rw [get_put hr]
  split <;> simp
theorem ents_put {s : St} (hr : RiseN s.ns) (n : Nd) : (s.put n).ents = fun k => if k = n.id then keepE n (s.get n.id) else s.ents k := by
  funext k
  unfold St.ents
  rw [get_put hr]
  split <;> simp
theorem nd_addE (s : St) (d : Int) (e : En) : (s.addE d e).nd = s.nd := by
  funext k
  unfold St.nd
  rw [get_addE]
  cases s.get k with
  | none => rfl
  | some r => simp only [Option.map_some]; split <;> rfl
theorem ents_addE {s : St} {d : Int} (hd : s.isDir d = true) (e : En) : (s.addE d e).ents = fun k => if k = d then insE e (s.ents d) else s.ents k := by
  funext k
  unfold St.ents
  rw [get_addE]
  cases hk : s.get k with
  | none =>
    simp only [Option.map_none, Option.getD_none]
    split
    · rename_i h; subst h; simp [St.isDir, hk] at hd
    · rfl
  | some r =>
    have hid : r.nd.id = k := findN_id hk
    simp only [Option.map_some, Option.getD_some, hid]
    split
    · rename_i h; subst h; rw [hk]; rfl
    · rfl
theorem isDir_addE (s : St) (d : Int) (e : En) (k : Int) : (s.addE d e).isDir k = s.isDir k := by rw [St.isDir_nd, St.isDir_nd, nd_addE]
theorem entOf_ins {e : En} {l : List En} (hn : entOf l e.name = none) : entOf (insE e l) = upd (entOf l) e.name e := funext fun k => entOf_insE hn k
theorem dirOf_isDir {s : St} {k : Int} (h : s.isDir k = true) : s.dirOf k = some (s.ents k) := by
  unfold St.isDir at h
  unfold St.dirOf St.ents
  cases hk : s.get k with
  | none => rw [hk] at h; cases h
  | some r =>
    rw [hk] at h
    simp only [beq_iff_eq] at h
    simp [h]
theorem dirOf_not {s : St} {k : Int} (h : s.isDir k = false) : s.dirOf k = none := by
  unfold St.isDir at h
  unfold St.dirOf
  cases hk : s.get k with
  | none => rfl
  | some r =>
    rw [hk] at h
    simp only [beq_eq_false_iff_ne] at h
    simp [h]

/-! ### in memory -/
def encP (x : Nat) : Value := .pointer (some ⟨x, 0, none⟩)
abbrev PMap (w : World) (r : Nat) (g : Int → Option Nat) (n : Nat) : Prop := MapAt Tryz.prog 3 (Value.int .i64) encP w r g n

abbrev Dirs := Int → Option (Nat × Option Nat)
abbrev blocks (dirs : Dirs) : Int → Option Nat := fun k => (dirs k).map Prod.fst

structure LowAt (w : World) (b t dm : Nat) (nm : Option Nat) (dirs : Dirs) (pn : Nat) (lab : Nat → Int) (nd : Int → Option Nd) (n : Nat) (last : Int) (de : Int → List En) : Prop where
  c0 : w.cell? ⟨b, 0, none⟩ = some (.pointer (some ⟨t, 0, none⟩))
  c1 : w.cell? ⟨b, 1, none⟩ = some (.map (some dm))
  nodes : NodesAt w t nm nd n last
  map : PMap w dm (blocks dirs) pn
  own : ∀ k p, dirs k = some p → DirAt w p.1 p.2 (entOf (de k)) (de k).length
  bare : ∀ k, dirs k = none → de k = []
  labn : ∀ x, OwnN t nm x → lab x = -2
  labd : ∀ k p, dirs k = some p → 1 ≤ k ∧ ∀ x, OwnD p.1 p.2 x → lab x = k
  labb : lab b = -1
  labm : lab dm = -4
  lt : ∀ x, lab x ≠ 0 → x < w.heap.size

section
variable {w w' : World} {b t dm : Nat} {nm : Option Nat} {dirs : Dirs} {pn : Nat} {lab : Nat → Int} {nd : Int → Option Nd} {n : Nat} {last : Int} {de : Int → List En}
theorem LowAt.touch (h : LowAt w b t dm nm dirs pn lab nd n last de) {S : Nat → Prop} (ht : Touch S w w') (hn : ∀ x, lab x ≠ 0 → ¬ S x) : LowAt w' b t dm nm dirs pn lab nd n last de := by
  have hb : lab b ≠ 0 := by rw [h.labb]; decide
  have hm : lab dm ≠ 0 := by rw [h.labm]; decide
  refine ⟨(ht.cell (p := ⟨b, 0, none⟩) (h.lt b hb) (hn b hb)).trans h.c0, (ht.cell (p := ⟨b, 1, none⟩) (h.lt b hb) (hn b hb)).trans h.c1,
    h.nodes.touch ht (fun x hx => hn x (by rw [h.labn x hx]; decide)), h.map.touch ht (hn dm hm), fun k p hp => ?_, h.bare, h.labn, h.labd, h.labb, h.labm,
    fun x hx => Nat.lt_of_lt_of_le (h.lt x hx) ht.size⟩
  obtain ⟨h1, h2⟩ := h.labd k p hp
  exact (h.own k p hp).touch ht (fun x hx => hn x (by rw [h2 x hx]; omega))

open Classical in
/-- Behind an operation of the table. -/
theorem LowAt.turnN (h : LowAt w b t dm nm dirs pn lab nd n last de) {nd' : Int → Option Nd} {n' : Nat} {last' : Int} (ho : NodesOut t nm nd' n' last' w w') :
    ∃ nm' lab', LowAt w' b t dm nm' dirs pn lab' nd' n' last' de ∧ Touch (fun x => lab x ≠ 0) w w' ∧ ∀ x, lab' x ≠ 0 → lab x ≠ 0 ∨ w.heap.size ≤ x := by
  obtain ⟨m', h1, h2, h3⟩ := ho
  have hb : lab b ≠ 0 := by rw [h.labb]; decide
  have hm : lab dm ≠ 0 := by rw [h.labm]; decide
  have nb : ¬ OwnN t nm b := fun hx => by have := h.labn b hx; rw [h.labb] at this; omega
  have nm2 : ¬ OwnN t nm dm := fun hx => by have := h.labn dm hx; rw [h.labm] at this; omega
  have old : ∀ x, x < w.heap.size → (if w.heap.size ≤ x ∧ OwnN t m' x then (-2 : Int) else lab x) = lab x := fun x hx => if_neg (fun hh => by omega)
  refine ⟨m', fun x => if w.heap.size ≤ x ∧ OwnN t m' x then -2 else lab x, ⟨?_, ?_, h1, ?_, ?_, h.bare, ?_, ?_, ?_, ?_, ?_⟩, ?_, ?_⟩
  · exact (h2.cell (p := ⟨b, 0, none⟩) (h.lt b hb) nb).trans h.c0
  · exact (h2.cell (p := ⟨b, 1, none⟩) (h.lt b hb) nb).trans h.c1
  · exact h.map.touch h2 nm2
  · intro k p hp
    obtain ⟨h4, h5⟩ := h.labd k p hp
    exact (h.own k p hp).touch h2 (fun x hx hn => by have := h5 x hx; rw [h.labn x hn] at this; omega)
  · intro x hx
    show (if w.heap.size ≤ x ∧ OwnN t m' x then (-2 : Int) else lab x) = -2
    split
    · rfl
    · rename_i hc
      rcases h3 x hx with hy | hy
      · exact h.labn x hy
      · exact absurd ⟨hy, hx⟩ hc
  · intro k p hp
    obtain ⟨h4, h5⟩ := h.labd k p hp
    refine ⟨h4, fun x hx => ?_⟩
    exact (old x (h.lt x (by rw [h5 x hx]; omega))).trans (h5 x hx)
  · exact (old b (h.lt b hb)).trans h.labb
  · exact (old dm (h.lt dm hm)).trans h.labm
  · intro x hx
    try simp only at hx
    split at hx
    · rename_i hc; exact h1.own_lt x hc.2
    · exact Nat.lt_of_lt_of_le (h.lt x hx) h2.size
  · exact h2.mono (fun x hx _ => by rw [h.labn x hx]; decide)
  · intro x hx
    try simp only at hx
    split at hx
    · rename_i hc; exact .inr hc.1
    · exact .inl hx

open Classical in
/-- Behind an operation of a directory. -/
theorem LowAt.turnD (h : LowAt w b t dm nm dirs pn lab nd n last de) {k : Int} {x : Nat} {m : Option Nat} (hk : dirs k = some (x, m)) {l' : List En} {g' : ByteArray → Option En} {n' : Nat} (ho : DirOut x m g' n' w w') (hg : g' = entOf l') (hn' : n' = l'.length) :
    ∃ m' lab', LowAt w' b t dm nm (upd dirs k (x, m')) pn lab' nd n last (fun i => if i = k then l' else de i) ∧ Touch (fun x => lab x ≠ 0) w w' ∧ ∀ x, lab' x ≠ 0 → lab x ≠ 0 ∨ w.heap.size ≤ x := by
  obtain ⟨m', h1, h2, h3⟩ := ho
  subst hg hn'
  obtain ⟨k1, k2⟩ := h.labd k _ hk
  have hb : lab b ≠ 0 := by rw [h.labb]; decide
  have hm : lab dm ≠ 0 := by rw [h.labm]; decide
  have nb : ¬ OwnD x m b := fun hx => by have := k2 b hx; rw [h.labb] at this; omega
  have nm2 : ¬ OwnD x m dm := fun hx => by have := k2 dm hx; rw [h.labm] at this; omega
  have old : ∀ y, y < w.heap.size → (if w.heap.size ≤ y ∧ OwnD x m' y then k else lab y) = lab y := fun x hx => if_neg (fun hh => by omega)
  have hbl : blocks (upd dirs k (x, m')) = blocks dirs := by
    funext i
    unfold blocks upd
    split
    · rename_i he; subst he; rw [hk]; rfl
    · rfl
  refine ⟨m', fun y => if w.heap.size ≤ y ∧ OwnD x m' y then k else lab y, ⟨?_, ?_, ?_, ?_, ?_, ?_, ?_, ?_, ?_, ?_, ?_⟩, ?_, ?_⟩
  · exact (h2.cell (p := ⟨b, 0, none⟩) (h.lt b hb) nb).trans h.c0
  · exact (h2.cell (p := ⟨b, 1, none⟩) (h.lt b hb) nb).trans h.c1
  · exact h.nodes.touch h2 (fun y hy hn => by have := k2 y hn; rw [h.labn y hy] at this; omega)
  · rw [hbl]; exact h.map.touch h2 nm2
  · intro i p hp
    unfold upd at hp
    by_cases hi : i = k
    · rw [if_pos hi] at hp ⊢
      injection hp with hp
      subst hp
      exact h1
    · rw [if_neg hi] at hp ⊢
      obtain ⟨h4, h5⟩ := h.labd i p hp
      exact (h.own i p hp).touch h2 (fun y hy hn => hi (by have := h5 y hy; rw [k2 y hn] at this; exact this.symm))
  · intro i hi
    unfold upd at hi
    by_cases he : i = k
    · rw [if_pos he] at hi; cases hi
    · rw [if_neg he] at hi
      simp only [if_neg he]
      exact h.bare i hi
  · intro y hy
    exact (old y (h.lt y (by rw [h.labn y hy]; decide))).trans (h.labn y hy)
  · intro i p hp
    unfold upd at hp
    by_cases hi : i = k
    · rw [if_pos hi] at hp
      injection hp with hp
      subst hp
      rw [hi]
      refine ⟨k1, fun y hy => ?_⟩
      show (if w.heap.size ≤ y ∧ OwnD x m' y then k else lab y) = k
      split
      · rfl
      · rename_i hc
        rcases h3 y hy with hz | hz
        · exact k2 y hz
        · exact absurd ⟨hz, hy⟩ hc
    · rw [if_neg hi] at hp
      obtain ⟨h4, h5⟩ := h.labd i p hp
      exact ⟨h4, fun y hy => (old y (h.lt y (by rw [h5 y hy]; omega))).trans (h5 y hy)⟩
  · exact (old b (h.lt b hb)).trans h.labb
  · exact (old dm (h.lt dm hm)).trans h.labm
  · intro y hy
    try simp only at hy
    split at hy
    · rename_i hc; exact h1.own_lt y hc.2
    · exact Nat.lt_of_lt_of_le (h.lt y hy) h2.size
  · exact h2.mono (fun y hy _ => by rw [k2 y hy]; omega)
  · intro y hy
    try simp only at hy
    split at hy
    · rename_i hc; exact .inr hc.1
    · exact .inl hy

/-- A directory is put out of the map. -/
theorem LowAt.turnM (h : LowAt w b t dm nm dirs pn lab nd n last de) {k : Int} {pn' : Nat} (hm : PMap w' dm (del (blocks dirs) k) pn') (ht : w.mapTurned w' dm) :
    LowAt w' b t dm nm (del dirs k) pn' lab nd n last (fun i => if i = k then [] else de i) ∧ Touch (fun x => lab x ≠ 0) w w' := by
  have t1 := Touch.of_turned ht
  have hb : lab b ≠ 0 := by rw [h.labb]; decide
  have hdm : lab dm ≠ 0 := by rw [h.labm]; decide
  have nb : ¬ b = dm := fun hx => by have := h.labb; rw [hx, h.labm] at this; omega
  have hbl : blocks (del dirs k) = del (blocks dirs) k := by
    funext i
    unfold blocks del
    split <;> rfl
  refine ⟨⟨?_, ?_, ?_, by rw [hbl]; exact hm, ?_, ?_, h.labn, ?_, h.labb, h.labm, fun x hx => Nat.lt_of_lt_of_le (h.lt x hx) t1.size⟩, t1.mono (fun x hx _ => by subst hx; exact hdm)⟩
  · exact (t1.cell (p := ⟨b, 0, none⟩) (h.lt b hb) nb).trans h.c0
  · exact (t1.cell (p := ⟨b, 1, none⟩) (h.lt b hb) nb).trans h.c1
  · exact h.nodes.touch t1 (fun y hy hn => by subst hn; have := h.labn _ hy; rw [h.labm] at this; omega)
  · intro i p hp
    unfold del at hp
    by_cases hi : i = k
    · rw [if_pos hi] at hp; cases hp
    · rw [if_neg hi] at hp ⊢
      obtain ⟨h4, h5⟩ := h.labd i p hp
      exact (h.own i p hp).touch t1 (fun y hy hn => by subst hn; have := h5 _ hy; rw [h.labm] at this; omega)
  · intro i hi
    unfold del at hi
    by_cases he : i = k
    · simp only [if_pos he]
    · rw [if_neg he] at hi
      simp only [if_neg he]
      exact h.bare i hi
  · intro i p hp
    unfold del at hp
    by_cases hi : i = k
    · rw [if_pos hi] at hp; cases hp
    · rw [if_neg hi] at hp
      exact h.labd i p hp

/-- A new directory is put into the map. -/
theorem LowAt.turnA (h : LowAt w b t dm nm dirs pn lab nd n last de) {k : Int} (hk : 1 ≤ k) (hno : dirs k = none) {x pn' : Nat} (hx : w.heap.size ≤ x) (hd : DirAt w' x none (fun _ => none) 0) (hm : PMap w' dm (upd (blocks dirs) k x) pn') (t1 : Touch (fun y => y = dm) w w') :
    ∃ lab', LowAt w' b t dm nm (upd dirs k (x, none)) pn' lab' nd n last de ∧ Touch (fun x => lab x ≠ 0) w w' ∧ ∀ x, lab' x ≠ 0 → lab x ≠ 0 ∨ w.heap.size ≤ x := by
  have hb : lab b ≠ 0 := by rw [h.labb]; decide
  have hdm : lab dm ≠ 0 := by rw [h.labm]; decide
  have nb : ¬ b = dm := fun hx => by have := h.labb; rw [hx, h.labm] at this; omega
  have hbl : blocks (upd dirs k (x, none)) = upd (blocks dirs) k x := by
    funext i
    unfold blocks upd
    split <;> rfl
  have old : ∀ y, y < w.heap.size → (if y = x then k else lab y) = lab y := fun y hy => if_neg (fun hh => by omega)
  have hle := t1.size
  refine ⟨fun y => if y = x then k else lab y, ⟨?_, ?_, ?_, by rw [hbl]; exact hm, ?_, ?_, ?_, ?_, ?_, ?_, ?_⟩, t1.mono (fun x hx _ => by subst hx; exact hdm), ?_⟩
  · exact (t1.cell (p := ⟨b, 0, none⟩) (h.lt b hb) nb).trans h.c0
  · exact (t1.cell (p := ⟨b, 1, none⟩) (h.lt b hb) nb).trans h.c1
  · exact h.nodes.touch t1 (fun y hy hn => by subst hn; have := h.labn _ hy; rw [h.labm] at this; omega)
  · intro i p hp
    unfold upd at hp
    by_cases hi : i = k
    · rw [if_pos hi] at hp
      injection hp with hp
      subst hp
      rw [hi, h.bare k hno]
      exact hd
    · rw [if_neg hi] at hp
      obtain ⟨h4, h5⟩ := h.labd i p hp
      exact (h.own i p hp).touch t1 (fun y hy hn => by subst hn; have := h5 _ hy; rw [h.labm] at this; omega)
  · intro i hi
    unfold upd at hi
    by_cases he : i = k
    · rw [if_pos he] at hi; cases hi
    · rw [if_neg he] at hi
      exact h.bare i hi
  · intro y hy
    exact (old y (h.lt y (by rw [h.labn y hy]; decide))).trans (h.labn y hy)
  · intro i p hp
    unfold upd at hp
    by_cases hi : i = k
    · rw [if_pos hi] at hp
      injection hp with hp
      subst hp
      rw [hi]
      refine ⟨hk, fun y hy => ?_⟩
      rcases hy with rfl | hy
      · exact if_pos rfl
      · cases hy
    · rw [if_neg hi] at hp
      obtain ⟨h4, h5⟩ := h.labd i p hp
      exact ⟨h4, fun y hy => (old y (h.lt y (by rw [h5 y hy]; omega))).trans (h5 y hy)⟩
  · exact (old b (h.lt b hb)).trans h.labb
  · exact (old dm (h.lt dm hdm)).trans h.labm
  · intro y hy
    try simp only at hy
    split at hy
    · rename_i hc; subst hc; exact hd.2.2.1
    · exact Nat.lt_of_lt_of_le (h.lt y hy) hle
  · intro y hy
    try simp only at hy
    split at hy
    · rename_i hc; subst hc; exact .inr hx
    · exact .inl hy
end

/-- A law's own tree: its blocks are from B on and not among L. -/
def WL (B : Nat) (L : Nat → Prop) (w : World) (b t dm : Nat) (nd : Int → Option Nd) (n : Nat) (last : Int) (de : Int → List En) (Q : Dirs → Prop) : Prop :=
  B ≤ w.heap.size ∧ (∀ x, L x → x < w.heap.size) ∧ ∃ nm dirs pn lab, LowAt w b t dm nm dirs pn lab nd n last de ∧ (∀ x, lab x ≠ 0 → B ≤ x ∧ ¬ L x) ∧ Q dirs

section
variable {L L' : Nat → Prop} {w w' : World} {b t dm : Nat} {nd : Int → Option Nd} {n : Nat} {last : Int} {de : Int → List En} {Q Q' : Dirs → Prop}
theorem WL.weak (h : WL B L w b t dm nd n last de Q) (hq : ∀ d, Q d → Q' d) : WL B L w b t dm nd n last de Q' := by
  obtain ⟨h1, h2, nm, dirs, pn, lab, h3, h4, h5⟩ := h
  exact ⟨h1, h2, nm, dirs, pn, lab, h3, h4, hq _ h5⟩
theorem WL.less (h : WL B L w b t dm nd n last de Q) (hL : ∀ x, L' x → L x) : WL B L' w b t dm nd n last de Q := by
  obtain ⟨h1, h2, nm, dirs, pn, lab, h3, h4, h5⟩ := h
  exact ⟨h1, fun x hx => h2 x (hL x hx), nm, dirs, pn, lab, h3, fun x hx => ⟨(h4 x hx).1, fun hl => (h4 x hx).2 (hL x hl)⟩, h5⟩
theorem WL.kept (h : WL B L w b t dm nd n last de Q) (hb : Below w.heap.size w w') : KeptP B L w w' := KeptP.of_below hb h.1 h.2.1
theorem WL.below (h : WL B L w b t dm nd n last de Q) (hb : Below w.heap.size w w') : WL B L w' b t dm nd n last de Q := by
  obtain ⟨h1, h2, nm, dirs, pn, lab, h3, h4, h5⟩ := h
  exact ⟨Nat.le_trans h1 hb.size, fun x hx => Nat.lt_of_lt_of_le (h2 x hx) hb.size, nm, dirs, pn, lab, h3.touch (Touch.of_below hb NoB) (fun _ _ h => h), h4, h5⟩
/-- New blocks of a law's own beside it. -/
theorem WL.loc' (h : WL B L w b t dm nd n last de Q) (hb : Below w.heap.size w w') (hl : ∀ x, L' x → L x ∨ (w.heap.size ≤ x ∧ x < w'.heap.size)) : WL B L' w' b t dm nd n last de Q := by
  have h' := h.below hb
  obtain ⟨h1, h2, nm, dirs, pn, lab, h3, h4, h5⟩ := h
  refine ⟨h'.1, fun x hx => ?_, nm, dirs, pn, lab, h3.touch (Touch.of_below hb NoB) (fun _ _ h => h), fun x hx => ⟨(h4 x hx).1, fun hx' => ?_⟩, h5⟩
  · rcases hl x hx with h | h
    · exact h'.2.1 x h
    · exact h.2
  · rcases hl x hx' with h | h
    · exact (h4 x hx).2 h
    · have := h3.lt x hx; omega
theorem WL.loc (h : WL B L w b t dm nd n last de Q) (o : Obj) : WL B (fun x => x = w.heap.size ∨ L x) (w.alloc o) b t dm nd n last de Q :=
  h.loc' (bl_alloc (Below.refl _ _) _) (fun x hx => by
    rcases hx with rfl | hx
    · right; simp
    · exact .inl hx)
/-- A block of the law's own is written. -/
theorem WL.set (h : WL B L w b t dm nd n last de Q) {p : Addr} (hp : L p.block) (u : Value) : WL B L (w.setCell p u) b t dm nd n last de Q := by
  obtain ⟨h1, h2, nm, dirs, pn, lab, h3, h4, h5⟩ := h
  refine ⟨by simpa using h1, fun x hx => by simpa using h2 x hx, nm, dirs, pn, lab, h3.touch (S := fun x => x = p.block) (Touch.setCell (S := fun x => x = p.block) (Touch.refl _ _) (.inl rfl) _) ?_, h4, h5⟩
  rintro x hx rfl
  exact (h4 _ hx).2 hp
theorem WL.c0 (h : WL B L w b t dm nd n last de Q) : w.cell? ⟨b, 0, none⟩ = some (.pointer (some ⟨t, 0, none⟩)) := by
  obtain ⟨h1, h2, nm, dirs, pn, lab, h3, h4, h5⟩ := h; exact h3.c0
theorem WL.c1 (h : WL B L w b t dm nd n last de Q) : w.cell? ⟨b, 1, none⟩ = some (.map (some dm)) := by
  obtain ⟨h1, h2, nm, dirs, pn, lab, h3, h4, h5⟩ := h; exact h3.c1
theorem WL.lt (h : WL B L w b t dm nd n last de Q) : b < w.heap.size ∧ t < w.heap.size ∧ dm < w.heap.size := by
  obtain ⟨h1, h2, nm, dirs, pn, lab, h3, h4, h5⟩ := h
  exact ⟨h3.lt b (by rw [h3.labb]; decide), h3.nodes.lt, h3.lt dm (by rw [h3.labm]; decide)⟩
theorem WL.out (h : B ≤ w.heap.size) (hl : ∀ x, L x → x < w.heap.size) {lab : Nat → Int} (h4 : ∀ x, lab x ≠ 0 → B ≤ x ∧ ¬ L x) {nm' : Option Nat} {dirs' : Dirs} {pn' : Nat} {lab' : Nat → Int} (h5 : LowAt w' b t dm nm' dirs' pn' lab' nd n last de)
    (ht : Touch (fun x => lab x ≠ 0) w w') (hn : ∀ x, lab' x ≠ 0 → lab x ≠ 0 ∨ w.heap.size ≤ x) (hq : Q dirs') : WL B L w' b t dm nd n last de Q ∧ KeptP B L w w' := by
  refine ⟨⟨Nat.le_trans h ht.size, fun x hx => Nat.lt_of_lt_of_le (hl x hx) ht.size, nm', dirs', pn', lab', h5, fun x hx => ?_, hq⟩, KeptP.of_touch ht h hl h4⟩
  rcases hn x hx with h | h'
  · exact h4 x h
  · exact ⟨Nat.le_trans h h', fun hx => by have := hl x hx; omega⟩

theorem wl_len (h : WL B L w b t dm nd n last de Q) : Calls Tryz.prog 38 #[.pointer (some ⟨t, 0, none⟩)] w fun e w' => e = .returned (.int .i64 n) ∧ w = w' := by
  obtain ⟨h1, h2, nm, dirs, pn, lab, h3, h4, h5⟩ := h
  exact nlen_any h3.nodes
theorem wl_get (h : WL B L w b t dm nd n last de Q) {k : Int} (hk : -9223372036854775808 ≤ k ∧ k ≤ 9223372036854775807) :
    Calls Tryz.prog 54 #[.pointer (some ⟨t, 0, none⟩), .int .i64 k] w fun e w' => e = .returned (.tuple #[encN ((nd k).getD noNd), .bool (nd k).isSome]) ∧ Below w.heap.size w w' := by
  obtain ⟨h1, h2, nm, dirs, pn, lab, h3, h4, h5⟩ := h
  exact nget_any h3.nodes hk
theorem wl_put (h : WL B L w b t dm nd n last de Q) (x : Nd) (hx : validB x = true) (hn : (nd x.id).isSome = false → n < 512) (hE : Env E B w) :
    Calls Tryz.prog 65 #[.pointer (some ⟨t, 0, none⟩), encN x] w fun e w' => e = .returned .nilIface ∧
      WL B L w' b t dm (upd nd x.id x) (if (nd x.id).isSome then n else n + 1) (max last x.id) de Q ∧ KeptP B L w w' := by
  obtain ⟨h1, h2, nm, dirs, pn, lab, h3, h4, h5⟩ := h
  refine (nput_ok h3.nodes x hx hn hE).mono fun e w' ⟨he, ho⟩ => ⟨he, ?_⟩
  obtain ⟨nm', lab', h6, h7, h8⟩ := h3.turnN ho
  exact WL.out h1 h2 h4 h6 h7 h8 h5
theorem wl_new (h : WL B L w b t dm nd n last de Q) {k : Int} (hk : kindB k = true) (hn : n < 512) (hl : 0 ≤ last ∧ last < 16777215) (hg : nd (last + 1) = none) (hE : Env E B w) :
    Calls Tryz.prog 105 #[.pointer (some ⟨t, 0, none⟩), .int .i64 k] w fun e w' => e = .returned (.tuple #[.int .i64 (last + 1), .nilIface]) ∧
      WL B L w' b t dm (upd nd (last + 1) (newNd (last + 1) k)) (n + 1) (last + 1) de Q ∧ KeptP B L w w' := by
  obtain ⟨h1, h2, nm, dirs, pn, lab, h3, h4, h5⟩ := h
  refine (nnew_ok h3.nodes hk hn hl hg hE (fun x hx => (h4 x (by rw [h3.labn x hx]; decide)).1)).mono fun e w' ⟨he, ho⟩ => ⟨he, ?_⟩
  obtain ⟨nm', lab', h6, h7, h8⟩ := h3.turnN ho
  exact WL.out h1 h2 h4 h6 h7 h8 h5
theorem wl_new_full (h : WL B L w b t dm nd n last de Q) {k : Int} (hk : kindB k = true) (hf : 512 ≤ n ∨ 16777215 ≤ last) (hE : Env E B w) :
    Calls Tryz.prog 105 #[.pointer (some ⟨t, 0, none⟩), .int .i64 k] w fun e w' => e = .returned (.tuple #[.int .i64 0, errV E 11]) ∧ Below w.heap.size w w' := by
  obtain ⟨h1, h2, nm, dirs, pn, lab, h3, h4, h5⟩ := h
  exact nnew_full h3.nodes hk hf hE
/-- A directory is put out of the map. -/
theorem wl_mdel (h : WL B L w b t dm nd n last de Q) {k : Int} (hk : -9223372036854775808 ≤ k ∧ k ≤ 9223372036854775807) (ty : TypeId) :
    ∃ w', (Builtin.delete_ #[90, 3] ty #[.map (some dm), .int .i64 k]).run Tryz.prog w = .ok (.tuple #[]) w' ∧
      WL B L w' b t dm nd n last (fun i => if i = k then [] else de i) (fun d => ∃ d0, Q d0 ∧ d = del d0 k) ∧ KeptP B L w w' := by
  obtain ⟨h1, h2, nm, dirs, pn, lab, h3, h4, h5⟩ := h
  obtain ⟨w', hr, hm, ht⟩ := h3.map.drop kdInt Tryz.underlying90 inj64 (keyI hk) ty
  obtain ⟨h6, h7⟩ := h3.turnM hm ht
  exact ⟨w', hr, WL.out h1 h2 h4 h6 h7 (fun x hx => .inl hx) ⟨dirs, h5, rfl⟩⟩
/-- A directory's block, by its number. -/
def HasD (k : Int) (x : Nat) : Dirs → Prop := fun d => ∃ m, d k = some (x, m)
def NoD (k : Int) : Dirs → Prop := fun d => d k = none
theorem WL.split (h : WL B L w b t dm nd n last de Q) (k : Int) : WL B L w b t dm nd n last de (fun d => Q d ∧ NoD k d) ∨ ∃ x, WL B L w b t dm nd n last de (fun d => Q d ∧ HasD k x d) := by
  obtain ⟨h1, h2, nm, dirs, pn, lab, h3, h4, h5⟩ := h
  cases hk : dirs k with
  | none => exact .inl ⟨h1, h2, nm, dirs, pn, lab, h3, h4, h5, hk⟩
  | some p => exact .inr ⟨p.1, h1, h2, nm, dirs, pn, lab, h3, h4, h5, p.2, hk⟩
theorem zeroP (w : World) : (zeroValue 105).run Tryz.prog w = .ok (.pointer none) w := by kernel_rfl
theorem wl_look_no (h : WL B L w b t dm nd n last de Q) {k : Int} (hk : -9223372036854775808 ≤ k ∧ k ≤ 9223372036854775807) (hq : ∀ d, Q d → NoD k d) :
    (Instr.lookup 90 (.map (some dm)) (.int .i64 k) false).run Tryz.prog w = .ok (.pointer none) w := by
  obtain ⟨h1, h2, nm, dirs, pn, lab, h3, h4, h5⟩ := h
  have hg : blocks dirs k = none := by unfold blocks; rw [hq _ h5]; rfl
  have := h3.map.look_none kdInt Tryz.underlying90 inj64 (zeroP w) (keyI hk) hg false
  simpa using this
theorem wl_look (h : WL B L w b t dm nd n last de Q) {k : Int} (hk : -9223372036854775808 ≤ k ∧ k ≤ 9223372036854775807) {x : Nat} (hq : ∀ d, Q d → HasD k x d) :
    (Instr.lookup 90 (.map (some dm)) (.int .i64 k) false).run Tryz.prog w = .ok (.pointer (some ⟨x, 0, none⟩)) w := by
  obtain ⟨h1, h2, nm, dirs, pn, lab, h3, h4, h5⟩ := h
  obtain ⟨m, hm⟩ := hq _ h5
  have hg : blocks dirs k = some x := by unfold blocks; rw [hm]; rfl
  have := h3.map.look_some kdInt Tryz.underlying90 inj64 (keyI hk) hg false
  simpa [encP] using this
/-- A new directory is put into the map. -/
theorem wl_madd {w1 : World} {x : Nat} (h : WL B L w b t dm nd n last de Q) (h1' : w1 = w.alloc (.cells #[.map none] 190)) (hx : x = w.heap.size) {k : Int} (hk : 1 ≤ k ∧ k ≤ 9223372036854775807) (hq : ∀ d, Q d → NoD k d) :
    ∃ w', (Instr.mapUpdate 90 (.map (some dm)) (.int .i64 k) (.pointer (some ⟨x, 0, none⟩))).run Tryz.prog w1 = .ok () w' ∧
      WL B L w' b t dm nd n last de (fun d => ∃ d0, Q d0 ∧ d = upd d0 k (x, none)) ∧ KeptP B L w w' := by
  subst h1'
  subst hx
  obtain ⟨h1, h2, nm, dirs, pn, lab, h3, h4, h5⟩ := h
  obtain ⟨w', hr, hm, ht⟩ := (h3.map.alloc (.cells #[.map none] 190)).put kdInt Tryz.underlying90 inj64 (keyI (a := k) ⟨by omega, hk.2⟩) w.heap.size
  have hdm : dm < w.heap.size := h3.lt dm (by rw [h3.labm]; decide)
  have ht2 : Touch (fun y => y = dm) w w' := (Touch.alloc (Touch.refl _ _) _).trans (Touch.of_turned ht) (fun x hx _ => hx)
  have hd : DirAt w' w.heap.size none (fun _ => none) 0 := by
    have hd0 : DirAt (w.alloc (.cells #[.map none] 190)) w.heap.size none (fun _ => none) 0 := ⟨by simp, by simp, by simp, rfl, fun _ => rfl⟩
    refine hd0.touch (Touch.of_turned ht) (fun y hy => ?_)
    rcases hy with rfl | hy
    · omega
    · cases hy
  obtain ⟨lab', h6, h7, h8⟩ := h3.turnA hk.1 (hq _ h5) (Nat.le_refl _) hd hm ht2
  exact ⟨w', hr, WL.out h1 h2 h4 h6 h7 h8 ⟨dirs, h5, rfl⟩⟩

theorem wl_dlen (h : WL B L w b t dm nd n last de Q) {k : Int} {x : Nat} (hq : ∀ d, Q d → HasD k x d) : Calls Tryz.prog 80 #[.pointer (some ⟨x, 0, none⟩)] w fun e w' => e = .returned (.int .i64 (de k).length) ∧ w = w' := by
  obtain ⟨h1, h2, nm, dirs, pn, lab, h3, h4, h5⟩ := h
  obtain ⟨m, hm⟩ := hq _ h5
  exact dlen_any (h3.own k _ hm)
theorem wl_dget (h : WL B L w b t dm nd n last de Q) {k : Int} {x : Nat} (hq : ∀ d, Q d → HasD k x d) {s : ByteArray} (hs : s.size ≤ maxLen) :
    Calls Tryz.prog 138 #[.pointer (some ⟨x, 0, none⟩), .string s] w fun e w' => e = .returned (.tuple #[encE ((entOf (de k) s).getD noEn), .bool (entOf (de k) s).isSome]) ∧ Below w.heap.size w w' := by
  obtain ⟨h1, h2, nm, dirs, pn, lab, h3, h4, h5⟩ := h
  obtain ⟨m, hm⟩ := hq _ h5
  exact dget_any (h3.own k _ hm) hs
theorem wl_dadd (h : WL B L w b t dm nd n last de Q) {k : Int} {x : Nat} (hq : ∀ d, Q d → HasD k x d) (hQ : ∀ d m, Q d → Q (upd d k (x, m))) (e : En) (hyes : addCode (entOf (de k)) e = 0) (hE : Env E B w) :
    Calls Tryz.prog 116 #[.pointer (some ⟨x, 0, none⟩), encE e] w fun v w' => v = .returned .nilIface ∧
      WL B L w' b t dm nd n last (fun i => if i = k then insE e (de k) else de i) Q ∧ KeptP B L w w' := by
  obtain ⟨h1, h2, nm, dirs, pn, lab, h3, h4, h5⟩ := h
  obtain ⟨m, hm⟩ := hq _ h5
  have hno : entOf (de k) e.name = none := by
    have := (addCode_zero hyes).2.2.2
    cases he : entOf (de k) e.name with
    | none => rfl
    | some y => rw [he] at this; cases this
  refine (dadd_ok (h3.own k _ hm) e hyes hE).mono fun v w' ⟨he, ho⟩ => ⟨he, ?_⟩
  obtain ⟨m', lab', h6, h7, h8⟩ := h3.turnD hm ho (entOf_ins hno).symm (insE_length e _).symm
  exact WL.out h1 h2 h4 h6 h7 h8 (hQ _ _ h5)
end

/-! ### a tree of the plain kind in memory -/
/-- Who has a directory's block is a directory. -/
def Fit (st : St) (d : Dirs) : Prop := ∀ k, d k ≠ none → st.isDir k = true
abbrev WB (B : Nat) (L : Nat → Prop) (w : World) (b t dm : Nat) (st : St) : Prop := WL B L w b t dm st.nd st.ns.length st.last st.ents (Fit st)
/-- .. and the directory k has the block x. -/
abbrev WD (B : Nat) (L : Nat → Prop) (w : World) (b t dm : Nat) (st : St) (k : Int) (x : Nat) : Prop := WL B L w b t dm st.nd st.ns.length st.last st.ents (fun d => Fit st d ∧ HasD k x d)
section
variable {L L' : Nat → Prop} {w w' : World} {b t dm x : Nat} {st : St} {k : Int}
theorem WL.wb (h : WD B L w b t dm st k x) : WB B L w b t dm st := h.weak fun _ hd => hd.1
theorem Fit.upd {d : Dirs} (h : Fit st d) {m : Option Nat} (hk : HasD k x d) : Fit st (upd d k (x, m)) := by
  obtain ⟨m0, hm⟩ := hk
  intro i hi
  unfold Go.Proofs.YtjekpbkmhgfhoaaGreatDoor.upd at hi
  split at hi
  · rename_i he; subst he; exact h i (by rw [hm]; simp)
  · exact h i hi
theorem fitD {d : Dirs} (h : Fit st d ∧ HasD k x d) (m : Option Nat) : Fit st (Go.Proofs.YtjekpbkmhgfhoaaGreatDoor.upd d k (x, m)) ∧ HasD k x (Go.Proofs.YtjekpbkmhgfhoaaGreatDoor.upd d k (x, m)) :=
  ⟨h.1.upd h.2, m, by unfold Go.Proofs.YtjekpbkmhgfhoaaGreatDoor.upd; rw [if_pos rfl]⟩
theorem Fit.addE {d : Dirs} (h : Fit st d) (i : Int) (e : En) : Fit (st.addE i e) d := fun k hk => by rw [isDir_addE]; exact h k hk
theorem WD.isDir (h : WD B L w b t dm st k x) : st.isDir k = true := by
  obtain ⟨h1, h2, nm, dirs, pn, lab, h3, h4, h5, m, h6⟩ := h
  exact h5 k (by rw [h6]; simp)
/-- An entry is added to a directory. -/
theorem wb_dadd (h : WD B L w b t dm st k x) (e : En) (hyes : addCode (entOf (st.ents k)) e = 0) (hE : Env E B w) :
    Calls Tryz.prog 116 #[.pointer (some ⟨x, 0, none⟩), encE e] w fun v w' => v = .returned .nilIface ∧
      WB B L w' b t dm (st.addE k e) ∧ KeptP B L w w' := by
  have hd := WD.isDir h
  refine (wl_dadd h (fun d hd => hd.2) (fun d m hd => fitD hd m) e hyes hE).mono fun v w' ⟨he, h1, h2⟩ => ⟨he, ?_, h2⟩
  unfold WB
  rw [nd_addE, ents_addE hd, show (st.addE k e).ns.length = st.ns.length from onR_length _ _ _, show (st.addE k e).last = st.last from rfl]
  exact h1.weak fun d hd => hd.1.addE _ _
end
end Go.Proofs.YtjekpbkmhgfhoaaGreatDoor
end

section
/- Trees in plain words: a walk's steps one by one; how many parts a path has. -/
namespace Go.Proofs.YtjekpbkmhgfhoaaGreatDoor
set_option maxRecDepth 100000
set_option linter.unusedSimpArgs false
set_option linter.unusedVariables false

theorem partsOf_len : ∀ {l : List (List UInt8)} {ps : List ByteArray}, partsOf l = some ps → ps.length ≤ l.length
  | [], ps, h => by cases h; simp
  | x :: l, ps, h => by
    unfold partsOf at h
    split at h
    · have := partsOf_len h; simp; omega
    · split at h
      · cases h
      · cases hp : partsOf l with
        | none => rw [hp] at h; cases h
        | some r =>
          rw [hp] at h
          cases h
          have := partsOf_len hp
          simp
          omega
theorem cuts_len : ∀ l : List UInt8, (cuts l).length ≤ l.length + 1
  | [] => by simp [cuts]
  | c :: l => by
    have := cuts_len l
    unfold cuts
    split
    · simp; omega
    · split
      · simp
      · rename_i h; rw [h] at this; simp at this ⊢; omega
theorem parse_len (s : ByteArray) : (parseP s).2.parts.length ≤ 257 := by
  unfold parseP
  split
  · simp [noPth]
  · split
    · simp [noPth]
    · split
      · simp [noPth]
      · split
        · simp [noPth]
        · rename_i h1 h2 h3 ps h
          have := partsOf_len h
          have h4 := cuts_len s.data.toList
          have h5 : s.data.toList.length = s.size := Array.length_toList
          simp only
          omega
theorem parse_code (s : ByteArray) : (parseP s).1 = 0 ∨ (parseP s).1 = 109 ∨ (parseP s).1 = 114 ∨ (parseP s).1 = 115 := by
  unfold parseP
  split
  · simp
  · split
    · simp
    · split
      · simp
      · split <;> simp

/-! ### a walk's steps -/
def nextH (s : St) (follow slash : Bool) : Nat → ByteArray → Int → List ByteArray → Int × Int
  | 0 => fun _ _ _ => (116, 0)
  | h + 1 => fun t at' ps =>
    let q := tgtOf t at'
    if q.1.1 ≠ 0 then (q.1.1, 0) else goH s follow slash h (q.1.2.parts ++ ps) q.2
theorem goH_eq (s : St) (follow slash : Bool) (h : Nat) : goH s follow slash h = goParts s follow slash (nextH s follow slash h) := by cases h <;> rfl
section
variable {s : St} {follow slash : Bool} {h : Nat} {p : ByteArray} {ps : List ByteArray} {at' : Int}
theorem go_nil : goH s follow slash h [] at' = if slash && !s.isDir at' then (111, 0) else (0, at') := by
  rw [goH_eq]; rfl
theorem nd_get {k : Int} {d : Nd} (hd : s.nd k = some d) : ∃ r, s.get k = some r ∧ r.nd = d ∧ r.ents = s.ents k := by
  unfold St.nd at hd
  unfold St.ents
  cases hr : s.get k with
  | none => rw [hr] at hd; cases hd
  | some r => rw [hr] at hd; cases hd; exact ⟨r, rfl, rfl, rfl⟩
theorem nd_none {k : Int} (hd : s.nd k = none) : s.get k = none := by
  unfold St.nd at hd
  cases hr : s.get k with
  | none => rfl
  | some r => rw [hr] at hd; cases hd
theorem go_nodir (hd : s.isDir at' = false) : goH s follow slash h (p :: ps) at' = (111, 0) := by
  rw [goH_eq, goParts]
  unfold St.isDir at hd
  cases hr : s.get at' with
  | none => rfl
  | some r =>
    rw [hr] at hd
    simp only [beq_eq_false_iff_ne] at hd
    simp only
    rw [if_pos hd]
theorem go_up {d : Nd} (hd : s.nd at' = some d) (hk : d.kind = 2) (hu : isUp p = true) : goH s follow slash h (p :: ps) at' = goH s follow slash h ps (upOf d) := by
  obtain ⟨r, h1, h2, h3⟩ := nd_get hd
  subst h2
  rw [goH_eq, goParts, h1]
  simp only
  rw [if_neg (by simp [hk]), if_pos hu]
theorem go_noent {d : Nd} (hd : s.nd at' = some d) (hk : d.kind = 2) (hu : isUp p = false) (he : entOf (s.ents at') p = none) : goH s follow slash h (p :: ps) at' = (109, 0) := by
  obtain ⟨r, h1, h2, h3⟩ := nd_get hd
  subst h2
  rw [goH_eq, goParts, h1]
  simp only
  rw [if_neg (by simp [hk]), if_neg (by simp [hu]), h3, he]
theorem go_on {d x : Nd} {e : En} (hd : s.nd at' = some d) (hk : d.kind = 2) (hu : isUp p = false) (he : entOf (s.ents at') p = some e) (hn : s.nd e.node = some x) (hx : x.kind ≠ 3 ∨ (ps = [] ∧ follow = false ∧ slash = false)) :
    goH s follow slash h (p :: ps) at' = goH s follow slash h ps e.node := by
  obtain ⟨r, h1, h2, h3⟩ := nd_get hd
  obtain ⟨y, h4, h5, h6⟩ := nd_get hn
  subst h2 h5
  rw [goH_eq, goParts, h1]
  simp only
  rw [if_neg (by simp [hk]), if_neg (by simp [hu]), h3, he]
  simp only
  rw [h4]
  simp only
  rw [if_pos hx]
theorem go_ln {d x : Nd} {e : En} (hd : s.nd at' = some d) (hk : d.kind = 2) (hu : isUp p = false) (he : entOf (s.ents at') p = some e) (hn : s.nd e.node = some x) (hx : ¬ (x.kind ≠ 3 ∨ (ps = [] ∧ follow = false ∧ slash = false))) :
    goH s follow slash h (p :: ps) at' = nextH s follow slash h x.target at' ps := by
  obtain ⟨r, h1, h2, h3⟩ := nd_get hd
  obtain ⟨y, h4, h5, h6⟩ := nd_get hn
  subst h2 h5
  rw [goH_eq, goParts, h1]
  simp only
  rw [if_neg (by simp [hk]), if_neg (by simp [hu]), h3, he]
  simp only
  rw [h4]
  simp only
  rw [if_neg hx]
theorem next_bad {t : ByteArray} (hq : (tgtOf t at').1.1 ≠ 0) : nextH s follow slash (h + 1) t at' ps = ((tgtOf t at').1.1, 0) := by
  unfold nextH
  simp only
  rw [if_pos hq]
theorem next_ok {t : ByteArray} (hq : (tgtOf t at').1.1 = 0) : nextH s follow slash (h + 1) t at' ps = goH s follow slash h ((tgtOf t at').1.2.parts ++ ps) (tgtOf t at').2 := by
  unfold nextH
  simp only
  rw [if_neg (by simp [hq])]
end
theorem isDir_some {s : St} {k : Int} (h : s.isDir k = true) : ∃ d, s.nd k = some d ∧ d.kind = 2 := by
  rw [St.isDir_nd] at h
  cases hd : s.nd k with
  | none => rw [hd] at h; cases h
  | some d => rw [hd] at h; exact ⟨d, rfl, by simpa using h⟩
theorem isDir_no {s : St} {k : Int} (h : s.nd k = none) : s.isDir k = false := by rw [St.isDir_nd, h]
end Go.Proofs.YtjekpbkmhgfhoaaGreatDoor
end

section
/- The walks of package walk: a world's nodes and directories: dir, Dir, entry, up, Put, Drop, Empty, New. -/
namespace Go.Proofs.YtjekpbkmhgfhoaaGreatDoor
open Go Go.RowKit
set_option maxRecDepth 100000
set_option linter.unusedSimpArgs false
set_option linter.unusedVariables false
attribute [local go_sem] giv
variable {E : Nat → Addr} {B : Nat}

section
variable {L : Nat → Prop} {w : World} {b t dm : Nat} {st : St}

/-- A new block, and what other blocks made behind it leave of it. -/
theorem new_kept {w w1 : World} {o : Obj} (hb : Below (w.alloc o).heap.size (w.alloc o) w1) : (∀ i, w1.cell? ⟨w.heap.size, i, none⟩ = (w.alloc o).cell? ⟨w.heap.size, i, none⟩) ∧ (∀ i, w1.frozen? ⟨w.heap.size, i, none⟩ = (w.alloc o).frozen? ⟨w.heap.size, i, none⟩) ∧
    w.heap.size < w1.heap.size ∧ Below w.heap.size w w1 := by
  have h1 : (w.alloc o).heap.size = w.heap.size + 1 := by simp
  have h2 := hb.size
  refine ⟨fun i => hb.cell (p := ⟨w.heap.size, i, none⟩) (by simp), fun i => hb.frozen (p := ⟨w.heap.size, i, none⟩) (by simp), by omega, ?_⟩
  exact (bl_alloc (Below.refl _ _) _).trans (hb.mono (by omega))

/-- A block's cells written, all new. -/
theorem bel6 {w w1 : World} (h : Below w.heap.size w w1) {a : Nat} (ha : w.heap.size ≤ a) (u0 u1 u2 u3 u4 u5 : Value) (o : Obj) :
    Below w.heap.size w (((((((w1.setCell ⟨a, 0, none⟩ u0).setCell ⟨a, 1, none⟩ u1).setCell ⟨a, 2, none⟩ u2).setCell ⟨a, 3, none⟩ u3).setCell ⟨a, 4, none⟩ u4).setCell ⟨a, 5, none⟩ u5).alloc o).drew :=
  Below.drew (bl_alloc (Below.setCell (Below.setCell (Below.setCell (Below.setCell (Below.setCell (Below.setCell h ha u0) ha u1) ha u2) ha u3) ha u4) ha u5) o)
set_option maxHeartbeats 1000000 in
theorem wdir_any (h : WB B L w b t dm st) {k : Int} (hk : -9223372036854775808 ≤ k ∧ k ≤ 9223372036854775807) :
    Calls Tryz.prog 101 #[.pointer (some ⟨b, 0, none⟩), .int .i64 k] w fun e w' => e = .returned (.tuple #[encN ((st.nd k).getD noNd), .bool (st.isDir k)]) ∧ Below w.heap.size w w' := by
  have hc := h.c0
  have hlt := h.lt.1
  have H := Lib.hid h
  clear h
  have hd : st.isDir k = ((st.nd k).isSome && (((st.nd k).getD noNd).kind == 2)) := by
    rw [St.isDir_nd]
    cases st.nd k <;> rfl
  generalize hP : (fun (e : Ending) (w' : World) => e = .returned (.tuple #[encN ((st.nd k).getD noNd), .bool (st.isDir k)]) ∧ Below w.heap.size w w') = Post
  rw [hd] at hP
  have HP := Lib.hid hP
  clear hP hd
  go_enter Tryz.func101, Tryz.ntmps101
  go_wp2_with fail
  refine (wl_get (H.out.below (bl_alloc (Below.refl _ _) _)) hk).mono ?_
  rintro e w1 ⟨rfl, hb⟩
  obtain ⟨k1, k2, k3, k4⟩ := new_kept hb
  have x0 : w1.cell? ⟨w.heap.size, 0, none⟩ = some (.int .i64 0) := (k1 0).trans (by simp)
  have x1 : w1.cell? ⟨w.heap.size, 1, none⟩ = some (.int .i64 0) := (k1 1).trans (by simp)
  have x2 : w1.cell? ⟨w.heap.size, 2, none⟩ = some (.int .i64 0) := (k1 2).trans (by simp)
  have x3 : w1.cell? ⟨w.heap.size, 3, none⟩ = some (.int .i64 0) := (k1 3).trans (by simp)
  have x4 : w1.cell? ⟨w.heap.size, 4, none⟩ = some (.string { data := #[] }) := (k1 4).trans (by simp)
  have x5 : w1.cell? ⟨w.heap.size, 5, none⟩ = some (.int .i64 0) := (k1 5).trans (by simp)
  have xf : ∀ i, w1.frozen? ⟨w.heap.size, i, none⟩ = false := fun i => (k2 i).trans (by simp)
  have HB := Lib.hid k4
  clear k1 k2 k4 hb H hc
  obtain ⟨n, hn⟩ : ∃ n, n = (st.nd k).getD noNd := ⟨_, rfl⟩
  rw [← hn] at HP ⊢
  generalize (st.nd k).isSome = is at *
  clear hn
  obtain ⟨n1, n2, n3, n4, n5, n6⟩ := n
  simp only [encN] at HP ⊢
  cases is with
  | false =>
    go_wp2
    go_region
    go_wp2
    rw [← HP.out]
    refine bodyPost_ret (v := .tuple #[.agg #[.int .i64 n1, .int .i64 n2, .int .i64 n3, .int .i64 n4, .string n5, .int .i64 n6], .bool false]) (by simp [results, Tryz.results101, go_sem, x0, x1, x2, x3, x4, x5, k3]) rfl ⟨rfl, bel6 HB.out (Nat.le_refl _) _ _ _ _ _ _ _⟩
  | true =>
    go_wp2
    go_region
    go_wp2
    rw [← HP.out]
    refine bodyPost_ret (v := .tuple #[.agg #[.int .i64 n1, .int .i64 n2, .int .i64 n3, .int .i64 n4, .string n5, .int .i64 n6], .bool (n2 == 2)]) (by simp [results, Tryz.results101, go_sem, x0, x1, x2, x3, x4, x5, k3]) rfl ⟨by simp, bel6 HB.out (Nat.le_refl _) _ _ _ _ _ _ _⟩

/-- Dir of what is none. -/
theorem wDir_no (h : WB B L w b t dm st) {k : Int} (hk : -9223372036854775808 ≤ k ∧ k ≤ 9223372036854775807) (hd : st.isDir k = false) :
    Calls Tryz.prog 79 #[.pointer (some ⟨b, 0, none⟩), .int .i64 k] w fun e w' => e = .returned (.tuple #[.pointer none, .bool false]) ∧ Below w.heap.size w w' := by
  have H := Lib.hid h
  have HD := Lib.hid hd
  clear h hd
  generalize (st.nd k).getD noNd = n at *
  go_enter Tryz.func79, Tryz.ntmps79
  go_wp2_with fail
  refine (wdir_any H.out hk).mono ?_
  rintro e w1 ⟨rfl, hb⟩
  rw [HD.out]
  generalize (st.nd k).getD noNd = n at *
  obtain ⟨n1, n2, n3, n4, n5, n6⟩ := n
  simp only [encN]
  go_wp2
  go_ret2
  exact ⟨rfl, bl_alloc hb _⟩
/-- Dir of a directory. -/
theorem wDir_yes (h : WB B L w b t dm st) {k : Int} (hk : 1 ≤ k ∧ k ≤ 9223372036854775807) (hd : st.isDir k = true) :
    Calls Tryz.prog 79 #[.pointer (some ⟨b, 0, none⟩), .int .i64 k] w fun e w' => ∃ x, e = .returned (.tuple #[.pointer (some ⟨x, 0, none⟩), .bool true]) ∧ WD B L w' b t dm st k x ∧ KeptP B L w w' := by
  have H := Lib.hid h
  have HD := Lib.hid hd
  clear h hd
  go_enter Tryz.func79, Tryz.ntmps79
  go_wp2_with fail
  refine (wdir_any H.out (by omega)).mono ?_
  rintro e w1 ⟨rfl, hb⟩
  rw [HD.out]
  generalize (st.nd k).getD noNd = n at *
  obtain ⟨n1, n2, n3, n4, n5, n6⟩ := n
  simp only [encN]
  have h1 : WB B L w1 b t dm st := H.out.below hb
  have hc1 := h1.c1
  have hlt1 := h1.lt.1
  have hl2 := h1.lt.2.2
  have K1 : KeptP B L w w1 := H.out.kept hb
  rcases h1.split k with h2 | ⟨x, h2⟩
  · have H1 := Lib.hid h2
    have K := Lib.hid K1
    clear h1 h2 hb H K1
    have hb2 : Below w1.heap.size w1 (w1.alloc (.cells #[.int .i64 n1, .int .i64 n2, .int .i64 n3, .int .i64 n4, .string n5, .int .i64 n6] 59)) := bl_alloc (Below.refl _ _) _
    have H2 := Lib.hid (H1.out.below hb2)
    have K2 := Lib.hid (K.out.trans (H1.out.kept hb2))
    have C2 := Lib.hid ((hb2.cell (p := ⟨b, 1, none⟩) hlt1).trans hc1)
    clear hb2
    go_wp2_with (first
      | (at_lookup; refine wpList_look rfl _ _ _ _ rfl (wl_look_no H2.out (by omega) (fun d hd => hd.2)) ?_))
    obtain ⟨w2, hr, h3, k3⟩ := wl_madd (x := w1.heap.size + 1) H2.out rfl (by simp) hk (fun d hd => hd.2)
    rw [hr]
    have h4 : WD B L w2 b t dm st k (w1.heap.size + 1) := h3.weak (by
      rintro d ⟨d0, ⟨h1, h2⟩, rfl⟩
      refine ⟨fun i hi => ?_, none, by unfold upd; rw [if_pos rfl]⟩
      unfold upd at hi
      split at hi
      · rename_i he; rw [he]; exact HD.out
      · exact h1 i hi)
    have H4 := Lib.hid h4
    have K4 := Lib.hid (K2.out.trans k3)
    have hc4 := h4.c1
    have hlt4 := h4.lt.1
    clear h3 k3 h4 hr C2 H2 K2
    go_wp2_with (at_lookup; refine wpList_look rfl _ _ _ _ rfl (wl_look H4.out (by omega) (fun d hd => hd.2)) ?_)
    go_ret2
    exact ⟨_, rfl, H4.out, K4.out⟩
  · have H1 := Lib.hid h2
    have K := Lib.hid K1
    clear h1 h2 hb H HD K1
    have hb2 : Below w1.heap.size w1 (w1.alloc (.cells #[.int .i64 n1, .int .i64 n2, .int .i64 n3, .int .i64 n4, .string n5, .int .i64 n6] 59)) := bl_alloc (Below.refl _ _) _
    have H2 := Lib.hid (H1.out.below hb2)
    have K2 := Lib.hid (K.out.trans (H1.out.kept hb2))
    clear hb2
    go_wp2_with (at_lookup; refine wpList_look rfl _ _ _ _ rfl (wl_look H2.out (by omega) (fun d hd => hd.2)) ?_)
    go_ret2
    exact ⟨x, rfl, H2.out, K2.out⟩
end
end Go.Proofs.YtjekpbkmhgfhoaaGreatDoor
end

section
/- The walks of package walk: entry, up, Put, Drop, Empty, New. -/
namespace Go.Proofs.YtjekpbkmhgfhoaaGreatDoor
open Go Go.RowKit
set_option maxRecDepth 100000
set_option linter.unusedSimpArgs false
set_option linter.unusedVariables false
attribute [local go_sem] giv
variable {E : Nat → Addr} {B : Nat}

section
variable {L : Nat → Prop} {w : World} {b t dm : Nat} {st : St}

theorem KeptP.set {a c : World} (h : KeptP B L a c) {p : Addr} (hp : B ≤ p.block) (hn : ¬ L p.block) (u : Value) : KeptP B L a (c.setCell p u) :=
  ⟨h.below.setCell hp u, fun x hx => (Below.heap_setCell _ _ _ _ (fun he => hn (he ▸ hx))).trans (h.loc x hx)⟩
theorem KeptP.then {a c d : World} (h : KeptP B L a c) (k : Below c.heap.size c d) (hB : B ≤ c.heap.size) (hL : ∀ x, L x → x < c.heap.size) : KeptP B L a d := h.trans (KeptP.of_below k hB hL)
/-- One new block of the law's own, then what the tree does: what stays. -/
theorem WL.out1 {nd : Int → Option Nd} {n : Nat} {last : Int} {de : Int → List En} {Q : Dirs → Prop} (h : WL B L w b t dm nd n last de Q) {o : Obj} {w' : World} (k : KeptP B (fun x => x = w.heap.size ∨ L x) (w.alloc o) w') :
    (∀ i, w'.cell? ⟨w.heap.size, i, none⟩ = (w.alloc o).cell? ⟨w.heap.size, i, none⟩) ∧ (∀ i, w'.frozen? ⟨w.heap.size, i, none⟩ = (w.alloc o).frozen? ⟨w.heap.size, i, none⟩) ∧ KeptP B L w w' :=
  ⟨fun i => k.cell (.inl rfl) i, fun i => k.froz (.inl rfl) i, KeptP.less (bl_alloc (Below.refl _ _) o) k h.1 h.2.1 (fun x hx => .inr hx)⟩
theorem WL.notL {nd : Int → Option Nd} {n : Nat} {last : Int} {de : Int → List En} {Q : Dirs → Prop} (h : WL B L w b t dm nd n last de Q) {x : Nat} (hx : w.heap.size ≤ x) : ¬ L x := fun hl => by have := h.2.1 x hl; omega

/-- A node's cells. -/
def ndC (n : Nd) : List Value := [.int .i64 n.id, .int .i64 n.kind, .int .i64 n.links, .int .i64 n.size, .string n.target, .int .i64 n.parent]
theorem wup_any (n : Nd) (w : World) : Calls Tryz.prog 135 #[encN n] w fun e w' => e = .returned (.int .i64 (upOf n)) ∧ Below w.heap.size w w' := by
  obtain ⟨n1, n2, n3, n4, n5, n6⟩ := n
  unfold encN upOf
  simp only
  by_cases h : n1 = 1
  · subst h
    go_enter Tryz.func135, Tryz.ntmps135
    go_wp2
    go_ret
    exact ⟨rfl, bl_alloc (Below.refl _ _) _⟩
  · have h2 : (n1 == 1) = false := by rw [beq_eq_false_iff_ne]; exact h
    rw [if_neg h]
    go_enter Tryz.func135, Tryz.ntmps135
    go_wp2
    go_ret
    exact ⟨rfl, bl_alloc (Below.refl _ _) _⟩

theorem wentry_no (h : WB B L w b t dm st) {k : Int} (hk : -9223372036854775808 ≤ k ∧ k ≤ 9223372036854775807) (hd : st.isDir k = false) (s : ByteArray) :
    Calls Tryz.prog 102 #[.pointer (some ⟨b, 0, none⟩), .int .i64 k, .string s] w fun e w' => e = .returned (.tuple #[encE noEn, .bool false]) ∧ Below w.heap.size w w' := by
  have H := Lib.hid h
  have HD := Lib.hid hd
  clear h hd
  go_enter Tryz.func102, Tryz.ntmps102
  go_wp2_with fail
  refine (wDir_no (H.out.below (bl_alloc (Below.refl _ _) _)) hk HD.out).mono ?_
  rintro e w1 ⟨rfl, hb⟩
  obtain ⟨k1, k2, k3, k4⟩ := new_kept hb
  have x0 : w1.cell? ⟨w.heap.size, 0, none⟩ = some (.string { data := #[] }) := (k1 0).trans (by simp)
  have x1 : w1.cell? ⟨w.heap.size, 1, none⟩ = some (.int .i64 0) := (k1 1).trans (by simp)
  have x2 : w1.cell? ⟨w.heap.size, 2, none⟩ = some (.int .i64 0) := (k1 2).trans (by simp)
  have xf : ∀ i, w1.frozen? ⟨w.heap.size, i, none⟩ = false := fun i => (k2 i).trans (by simp)
  have HB := Lib.hid k4
  clear k1 k2 k4 hb H HD
  go_wp2
  refine bodyPost_ret (v := .tuple #[encE noEn, .bool false]) (by simp [results, Tryz.results102, go_sem, x0, x1, x2, encE, noEn]) rfl ⟨rfl, ?_⟩
  exact ((HB.out.setCell (Nat.le_refl _) _).setCell (Nat.le_refl _) _).setCell (Nat.le_refl _) _
theorem entry_dir {k : Int} (hd : st.isDir k = true) (s : ByteArray) : st.entry k s = entOf (st.ents k) s := by
  unfold St.entry
  rw [dirOf_isDir hd]
  rfl
theorem entry_not {k : Int} (hd : st.isDir k = false) (s : ByteArray) : st.entry k s = none := by
  unfold St.entry
  rw [dirOf_not hd]
  rfl
theorem wentry_yes (h : WB B L w b t dm st) {k : Int} (hk : 1 ≤ k ∧ k ≤ 9223372036854775807) (hd : st.isDir k = true) {s : ByteArray} (hs : s.size ≤ maxLen) :
    Calls Tryz.prog 102 #[.pointer (some ⟨b, 0, none⟩), .int .i64 k, .string s] w fun e w' =>
      e = .returned (.tuple #[encE ((entOf (st.ents k) s).getD noEn), .bool (entOf (st.ents k) s).isSome]) ∧ WB B L w' b t dm st ∧ KeptP B L w w' := by
  have H := Lib.hid h
  have HD := Lib.hid hd
  have HS := Lib.hid hs
  obtain ⟨q, hq⟩ : ∃ q, (entOf (st.ents k) s).getD noEn = q := ⟨_, rfl⟩
  obtain ⟨is, his⟩ : ∃ is, (entOf (st.ents k) s).isSome = is := ⟨_, rfl⟩
  rw [hq, his]
  have HQ := Lib.hid hq
  have HI := Lib.hid his
  obtain ⟨q1, q2, q3⟩ := q
  simp only [encE]
  clear h hd hs hq his
  go_enter Tryz.func102, Tryz.ntmps102
  go_wp2_with fail
  refine (wDir_yes (WL.loc H.out _) hk HD.out).mono ?_
  rintro e w1 ⟨x, rfl, h1, k1⟩
  have H1 := Lib.hid h1
  have K1 := Lib.hid k1
  clear h1 k1
  go_wp2_with fail
  refine (wl_dget H1.out (fun d hd => hd.2) HS.out).mono ?_
  rintro e w2 ⟨rfl, hb⟩
  rw [HQ.out, HI.out]
  have h2 : WD B _ w2 b t dm st k x := H1.out.below hb
  have k2 := K1.out.trans (H1.out.kept hb)
  obtain ⟨c1, c2, c3⟩ := WL.out1 H.out k2
  have x0 : w2.cell? ⟨w.heap.size, 0, none⟩ = some (.string { data := #[] }) := (c1 0).trans (by simp)
  have x1 : w2.cell? ⟨w.heap.size, 1, none⟩ = some (.int .i64 0) := (c1 1).trans (by simp)
  have x2 : w2.cell? ⟨w.heap.size, 2, none⟩ = some (.int .i64 0) := (c1 2).trans (by simp)
  have xf : ∀ i, w2.frozen? ⟨w.heap.size, i, none⟩ = false := fun i => (c2 i).trans (by simp)
  have lx : w.heap.size < w2.heap.size := h2.2.1 _ (.inl rfl)
  have H2 := Lib.hid h2
  have K2 := Lib.hid c3
  clear c1 c2 c3 hb h2 k2 H1 K1
  simp only [encE]
  go_wp2
  refine bodyPost_ret (v := .tuple #[.agg #[.string q1, .int .i64 q2, .int .i64 q3], .bool is]) (by simp [results, Tryz.results102, go_sem, x0, x1, x2]) rfl ⟨rfl, ?_, ?_⟩
  · exact (((H2.out.wb.set (p := ⟨w.heap.size, 0, none⟩) (.inl rfl) _).set (p := ⟨w.heap.size, 1, none⟩) (.inl rfl) _).set (p := ⟨w.heap.size, 2, none⟩) (.inl rfl) _).less (fun x hx => .inr hx)
  · exact ((K2.out.set (H.out.1) (H.out.notL (Nat.le_refl _)) _).set (H.out.1) (H.out.notL (Nat.le_refl _)) _).set (H.out.1) (H.out.notL (Nat.le_refl _)) _
theorem wentry_any (h : WB B L w b t dm st) {k : Int} (hk : -9223372036854775808 ≤ k ∧ k ≤ 9223372036854775807) (h1 : st.isDir k = true → 1 ≤ k) {s : ByteArray} (hs : s.size ≤ maxLen) :
    Calls Tryz.prog 102 #[.pointer (some ⟨b, 0, none⟩), .int .i64 k, .string s] w fun e w' =>
      e = .returned (.tuple #[encE ((st.entry k s).getD noEn), .bool (st.entry k s).isSome]) ∧ WB B L w' b t dm st ∧ KeptP B L w w' := by
  cases hd : st.isDir k with
  | true => rw [entry_dir hd]; exact wentry_yes h ⟨h1 hd, hk.2⟩ hd hs
  | false =>
    rw [entry_not hd]
    exact (wentry_no h hk hd s).mono fun e w' ⟨he, hb⟩ => ⟨he, WL.below h hb, WL.kept h hb⟩

theorem put_ends {st : St} (hr : RiseN st.ns) (n : Nd) : (st.put n).ns.length = (if (st.nd n.id).isSome then st.ns.length else st.ns.length + 1) ∧ (st.put n).last = max st.last n.id := by
  refine ⟨?_, rfl⟩
  show (putN n st.ns).length = _
  rw [putN_length hr]
  unfold St.nd
  rw [St.get_eq]
  cases findN st.ns n.id <;> rfl
/-- A node put, its directory's block put out. -/
theorem WL.put_del {st : St} {n : Nd} (hr : RiseN st.ns) (hk : ¬ (n.kind = 2 ∧ ∃ q, st.nd n.id = some q ∧ q.kind = 2)) {w : World}
    (h : WL B L w b t dm (upd st.nd n.id n) (if (st.nd n.id).isSome then st.ns.length else st.ns.length + 1) (max st.last n.id) (fun i => if i = n.id then [] else st.ents i) (fun d => ∃ d0, Fit st d0 ∧ d = del d0 n.id)) : WB B L w b t dm (st.put n) := by
  unfold WB
  have hke : keepE n (st.get n.id) = [] := by
    unfold keepE
    cases hg : st.get n.id with
    | none => rfl
    | some r =>
      simp only
      rw [if_neg]
      intro h2
      exact hk ⟨h2.1, r.nd, by unfold St.nd; rw [hg]; rfl, h2.2⟩
  rw [nd_put hr, ents_put hr, (put_ends hr n).1, (put_ends hr n).2, hke]
  refine h.weak ?_
  rintro d ⟨d0, h1, rfl⟩ k hk2
  unfold del at hk2
  split at hk2
  · exact absurd rfl hk2
  · rename_i hne
    rw [St.isDir_nd, nd_put hr]
    unfold upd
    rw [if_neg hne, ← St.isDir_nd]
    exact h1 k hk2
/-- A directory put in place of one. -/
theorem WL.put_keep {st : St} {n : Nd} (hr : RiseN st.ns) (hk : n.kind = 2) {q : Nd} (hq : st.nd n.id = some q) (hq2 : q.kind = 2) {w : World}
    (h : WL B L w b t dm (upd st.nd n.id n) (if (st.nd n.id).isSome then st.ns.length else st.ns.length + 1) (max st.last n.id) st.ents (Fit st)) : WB B L w b t dm (st.put n) := by
  unfold WB
  have he : (fun k => if k = n.id then keepE n (st.get n.id) else st.ents k) = st.ents := by
    funext k
    by_cases hkn : k = n.id
    · subst hkn
      rw [if_pos rfl]
      unfold St.nd at hq
      unfold St.ents
      cases hg : st.get n.id with
      | none => rw [hg] at hq; cases hq
      | some r =>
        rw [hg] at hq
        cases hq
        exact keepE_both hk hq2
    · rw [if_neg hkn]
  rw [nd_put hr, ents_put hr, (put_ends hr n).1, (put_ends hr n).2, he]
  refine h.weak ?_
  intro d h1 k hk2
  have h3 := h1 k hk2
  rw [St.isDir_nd, nd_put hr]
  unfold upd
  by_cases hkn : k = n.id
  · rw [if_pos hkn]; simp [hk]
  · rw [if_neg hkn, ← St.isDir_nd]; exact h3
set_option maxHeartbeats 1000000 in
theorem wput_ok (h : WB B L w b t dm st) (hr : RiseN st.ns) (n : Nd) (hv : validB n = true) (hn : st.get n.id = none → st.ns.length < 512) (hE : Env E B w) :
    Calls Tryz.prog 96 #[.pointer (some ⟨b, 0, none⟩), encN n] w fun e w' => e = .returned .nilIface ∧ WB B L w' b t dm (st.put n) ∧ KeptP B L w w' := by
  have hid := valid_ids hv
  obtain ⟨is, his⟩ : ∃ is, (st.nd n.id).isSome = is := ⟨_, rfl⟩
  obtain ⟨q, hq⟩ : ∃ q, (st.nd n.id).getD noNd = q := ⟨_, rfl⟩
  generalize hP : (fun (e : Ending) (w' : World) => e = .returned .nilIface ∧ WB B L w' b t dm (st.put n) ∧ KeptP B L w w') = Post
  have HP := Lib.hid hP
  have H := Lib.hid h
  have HV := Lib.hid hv
  have HN := Lib.hid hn
  have HR := Lib.hid hr
  have HE := Lib.hid hE
  have HQ := Lib.hid hq
  have HI := Lib.hid his
  have HID := Lib.hid hid
  obtain ⟨n1, n2, n3, n4, n5, n6⟩ := n
  obtain ⟨q1, q2, q3, q4, q5, q6⟩ := q
  simp only [encN]
  simp only at his hq hid
  clear hP hv hn hr hE hq h
  go_enter Tryz.func96, Tryz.ntmps96
  go_wp2_with fail
  obtain ⟨w1, hw1⟩ : ∃ w1, w1 = w.alloc (.cells #[.int .i64 n1, .int .i64 n2, .int .i64 n3, .int .i64 n4, .string n5, .int .i64 n6] 59) := ⟨_, rfl⟩
  have h1 : WB B (fun x => x = w.heap.size ∨ L x) w1 b t dm st := hw1 ▸ WL.loc H.out _
  have s0 := h1.c0
  have R1 : Hid (Row w1 w.heap.size 59 (ndC ⟨n1, n2, n3, n4, n5, n6⟩)) := Lib.hid (hw1 ▸ Row.new w 59 (ndC ⟨n1, n2, n3, n4, n5, n6⟩))
  have hlt := h1.lt.1
  have hlt2 : w.heap.size < w1.heap.size := by rw [hw1]; simp
  rw [← hw1]
  have H1 := Lib.hid h1
  have B1 := Lib.hid (show Below w.heap.size w w1 by rw [hw1]; exact bl_alloc (Below.refl _ _) _)
  have S : ∀ w', ShH w1.heap.size (ndC ⟨q1, q2, q3, q4, q5, q6⟩) 59 w1 w' → w'.cell? ⟨b, 0, none⟩ = some (.pointer (some ⟨t, 0, none⟩)) ∧ w'.cell? ⟨w.heap.size, 0, none⟩ = some (.int .i64 n1) := fun w' hs => ⟨(hs.bel.cell (p := ⟨b, 0, none⟩) hlt).trans s0, (hs.bel.cell (p := ⟨w.heap.size, 0, none⟩) hlt2).trans ((R1.out.cell 0).trans rfl)⟩
  have HG : Hid (∀ w', ShH w1.heap.size (ndC ⟨q1, q2, q3, q4, q5, q6⟩) 59 w1 w' → Calls Tryz.prog 54 #[.pointer (some ⟨t, 0, none⟩), .int .i64 n1] w' fun e w'' => e = .returned (.tuple #[.agg #[.int .i64 q1, .int .i64 q2, .int .i64 q3, .int .i64 q4, .string q5, .int .i64 q6], .bool is]) ∧ Below w'.heap.size w' w'') := Lib.hid fun w' hs => by
    have := wl_get (H1.out.below hs.bel) (k := n1) (by omega)
    rw [HQ.out, HI.out] at this
    exact this
  clear hw1 h1
  apply wp_region_rel _ (by kernel_rfl) (by kernel_rfl) (fun w' => ShH w1.heap.size (ndC ⟨q1, q2, q3, q4, q5, q6⟩) 59 w1 w') (fun w' w'' => ShH w1.heap.size (ndC ⟨q1, q2, q3, q4, q5, q6⟩) 59 w' w'') (fun w' w'' h1 h2 => h1.trans h2) (ShH.refl _ _ _ _).drew
  repeat (first
    | (apply wpRel_fix (by rfl)
       · intro w' hC hf R hR
         have hS := S w' hC
         go_simp
         exact hR _ (ShH.refl _ _ _ _)
       simp only [Act.put, List.setIfInBounds_toArray, List.set_cons_zero, List.set_cons_succ])
    | (apply wpRel_fix (by rfl)
       · intro w' hC hf R hR
         have hS := S w' hC
         go_simp
         refine (HG.out w' hC).mono ?_
         rintro e w'' ⟨rfl, hb⟩
         exact ⟨_, rfl, hR _ (ShH.of_below hb (Nat.le_trans hC.bel.size (Nat.le_refl _)))⟩
       simp only [Act.put, List.setIfInBounds_toArray, List.set_cons_zero, List.set_cons_succ]))
  apply wpRel_rel (PtTy w1.heap.size ((ndC ⟨q1, q2, q3, q4, q5, q6⟩) : List Value).length 59) (by rfl) ptTy_keep
  · intro w' hC hf R hR
    go_simp
    exact hR _ _ ⟨_, rfl, hC.bel.size, TyB.new _ _ _ rfl⟩ (ShH.of_below (bl_alloc (Below.refl _ _) _) hC.bel.size)
  intro vptr
  simp only [Act.put, List.setIfInBounds_toArray, List.set_cons_zero, List.set_cons_succ]
  apply wpRel_dep 5 (PtRow w1.heap.size (ndC ⟨q1, q2, q3, q4, q5, q6⟩) 59) (by rfl) (by rfl) ptRow_keep
  · intro w' hC hf R hR
    obtain ⟨c, rfl, hc, hk⟩ := hf _ (List.mem_cons_self ..) (by kernel_rfl)
    obtain ⟨u0, e0⟩ := hk.cell (i := 0) (Nat.lt_of_lt_of_eq (by decide : 0 < 6) rfl)
    have f0 := hk.froz 0
    obtain ⟨u1, e1⟩ := hk.cell (i := 1) (Nat.lt_of_lt_of_eq (by decide : 1 < 6) rfl)
    have f1 := hk.froz 1
    obtain ⟨u2, e2⟩ := hk.cell (i := 2) (Nat.lt_of_lt_of_eq (by decide : 2 < 6) rfl)
    have f2 := hk.froz 2
    obtain ⟨u3, e3⟩ := hk.cell (i := 3) (Nat.lt_of_lt_of_eq (by decide : 3 < 6) rfl)
    have f3 := hk.froz 3
    obtain ⟨u4, e4⟩ := hk.cell (i := 4) (Nat.lt_of_lt_of_eq (by decide : 4 < 6) rfl)
    have f4 := hk.froz 4
    obtain ⟨u5, e5⟩ := hk.cell (i := 5) (Nat.lt_of_lt_of_eq (by decide : 5 < 6) rfl)
    have f5 := hk.froz 5
    have hN := Lib.hid hk
    clear hk
    go_simp
    exact hR _ _ (ptRow_mk hN.out hc) (ShH.setAll hN.out hc)
  intro vst
  simp only [Act.put, List.setIfInBounds_toArray, List.set_cons_zero, List.set_cons_succ]
  repeat (first
    | (apply wpRel_fix (by rfl)
       · intro w' hC hf R hR
         have hS := S w' hC
         go_simp
         exact hR _ (ShH.refl _ _ _ _)
       simp only [Act.put, List.setIfInBounds_toArray, List.set_cons_zero, List.set_cons_succ]))
  refine wpRel_nil (fun w2 hC hf => ?_)
  obtain ⟨c, rfl, hc0, rw2⟩ : PtRow w1.heap.size (ndC ⟨q1, q2, q3, q4, q5, q6⟩) 59 vptr w2 := hf _ (List.mem_cons_self ..)
  have B2 := Lib.hid (B1.out.trans (hC.bel.mono B1.out.size))
  have h2 := H1.out.loc' (L' := fun x => x = c ∨ x = w.heap.size ∨ L x) hC.bel (fun x hx => by
    rcases hx with rfl | hx
    · exact .inr ⟨hc0, rw2.lt⟩
    · exact .inl hx)
  have R2 := Lib.hid (R1.out.below hC.bel)
  have R3 := Lib.hid rw2
  have H2 := Lib.hid h2
  clear hf hC S HG rw2 h2 H1 R1 B1
  go_wp2_with fail
  have S : ∀ w', Below w2.heap.size w2 w' → w'.cell? ⟨b, 0, none⟩ = some (.pointer (some ⟨t, 0, none⟩)) ∧ w'.cell? ⟨w.heap.size, 0, none⟩ = some (.int .i64 n1) ∧ w'.cell? ⟨w.heap.size, 1, none⟩ = some (.int .i64 n2) ∧ w'.cell? ⟨w.heap.size, 2, none⟩ = some (.int .i64 n3) ∧
      w'.cell? ⟨w.heap.size, 3, none⟩ = some (.int .i64 n4) ∧ w'.cell? ⟨w.heap.size, 4, none⟩ = some (.string n5) ∧ w'.cell? ⟨w.heap.size, 5, none⟩ = some (.int .i64 n6) := by
    intro w' hb
    have r := R2.out.below hb
    exact ⟨(H2.out.below hb).c0, (r.cell 0).trans rfl, (r.cell 1).trans rfl, (r.cell 2).trans rfl, (r.cell 3).trans rfl, (r.cell 4).trans rfl, (r.cell 5).trans rfl⟩
  apply wp_region_tail 5 _ (by kernel_rfl) (by kernel_rfl) (by kernel_rfl) (by decide) (fun w' => Below w2.heap.size w2 w') (fun w' w'' => Below w'.heap.size w' w'') (fun w' w'' h1 h2 => bl_trans h1 h2) (Below.refl _ _).drew
  simp only [List.take_succ_cons, List.take_zero, List.drop_succ_cons, List.drop_zero]
  repeat (first
    | (apply wpRel_skip (by rfl)
       simp only [Act.put, List.setIfInBounds_toArray, List.set_cons_zero, List.set_cons_succ])
    | (apply wpRel_fix (by rfl)
       · intro w' hC hf R hR
         have hS := S w' hC
         go_simp
         exact hR _ (Below.refl _ _)
       simp only [Act.put, List.setIfInBounds_toArray, List.set_cons_zero, List.set_cons_succ]))
  refine wpRel_nil (fun w3 hC hf => ?_)
  clear S hf
  have H3 := Lib.hid (H2.out.below hC)
  have R3' := Lib.hid (R3.out.below hC)
  have R2' := Lib.hid (R2.out.below hC)
  have B3 := Lib.hid (B2.out.trans (hC.mono B2.out.size))
  clear hC H2 R3 R2 B2
  go_wp2_with fail
  refine (wl_put H3.out ⟨n1, n2, n3, n4, n5, n6⟩ HV.out (fun hh => HN.out (by
    have h0 : st.nd n1 = none := by simpa using hh
    exact nd_none h0)) (HE.out.below B3.out)).mono ?_
  rintro e w4 ⟨rfl, h4, k4⟩
  have H4 := Lib.hid h4
  have K4 := Lib.hid k4
  have R4 := Lib.hid (R2'.out.keep (k4.loc _ (.inr (.inl rfl))))
  have R5 := Lib.hid (R3'.out.keep (k4.loc _ (.inl rfl)))
  have KB := Lib.hid (H.out.kept B3.out)
  clear h4 k4 H3 R2' R3'
  have y0 : w4.cell? ⟨w.heap.size, 0, none⟩ = some (.int .i64 n1) := (R4.out.cell 0).trans rfl
  have y1 : w4.cell? ⟨w.heap.size, 1, none⟩ = some (.int .i64 n2) := (R4.out.cell 1).trans rfl
  have z1 : w4.cell? ⟨c, 1, none⟩ = some (.int .i64 q2) := (R5.out.cell 1).trans rfl
  clear s0
  by_cases hn2 : n2 = 2
  case' neg =>
    have hb1 : (n2 == 2) = false := by rw [beq_eq_false_iff_ne]; exact hn2
    have hb2 : (n2 != 2) = true := by simp [bne, hb1]
    have HNK : Hid (¬ (n2 = 2 ∧ ∃ q, st.nd n1 = some q ∧ q.kind = 2)) := Lib.hid (fun h => hn2 h.1)
  case' pos =>
    subst hn2
    cases is
    case' false =>
      have HNK : Hid (¬ ((2 : Int) = 2 ∧ ∃ q, st.nd n1 = some q ∧ q.kind = 2)) := Lib.hid (by
        rintro ⟨h1, q, h2, h3⟩
        have h4 := HI.out
        rw [h2] at h4
        cases h4)
    case' true =>
      by_cases hq2 : q2 = 2
      case' neg =>
        have hb1 : (q2 == 2) = false := by rw [beq_eq_false_iff_ne]; exact hq2
        have hb2 : (q2 != 2) = true := by simp [bne, hb1]
        have HNK : Hid (¬ ((2 : Int) = 2 ∧ ∃ q, st.nd n1 = some q ∧ q.kind = 2)) := Lib.hid (by
          rintro ⟨h1, q, h2, h3⟩
          have h4 := HQ.out
          rw [h2] at h4
          have h5 : q = _ := h4
          rw [h5] at h3
          exact hq2 h3)
      case' pos =>
        subst hq2
  all_goals
    go_wp2_with fail
  · rw [← HP.out]
    refine ⟨rfl, ?_, KB.out.trans (K4.out.mono (fun x hx => .inr (.inr hx)))⟩
    have hs : ∃ q, st.nd n1 = some q ∧ q.kind = 2 := by
      have h1 := HQ.out
      cases hh : st.nd n1 with
      | none => have := HI.out; rw [hh] at this; cases this
      | some q => rw [hh] at h1; exact ⟨q, rfl, by rw [show q = _ from h1]⟩
    obtain ⟨q, h1, h2⟩ := hs
    exact WL.put_keep HR.out rfl h1 h2 (H4.out.less (fun x hx => .inr (.inr hx)))
  all_goals
    have S : ∀ w', Below w4.heap.size w4 w' → w'.cell? ⟨b, 1, none⟩ = some (.map (some dm)) ∧ w'.cell? ⟨w.heap.size, 0, none⟩ = some (.int .i64 n1) := by
      intro w' hb
      exact ⟨(H4.out.below hb).c1, ((R4.out.below hb).cell 0).trans rfl⟩
    have hlt4 := H4.out.lt.1
    apply wp_region_tail 6 _ (by kernel_rfl) (by kernel_rfl) (by kernel_rfl) (by decide) (fun w' => Below w4.heap.size w4 w') (fun w' w'' => Below w'.heap.size w' w'') (fun w' w'' h1 h2 => bl_trans h1 h2) (Below.refl _ _).drew
    simp only [List.take_succ_cons, List.take_zero, List.drop_succ_cons, List.drop_zero]
    repeat (first
      | (apply wpRel_skip (by rfl)
         simp only [Act.put, List.setIfInBounds_toArray, List.set_cons_zero, List.set_cons_succ])
      | (apply wpRel_fix (by rfl)
         · intro w' hC hf R hR
           have hS := S w' hC
           go_simp
           exact hR _ (Below.refl _ _)
         simp only [Act.put, List.setIfInBounds_toArray, List.set_cons_zero, List.set_cons_succ]))
    refine wpRel_nil (fun w5 hC hf => ?_)
    clear S hf
    apply wpList_drop rfl _ _ _ _ rfl
    · exact wl_mdel (H4.out.below hC) (k := n1) (by omega) _
    rintro w6 ⟨h6, k6⟩
    have H6 := Lib.hid h6
    have K6 := Lib.hid ((K4.out.trans (H4.out.kept hC)).trans k6)
    clear h6 k6 hC
    go_wp2
    rw [← HP.out]
    exact ⟨rfl, WL.put_del HR.out (fun h => HNK.out ⟨by first | trivial | exact h.1, h.2⟩) (H6.out.less (fun x hx => .inr (.inr hx))), KB.out.trans (K6.out.mono (fun x hx => .inr (.inr hx)))⟩
/-- Without any node. -/
def empSt : St := ⟨0, []⟩
theorem wempty_any (w : World) (hB : B ≤ w.heap.size) (hL : ∀ x, L x → x < w.heap.size) : Calls Tryz.prog 95 #[] w fun e w' =>
    e = .returned (.pointer (some ⟨w.heap.size + 2, 0, none⟩)) ∧ WB B L w' (w.heap.size + 2) w.heap.size (w.heap.size + 1) empSt ∧ Below w.heap.size w w' := by
  have hmm := @run_makeMap Tryz.prog
  go_enter Tryz.func95, Tryz.ntmps95
  go_wp2
  go_ret
  refine ⟨rfl, ?_, by repeat (first | exact Below.refl _ _ | refine bl_alloc ?_ _)⟩
  have s1 : (w.alloc (.cells #[.map none, .int .i64 0] 154)).heap.size = w.heap.size + 1 := by simp
  have s2 : ((w.alloc (.cells #[.map none, .int .i64 0] 154)).alloc (.map #[] 0)).heap.size = w.heap.size + 2 := by simp
  have r := Row.new ((w.alloc (.cells #[.map none, .int .i64 0] 154)).alloc (.map #[] 0)) 92 [.pointer (some ⟨w.heap.size, 0, none⟩), .map (some (w.heap.size + 1))]
  rw [s2] at r
  have rt := ((Row.new w 154 [.map none, .int .i64 0]).alloc (.map #[] 0)).alloc (.cells #[.pointer (some ⟨w.heap.size, 0, none⟩), .map (some (w.heap.size + 1))] 92)
  have rm : PMap (((w.alloc (.cells #[.map none, .int .i64 0] 154)).alloc (.map #[] 0)).alloc (.cells #[.pointer (some ⟨w.heap.size, 0, none⟩), .map (some (w.heap.size + 1))] 92)) (w.heap.size + 1) (fun _ => none) 0 :=
    (mapAt_new' _ _ _ _ (w.alloc (.cells #[.map none, .int .i64 0] 154)) s1.symm).alloc _
  have hsz : (((w.alloc (.cells #[.map none, .int .i64 0] 154)).alloc (.map #[] 0)).alloc (.cells #[.pointer (some ⟨w.heap.size, 0, none⟩), .map (some (w.heap.size + 1))] 92)).heap.size = w.heap.size + 3 := by simp
  refine ⟨by omega, fun x hx => by have := hL x hx; omega, none, fun _ => none, 0, fun x => if x = w.heap.size + 2 then -1 else if x = w.heap.size then -2 else if x = w.heap.size + 1 then -4 else 0, ?_, ?_, ?_⟩
  · refine ⟨r.cell 0, r.cell 1, ?_, rm, fun k p hp => (by cases hp), fun _ _ => rfl, ?_, fun k p hp => (by cases hp), ?_, ?_, ?_⟩
    · exact ⟨rt.cell 0, rt.cell 1, rt.froz 0, rt.froz 1, rt.lt, rfl, fun _ => rfl⟩
    · rintro x (rfl | hx)
      · simp
      · cases hx
    · simp
    · simp
    · intro x hx
      rw [hsz]
      split at hx
      · omega
      · split at hx
        · omega
        · split at hx
          · omega
          · exact absurd rfl hx
  · intro x hx
    replace hx : (if x = w.heap.size + 2 then (-1 : Int) else if x = w.heap.size then -2 else if x = w.heap.size + 1 then -4 else 0) ≠ 0 := hx
    refine ⟨?_, fun hl => ?_⟩
    · split at hx
      · omega
      · split at hx
        · omega
        · split at hx
          · omega
          · exact absurd rfl hx
    · have := hL x hl
      rw [if_neg (by omega), if_neg (by omega), if_neg (by omega)] at hx
      exact absurd rfl hx
  · intro k hk
    exact absurd rfl hk
theorem wnew_any (w : World) (hB : B ≤ w.heap.size) (hL : ∀ x, L x → x < w.heap.size) (hE : Env E B w) : Calls Tryz.prog 51 #[] w fun e w' =>
    e = .returned (.pointer (some ⟨w.heap.size + 2, 0, none⟩)) ∧ WB B L w' (w.heap.size + 2) w.heap.size (w.heap.size + 1) newSt ∧ KeptP B L w w' := by
  have HE := Lib.hid hE
  have HB := Lib.hid hB
  have HL := Lib.hid hL
  clear hE hB hL
  go_enter Tryz.func51, Tryz.ntmps51
  go_wp2_with fail
  refine (wempty_any w HB.out HL.out).mono ?_
  rintro e w1 ⟨rfl, h1, b1⟩
  have H1 := Lib.hid h1
  have B1 := Lib.hid b1
  clear h1 b1
  go_wp2_with fail
  refine (wput_ok H1.out List.Pairwise.nil ⟨1, 2, 1, 0, ⟨#[]⟩, 1⟩ newNd_valid' (fun _ => by decide) (HE.out.below B1.out)).mono ?_
  rintro e w2 ⟨rfl, h2, k2⟩
  have H2 := Lib.hid h2
  have K2 := Lib.hid ((KeptP.of_below B1.out HB.out HL.out).trans k2)
  clear h2 k2
  go_wp2
  go_ret
  exact ⟨rfl, H2.out, K2.out⟩
end
end Go.Proofs.YtjekpbkmhgfhoaaGreatDoor
end

section
/- Trees in plain words: how many entries there are: as many as names. -/
namespace Go.Proofs.YtjekpbkmhgfhoaaGreatDoor
set_option maxRecDepth 100000
set_option linter.unusedSimpArgs false
set_option linter.unusedVariables false

theorem sum_zero' {ids : List Int} {k : Int} (h : k ∉ ids) : (ids.map fun i => if k = i then 1 else 0).sum = 0 := by
  induction ids with
  | nil => rfl
  | cons i l ih =>
    rw [List.map_cons, List.sum_cons, ih (fun hm => h (List.mem_cons_of_mem _ hm)), if_neg (fun e => h (by rw [e]; exact List.mem_cons_self ..))]
theorem sum_one {ids : List Int} (hn : ids.Nodup) {k : Int} (h : k ∈ ids) : (ids.map fun i => if k = i then 1 else 0).sum = 1 := by
  induction ids with
  | nil => cases h
  | cons i l ih =>
    obtain ⟨h1, h2⟩ := List.nodup_cons.1 hn
    rw [List.map_cons, List.sum_cons]
    rcases List.mem_cons.1 h with rfl | h
    · rw [if_pos rfl, sum_zero' h1]
    · rw [if_neg (fun e => h1 (by rw [← e]; exact h)), ih h2 h]
theorem sum_add (ids : List Int) (f g : Int → Nat) : (ids.map fun i => f i + g i).sum = (ids.map f).sum + (ids.map g).sum := by
  induction ids with
  | nil => rfl
  | cons i l ih => rw [List.map_cons, List.sum_cons, List.map_cons, List.sum_cons, List.map_cons, List.sum_cons, ih]; omega
theorem sum_nil (ids : List Int) : (ids.map fun _ => 0).sum = 0 := by
  induction ids with
  | nil => rfl
  | cons i l ih => rw [List.map_cons, List.sum_cons, ih]
theorem len_names {ids : List Int} (hn : ids.Nodup) : ∀ {l : List En}, (∀ e ∈ l, e.node ∈ ids) → l.length = (ids.map fun k => namesL k l).sum
  | [], _ => by
    have : (ids.map fun k => namesL k ([] : List En)) = ids.map fun _ => 0 := rfl
    rw [this, sum_nil]
    rfl
  | e :: l, h => by
    have ih := len_names hn (l := l) (fun x hx => h x (List.mem_cons_of_mem _ hx))
    have h1 : (ids.map fun k => namesL k (e :: l)) = ids.map fun k => namesL k l + if e.node = k then 1 else 0 := by
      refine List.map_congr_left fun k _ => ?_
      unfold namesL
      rw [List.countP_cons]
      by_cases hk : e.node = k <;> simp [hk]
    rw [h1, sum_add, sum_one hn (h e (List.mem_cons_self ..)), List.length_cons, ← ih]
def cntL (l : List NR) : Nat := (l.map fun r => r.ents.length).sum
theorem cntL_names {ids : List Int} (hn : ids.Nodup) : ∀ {l : List NR}, (∀ r ∈ l, ∀ e ∈ r.ents, e.node ∈ ids) → cntL l = (ids.map fun k => namesN k l).sum
  | [], _ => by
    have : (ids.map fun k => namesN k ([] : List NR)) = ids.map fun _ => 0 := rfl
    rw [this, sum_nil]
    rfl
  | r :: l, h => by
    have ih := cntL_names hn (l := l) (fun x hx => h x (List.mem_cons_of_mem _ hx))
    have h1 : (ids.map fun k => namesN k (r :: l)) = ids.map fun k => namesL k r.ents + namesN k l := rfl
    rw [h1, sum_add, ← ih, ← len_names hn (h r (List.mem_cons_self ..))]
    rfl
theorem rise_nodup {l : List NR} (h : RiseN l) : (l.map fun r => r.nd.id).Nodup := by
  unfold List.Nodup
  rw [List.pairwise_map]
  exact h.imp fun {a b} h => by omega
theorem cnt_names {st : St} (f : Full st) : cntL st.ns = ((st.ns.map fun r => r.nd.id).map fun k => st.names k).sum :=
  cntL_names (rise_nodup f.rise) fun r hr e he => by
    obtain ⟨x, hx, _⟩ := (f.ent r hr e he).node
    exact List.mem_map.2 ⟨x, findN_mem hx, findN_id hx⟩
theorem sum_le {l : List Int} {g : Int → Nat} (h : ∀ k ∈ l, g k ≤ 16) : (l.map g).sum ≤ l.length * 16 := by
  induction l with
  | nil => simp
  | cons a l ih =>
    have h1 := ih fun k hk => h k (List.mem_cons_of_mem _ hk)
    have h2 := h a (List.mem_cons_self ..)
    rw [List.map_cons, List.sum_cons, List.length_cons]
    omega
theorem cnt_le {st : St} (f : Full st) : cntL st.ns ≤ 8192 := by
  rw [cnt_names f]
  refine Nat.le_trans (sum_le fun k hk => ?_) ?_
  · obtain ⟨r, hr, rfl⟩ := List.mem_map.1 hk
    have h1 := f.cnt _ r (f.get_mem hr)
    have h2 := valid_lk (f.val r hr)
    omega
  · rw [List.length_map]
    have := f.len
    omega
theorem cntL_take (l : List NR) (j : Nat) (h : j < l.length) : cntL (l.take (j + 1)) = cntL (l.take j) + l[j].ents.length := by
  unfold cntL
  rw [List.take_succ_eq_append_getElem h, List.map_append, List.sum_append]
  simp
theorem cntL_take_le (l : List NR) (j : Nat) : cntL (l.take j) ≤ cntL l := by
  conv => rhs; rw [← List.take_append_drop j l]
  unfold cntL
  rw [List.map_append, List.sum_append]
  omega
theorem count_cntL (st : St) : st.count = (cntL st.ns : Int) := by
  unfold St.count cntL
  generalize st.ns = l
  induction l with
  | nil => rfl
  | cons r l ih => rw [List.map_cons, List.sum_cons, List.map_cons, List.sum_cons, ih]; omega
end Go.Proofs.YtjekpbkmhgfhoaaGreatDoor
end
