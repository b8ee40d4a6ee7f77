/- The walks of package dir: From, by slices.DeleteFunc and slices.Clone at entries. -/
import Derived.Test.YthominkfjfnkbaaDoorDirList
import Derived.Test.YthominkfjfnkbaaDoorNameLaw
import Derived.Test.YthominkfjfnkbaaDoorApp
import Derived.Laws.CopyRow
namespace Go.Proofs.YthominkfjfnkbaaDoor
open Go Go.RowKit
set_option maxRecDepth 100000
set_option linter.unusedSimpArgs false
theorem tx_leq (t : TypeId) (a b : ByteArray) : binOp .leq t (.string a) (.string b) = pure (.bool (Op.bytesLess a.toList b.toList || a.toList == b.toList)) := by simp [binOp, Op.stringOp]
attribute [local go_sem] giv tx_leq
variable {E : Nat → Addr} {B : Nat}

/-- Is an entry behind a name? -/
def behB (s : ByteArray) (e : En) : Bool := decide (s.data.toList < e.name.data.toList)
theorem leq_val (x s : ByteArray) : (Op.bytesLess x.toList s.toList || x.toList == s.toList) = !decide (s.data.toList < x.data.toList) := by
  rw [bytesLess_eq, Lib.toList_data, Lib.toList_data]
  by_cases h : nmLt s x
  · rw [decide_eq_true (show s.data.toList < x.data.toList from h)]
    have h1 : ¬ nmLt x s := fun k => nmLt_irrefl _ (nmLt_trans h k)
    have h2 : ¬ x.data.toList = s.data.toList := fun k => by rw [nm_ext k] at h; exact nmLt_irrefl _ h
    rw [decide_eq_false (show ¬ x.data.toList < s.data.toList from h1)]
    simpa using h2
  · rw [decide_eq_false (show ¬ s.data.toList < x.data.toList from h)]
    rcases nmLt_tri x s with k | k | k
    · rw [decide_eq_true (show x.data.toList < s.data.toList from k)]; rfl
    · subst k; simp
    · exact (h k).elim

theorem drop_filter {α : Type} (p : α → Bool) : ∀ (l : List α) (c : Nat), (∀ (j : Nat) x, l[j]? = some x → j < c → p x = false) → (∀ (j : Nat) x, l[j]? = some x → c ≤ j → p x = true) → l.drop c = l.filter p
  | [], c, _, _ => by simp
  | x :: l, 0, _, h2 => by
    rw [List.drop_zero, List.filter_cons, if_pos (h2 0 x (by simp) (Nat.zero_le _))]
    congr 1
    exact drop_filter p l 0 (fun j y hj hl => by omega) (fun j y hj _ => h2 (j + 1) y (by simpa using hj) (Nat.zero_le _)) |>.symm ▸ (by simp)
  | x :: l, c + 1, h1, h2 => by
    rw [List.drop_succ_cons, List.filter_cons, if_neg (by rw [h1 0 x (by simp) (by omega)]; simp)]
    exact drop_filter p l c (fun j y hj hl => h1 (j + 1) y (by simpa using hj) (by omega)) (fun j y hj hl => h2 (j + 1) y (by simpa using hj) (by omega))
theorem mono_split {α : Type} (p : α → Bool) (l : List α) (hm : ∀ (i j : Nat) (x y : α), i ≤ j → l[i]? = some x → l[j]? = some y → p x = true → p y = true) :
    ∃ c, c ≤ l.length ∧ (∀ (j : Nat) x, l[j]? = some x → j < c → p x = false) ∧ (∀ (j : Nat) x, l[j]? = some x → c ≤ j → p x = true) := by
  induction l with
  | nil => exact ⟨0, Nat.le_refl _, fun j x hj => by simp at hj, fun j x hj => by simp at hj⟩
  | cons a l ih =>
    by_cases ha : p a = true
    · exact ⟨0, Nat.zero_le _, fun j x _ h => by omega, fun j x hj _ => hm 0 j a x (Nat.zero_le _) (by simp) hj ha⟩
    · obtain ⟨c, h0, h1, h2⟩ := ih (fun i j x y hij hi hj => hm (i + 1) (j + 1) x y (by omega) (by simpa using hi) (by simpa using hj))
      refine ⟨c + 1, by simpa using h0, fun j x hj hl => ?_, fun j x hj hl => ?_⟩
      · cases j with
        | zero => simp at hj; subst hj; simpa using ha
        | succ j => exact h1 j x (by simpa using hj) (by omega)
      · cases j with
        | zero => omega
        | succ j => exact h2 j x (by simpa using hj) (by omega)

theorem from1_any {w : World} (e : En) {bs : Nat} {after : ByteArray} (hc : w.cell? ⟨bs, 0, none⟩ = some (.string after)) (hl : bs < w.heap.size) :
    Calls Tryd.prog 104 #[encE e, .pointer (some ⟨bs, 0, none⟩)] w fun x w' => x = .returned (.bool (!behB after e)) ∧ Below w.heap.size w w' := by
  obtain ⟨e1, e2, e3⟩ := e
  have hv := leq_val e1 after
  have hv2 : (!behB after ⟨e1, e2, e3⟩) = (!decide (after.data.toList < e1.data.toList)) := rfl
  rw [hv2, ← hv]
  clear hv hv2
  unfold encE
  go_enter Tryd.func104, Tryd.ntmps104
  go_wp2
  go_ret
  exact ⟨rfl, bl_alloc (Below.refl _ _) _⟩

set_option maxHeartbeats 1000000 in
theorem indexfunc_any {w : World} {v : Value} {l : List En} (r : RdEn w v l) (hlen : l.length ≤ 1000000) {bs c : Nat} {after : ByteArray} (hc : w.cell? ⟨bs, 0, none⟩ = some (.string after)) (hl : bs < w.heap.size)
    (h1 : ∀ (j : Nat) x, l[j]? = some x → j < c → behB after x = false) (h2 : ∀ (j : Nat) x, l[j]? = some x → c ≤ j → behB after x = true) (hcl : c ≤ l.length) :
    Calls Tryd.prog 126 #[v, .func (.func 104) #[] #[.pointer (some ⟨bs, 0, none⟩)]] w fun e w' => e = .returned (.int .i64 (if c = 0 then -1 else 0)) ∧ Below w.heap.size w w' := by
  obtain ⟨sp, cap, rfl, hcap⟩ := RdE.shape r
  generalize hres : (if c = 0 then (-1 : Int) else 0) = res
  have HRES := Lib.hid hres
  have HR := Lib.hid r
  have HC := Lib.hid hc
  have H1 := Lib.hid h1
  have H2 := Lib.hid h2
  clear hres r hc h1 h2
  go_enter Tryd.func126, Tryd.ntmps126
  go_wp2
  go_loopw [5, 8] (fun _ v wr => ∃ j : Nat, j ≤ l.length ∧ v = .int .i64 j ∧ (0 < j → c = 0) ∧ Hid (Below w.heap.size w wr)) (fun _ v _ => l.length - (intOf v).toNat)
  case atStart => exact ⟨0, Nat.zero_le _, rfl, fun h => by omega, Lib.hid (Below.refl _ _)⟩
  case round =>
    obtain ⟨j, hj, rfl, hz, HI⟩ := hrel
    by_cases hlt : j < l.length
    · obtain ⟨h, off, hsp, hh, hcs⟩ : ∃ h off, sp = some ⟨h, off, none⟩ ∧ h < w.heap.size ∧ ∀ i, i < 3 → w.cell? ⟨h, off + j * 3 + i, none⟩ = (encEl l[j])[i]? := by
        obtain ⟨sp', cap', he, _, _, h3⟩ := HR.out
        injection he with e1 e2 e3
        subst e1
        obtain ⟨h, off, h4, h5, h6⟩ := h3 (by rintro rfl; simp at hlt)
        refine ⟨h, off, h4, h5, fun i hi => ?_⟩
        rw [h6 j i hlt hi, List.getElem?_eq_getElem hlt]; rfl
      subst hsp
      have d : ∀ i, i < 3 → wr.cell? ⟨h, off + j * 3 + i, none⟩ = (encEl l[j])[i]? := fun i hi => (HI.out.cell (p := ⟨h, off + j * 3 + i, none⟩) hh).trans (hcs i hi)
      have d0 := d 0 (by omega)
      have d1 := d 1 (by omega)
      have d2 := d 2 (by omega)
      have HA1 := Lib.hid (H1.out j l[j] (List.getElem?_eq_getElem hlt))
      have HA2 := Lib.hid (H2.out j l[j] (List.getElem?_eq_getElem hlt))
      clear d hcs
      generalize l[j] = x at *
      obtain ⟨x1, x2, x3⟩ := x
      simp only [encEl, List.getElem?_cons_zero, List.getElem?_cons_succ, Nat.add_zero] at d0 d1 d2
      have hj0 : (0 : Int) ≤ (j : Int) := by omega
      have hj1 : (j : Int) < (l.length : Int) := by omega
      have hcw : Hid (wr.cell? ⟨bs, 0, none⟩ = some (.string after)) := Lib.hid ((HI.out.cell (p := ⟨bs, 0, none⟩) hl).trans HC.out)
      have hlw : bs < wr.heap.size := by have := HI.out.size; omega
      have HZ := Lib.hid hz
      clear hz
      go_wp2_with fail
      refine (from1_any ⟨x1, x2, x3⟩ hcw.out hlw).mono ?_
      rintro e w2 ⟨rfl, hb2⟩
      have HB2 := Lib.hid (HI.out.trans (hb2.mono HI.out.size))
      clear hb2
      by_cases hjc : j < c
      · rw [HA1.out hjc]
        have hj00 : j = 0 := by
          rcases Nat.eq_zero_or_pos j with h | h
          · exact h
          · have := HZ.out h; omega
        have hr : res = 0 := by rw [← HRES.out, if_neg (by omega)]
        subst hr hj00
        go_wp2
        go_ret
        exact ⟨rfl, HB2.out⟩
      · rw [HA2.out (by omega)]
        have hc0 : c = 0 := by
          rcases Nat.eq_zero_or_pos j with h | h
          · omega
          · exact HZ.out h
        go_wp2
        go_roundw
        case rel => exact ⟨j + 1, by omega, by first | go_num | exact congrArg (Value.int .i64) (wrap_next (by omega)), fun _ => hc0, HB2⟩
        case measure => (simp [intOf]; try unfold wrap64); omega
    · obtain rfl : j = l.length := by omega
      have hr : res = -1 := by
        rw [← HRES.out, if_pos]
        rcases Nat.eq_zero_or_pos l.length with h | h
        · omega
        · exact hz h
      subst hr
      clear hz
      go_wp2
      go_ret
      exact ⟨rfl, HI.out⟩

/-- 'clear(s[i:])'. -/
theorem run_clear_own {α : Type} {P : Program} {w : World} {base : Nat} {e t : TypeId} {k : Nat} {enc : α → List Value} (ht : P.underlying t = some (.slice e)) {z : Value} (hz : ∀ w, (zeroValue e).run P w = .ok z w) (hzs : z.cells.size = k) (hz1 : ∀ u ∈ z.cells.toList, u.oneCell' = true)
    (hl : ∀ x, (enc x).length = k) (hk : 0 < k) {g cap : Nat} {xs : List α} (h : SlE w base e k enc (.slice (some ⟨g, 0, none⟩) xs.length cap) xs) {i : Nat} (hi : i < xs.length) (c : Nat) :
    ∃ w', (∀ ty, (Builtin.clear_ #[t] ty #[.slice (some ⟨g, i * k, none⟩) (xs.length - i) c]).run P w = .ok (.tuple #[]) w') ∧ SlE w' base e k enc (.slice (some ⟨g, 0, none⟩) i cap) (xs.take i) ∧ Touch (fun x => x = g) w w' := by
  rcases h.2 with ⟨h3, _⟩ | ⟨g', cap', cur, h3, h4, h5, h6, h7, h8, h9⟩
  · cases h3
  injection h3 with e1 e2 e3
  injection e1 with e1
  injection e1 with e1
  subst e1 e3
  have hlen : (xs.take i).length = i := by rw [List.length_take]; omega
  have hmul : i * k + (xs.length - i) * k = xs.length * k := by rw [← Nat.add_mul]; congr 1; omega
  have hmul2 : xs.length * k ≤ cap * k := Nat.mul_le_mul_right _ h6
  have hzl : (Builtin.zeroCells z.cells (xs.length - i)).toList.length = (xs.length - i) * k := by rw [Array.length_toList, size_zeroCells, hzs]
  have hone : ∀ v ∈ (Builtin.zeroCells z.cells (xs.length - i)).toList, v.oneCell' = true := by
    intro v hv
    obtain ⟨m, hm, rfl⟩ := List.getElem_of_mem hv
    have hml : m < (xs.length - i) * k := by rw [← hzl]; exact hm
    have hmod : m % z.cells.size < z.cells.size := Nat.mod_lt _ (by omega)
    have : (Builtin.zeroCells z.cells (xs.length - i)).toList[m] = z.cells[m % z.cells.size] := by
      simp [Builtin.zeroCells, Nat.mod_lt, hmod]
    rw [this]
    exact hz1 _ (by simp)
  have hst := run_storeCells_at (P := P) g (i * k) e (Builtin.zeroCells z.cells (xs.length - i)).toList 0 cur w h5 (by rw [hzl]; omega) hone
  obtain ⟨m, hm⟩ : ∃ m, xs.length - i = m + 1 := ⟨xs.length - i - 1, by omega⟩
  refine ⟨w.setRow g (cur.toList.take (i * k) ++ (Builtin.zeroCells z.cells (xs.length - i)).toList ++ cur.toList.drop (i * k + (Builtin.zeroCells z.cells (xs.length - i)).toList.length)).toArray, ?_, ⟨by rw [flat_len hl], .inr ⟨g, cap, _, by rw [hlen], h4, setRow_heap w g cur _ e _ h5, by rw [hlen]; omega, h7, ?_, ?_⟩⟩, ⟨rfl, rfl, rfl, by simp [World.setRow], fun x _ hne => setRow_other w g x _ hne⟩⟩
  · intro ty
    simp only [Nat.add_zero] at hst
    rw [hm] at hst ⊢
    simp [Builtin.clear_, run_underlying ht, hz, hst]
  · simp only [List.size_toArray, List.length_append, List.length_take, List.length_drop, Array.length_toList, hzl]
    omega
  · rw [List.append_assoc, List.take_append_of_le_length (by rw [hlen, List.length_take, Array.length_toList]; omega), List.take_take, hlen, Nat.min_self]
    have hf : flat enc xs = flat enc (xs.take i) ++ flat enc (xs.drop i) := by rw [← flat_append, List.take_append_drop]
    have h10 := congrArg (List.take (flat enc (xs.take i)).length) h9
    rw [hf, List.take_left, List.take_take, flat_len hl, hlen, Nat.min_eq_left (by omega)] at h10
    exact h10

theorem wpList_clr {P : Program} {w : World} {ops : Array Oper} {rest : List Oper} {o : Oper} {a : Act} {Q : Exit → Act → World → Prop} (hg : o.guard = none) (s : Operand) (t : TypeId)
    (ho : o.op = .call { callee := .builtin .clear, args := #[s], argTypes := #[t] }) {v : Value} (hs : a.eval s = v) {w' : World} (hrun : (Builtin.clear_ #[t] o.type #[v]).run P w = .ok (.tuple #[]) w') (h : wpList P ops Q rest (a.put o.dst (.tuple #[])) w') :
    wpList P ops Q (o :: rest) a w := by
  refine wpList_plain hg fun K hK => ?_
  unfold Oper.wp
  simp [execOp, ho, resolve, invoke, builtin, hs, hrun, Result.andThen]
  exact hK _ _ h

/-- The list in the midst of DeleteFunc: c are gone from its head. -/
def midL (l : List En) (c j : Nat) : List En := (l.drop c).take (j - c) ++ l.drop (j - c)
theorem midL_len {l : List En} {c j : Nat} (hc : c ≤ l.length) (hj : j ≤ l.length) : (midL l c j).length = l.length := by
  unfold midL
  rw [List.length_append, List.length_take, List.length_drop, List.length_drop]
  omega
theorem midL_at {l : List En} {c j : Nat} (hj : j < l.length) (hcj : c ≤ j) : (midL l c j)[j]? = l[j]? := by
  unfold midL
  rw [List.getElem?_append_right (by rw [List.length_take, List.length_drop]; omega), List.length_take, List.length_drop, List.getElem?_drop]
  congr 1
  omega
theorem midL_at' {l : List En} {c j : Nat} (hj : j < l.length) : (midL l c j)[j]? = l[j]? := by
  by_cases hcj : c ≤ j
  · exact midL_at hj hcj
  · unfold midL
    rw [show j - c = 0 by omega, List.take_zero, List.nil_append, List.drop_zero]
theorem midL_stay {l : List En} {c j : Nat} (h : j < c) : midL l c (j + 1) = midL l c j := by
  unfold midL
  rw [show j + 1 - c = 0 by omega, show j - c = 0 by omega]
theorem midL_step {l : List En} {c j : Nat} (hj : j < l.length) (hcj : c ≤ j) : (midL l c j).set (j - c) l[j] = midL l c (j + 1) := by
  unfold midL
  have h1 : (l.drop c).take (j + 1 - c) = (l.drop c).take (j - c) ++ [l[j]] := by
    rw [show j + 1 - c = (j - c) + 1 by omega, List.take_succ_eq_append_getElem (by rw [List.length_drop]; omega), List.getElem_drop]
    congr 3
    omega
  have h2 : l.drop (j - c) = l[j - c] :: l.drop (j + 1 - c) := by
    rw [List.drop_eq_getElem_cons (by omega), show j - c + 1 = j + 1 - c by omega]
  have h3 : ((l.drop c).take (j - c)).length = j - c := by rw [List.length_take, List.length_drop]; omega
  rw [h1, h2, List.set_append_right _ _ (by omega), h3, Nat.sub_self, List.set_cons_zero, List.append_assoc, List.singleton_append]
theorem midL_end {l : List En} {c : Nat} (hc : c ≤ l.length) : (midL l c l.length).take (l.length - c) = l.drop c := by
  unfold midL
  have h3 : ((l.drop c).take (l.length - c)).length = l.length - c := by rw [List.length_take, List.length_drop]; omega
  rw [List.take_left' h3, List.take_of_length_le (by rw [List.length_drop]; omega)]
theorem ent_info : ∀ w, (zeroValue 84).run Tryd.prog w = .ok (.agg #[.string { data := #[] }, .int .i64 0, .int .i64 0]) w := fun w => by kernel_rfl

theorem SlE.cutE {α : Type} {w : World} {base : Nat} {e : TypeId} {k : Nat} {enc : α → List Value} {sp : Option Addr} {n cap : Nat} {xs : List α} (h : SlE w base e k enc (.slice sp n cap) xs) (hl : ∀ x, (enc x).length = k) {j : Nat} (hj : j ≤ xs.length) :
    SlE w base e k enc (.slice sp j cap) (xs.take j) := by
  have hlen : (xs.take j).length = j := by rw [List.length_take]; omega
  refine ⟨by rw [flat_len hl], ?_⟩
  rcases h.2 with ⟨h3, h4⟩ | ⟨g, cap', cur, h3, h4, h5, h6, h7, h8, h9⟩
  · injection h3 with e1 e2 e3
    subst e1 e3
    have : j = 0 := by omega
    subst this
    exact .inl ⟨by simp, by simp⟩
  · injection h3 with e1 e2 e3
    subst e1 e3
    refine .inr ⟨g, cap, cur, by rw [hlen], h4, h5, by omega, h7, h8, ?_⟩
    have hf : flat enc xs = flat enc (xs.take j) ++ flat enc (xs.drop j) := by rw [← flat_append, List.take_append_drop]
    have h10 := congrArg (List.take (flat enc (xs.take j)).length) h9
    rw [hf] at h10
    rw [List.take_left, List.take_take, flat_len hl, Nat.min_eq_left (Nat.mul_le_mul_right _ (by omega))] at h10
    exact h10
theorem SlE.ne {α : Type} {w : World} {base : Nat} {e : TypeId} {k : Nat} {enc : α → List Value} {v : Value} {xs : List α} (h : SlE w base e k enc v xs) (hx : xs ≠ []) : ∃ g cap, v = .slice (some ⟨g, 0, none⟩) xs.length cap ∧ base ≤ g ∧ g < w.heap.size ∧ xs.length ≤ cap := by
  rcases h.cases with ⟨_, h2⟩ | ⟨g, cap, h1, h2, h3, h4, _⟩
  · exact (hx h2).elim
  · exact ⟨g, cap, h1, h2, h3, h4⟩

set_option maxHeartbeats 2000000 in
theorem delfunc_any {w : World} {base : Nat} {v : Value} {l : List En} (hs : SlEn w base v l) (hlen : l.length ≤ 1000000) (hbase : base ≤ w.heap.size) {bs c : Nat} {after : ByteArray} (hc : w.cell? ⟨bs, 0, none⟩ = some (.string after)) (hl : bs < base)
    (h1 : ∀ (j : Nat) x, l[j]? = some x → j < c → behB after x = false) (h2 : ∀ (j : Nat) x, l[j]? = some x → c ≤ j → behB after x = true) (hcl : c ≤ l.length) :
    Calls Tryd.prog 103 #[v, .func (.func 104) #[] #[.pointer (some ⟨bs, 0, none⟩)]] w fun e w' => (∃ u, e = .returned u ∧ SlEn w' base u (l.drop c)) ∧ Below base w w' := by
  obtain ⟨sp, cap, hv, hcap⟩ := RdE.shape (hs.rd encEl_len)
  have HIX := Lib.hid (indexfunc_any (hs.rd encEl_len) hlen hc (Nat.lt_of_lt_of_le hl hbase) h1 h2 hcl)
  have HS := Lib.hid hs
  have HC := Lib.hid hc
  have H1 := Lib.hid h1
  have H2 := Lib.hid h2
  clear hs hc h1 h2
  subst hv
  by_cases hc0 : c = 0
  · have hr : (if c = 0 then (-1 : Int) else 0) = -1 := by rw [if_pos hc0]
    rw [hr] at HIX
    go_enter Tryd.func103, Tryd.ntmps103
    go_wp2_with fail
    refine HIX.out.mono ?_
    rintro e w2 ⟨rfl, hb2⟩
    have HS2 := Lib.hid (HS.out.below hb2)
    have HB2 := Lib.hid (hb2.mono hbase)
    have HC0 := Lib.hid hc0
    clear hb2 hr hc0
    go_wp2
    go_ret
    exact ⟨⟨_, rfl, by rw [HC0.out, List.drop_zero]; exact HS2.out⟩, HB2.out⟩
  have hr : (if c = 0 then (-1 : Int) else 0) = 0 := by rw [if_neg hc0]
  rw [hr] at HIX
  obtain ⟨g, cap', hv, hbg, hgl, hcap'⟩ := SlE.ne HS.out (by rintro rfl; simp at hcl; omega)
  injection hv with e1 e2 e3
  subst e1 e3
  clear e2 hcap'
  go_enter Tryd.func103, Tryd.ntmps103
  go_wp2_with fail
  refine HIX.out.mono ?_
  rintro e w2 ⟨rfl, hb2⟩
  have HM0 : Hid (midL l c 1 = l) := Lib.hid (by unfold midL; rw [show 1 - c = 0 by omega]; simp)
  have HS2 := Lib.hid (HS.out.below hb2)
  have HB2 := Lib.hid (hb2.mono hbase)
  have HC2 : Hid (w2.cell? ⟨bs, 0, none⟩ = some (.string after)) := Lib.hid ((HB2.out.cell (p := ⟨bs, 0, none⟩) hl).trans HC.out)
  have hbs2 : base ≤ w2.heap.size := by have := hb2.size; omega
  have hgl2 : g < w2.heap.size := by have := hb2.size; omega
  clear hb2 hr HIX HC
  go_wp2_with fail
  go_loopw [5, 6, 7] (fun i v _ wr => ∃ j : Nat, 1 ≤ j ∧ j ≤ l.length ∧ v = .int .i64 j ∧ i = .int .i64 (j - c : Nat) ∧ Hid (SlEn wr base (.slice (some ⟨g, 0, none⟩) l.length cap) (midL l c j) ∧ Below base w2 wr)) (fun _ v _ _ => l.length - (intOf v).toNat)
  case atStart => exact ⟨1, Nat.le_refl _, by omega, rfl, by rw [show 1 - c = 0 by omega]; rfl, Lib.hid ⟨by rw [HM0.out]; exact HS2.out, Below.refl _ _⟩⟩
  case round =>
    obtain ⟨j, hj1, hj, rfl, rfl, HI⟩ := hrel
    have hj0 : (0 : Int) ≤ (j : Int) := by omega
    have hwz : base ≤ wr.heap.size := by have := HI.out.2.size; omega
    have hgw : g < wr.heap.size := by have := HI.out.2.size; omega
    by_cases hlt : j < l.length
    · have hml : (midL l c j).length = l.length := midL_len hcl hj
      have HML := Lib.hid hml
      have hcells : ∀ (i : Nat) (x : En), (midL l c j)[i]? = some x → ∀ q, q < 3 → wr.cell? ⟨g, i * 3 + q, none⟩ = (encEl x)[q]? := by
        intro i x hx q hq
        obtain ⟨sp', cap', he, _, _, h3⟩ := HI.out.1.rd encEl_len
        injection he with e1 e2 e3
        subst e1
        have hil : i < (midL l c j).length := (List.getElem?_eq_some_iff.1 hx).1
        obtain ⟨h, off, h4, _, h6⟩ := h3 (by intro h0; rw [h0] at hil; simp at hil)
        injection h4 with h4
        injection h4 with h4 h5
        subst h4 h5
        have := h6 i q hil hq
        rw [Nat.zero_add] at this
        rw [this, hx]; rfl
      have HCELL := Lib.hid hcells
      have hjx := midL_at' (c := c) hlt
      rw [List.getElem?_eq_getElem hlt] at hjx
      have d := hcells j _ hjx
      have d0 := d 0 (by omega)
      have d1 := d 1 (by omega)
      have d2 := d 2 (by omega)
      have HA1 := Lib.hid (H1.out j l[j] (List.getElem?_eq_getElem hlt))
      have HA2 := Lib.hid (H2.out j l[j] (List.getElem?_eq_getElem hlt))
      have HST := Lib.hid (fun h => midL_step (c := c) hlt h)
      clear d hcells hjx hml
      generalize l[j] = x at *
      obtain ⟨x1, x2, x3⟩ := x
      simp only [encEl, List.getElem?_cons_zero, List.getElem?_cons_succ, Nat.add_zero] at d0 d1 d2
      have hj1' : (j : Int) < (l.length : Int) := by omega
      have hcw : Hid ((wr.alloc (.cells #[.string x1, .int .i64 x2, .int .i64 x3] 84)).cell? ⟨bs, 0, none⟩ = some (.string after)) := Lib.hid (by
        rw [(bl_alloc (Below.refl _ wr) _).cell (p := ⟨bs, 0, none⟩) (show bs < wr.heap.size by omega)]
        exact (HI.out.2.cell (p := ⟨bs, 0, none⟩) hl).trans HC2.out)
      have HSA := Lib.hid (HI.out.1.below (bl_alloc (Below.refl _ wr) (.cells #[.string x1, .int .i64 x2, .int .i64 x3] 84)))
      have HBA := Lib.hid (HI.out.2.trans ((bl_alloc (Below.refl _ wr) (.cells #[.string x1, .int .i64 x2, .int .i64 x3] 84)).mono hwz))
      have HRA : Hid (Row (wr.alloc (.cells #[.string x1, .int .i64 x2, .int .i64 x3] 84)) wr.heap.size 84 (encEl ⟨x1, x2, x3⟩)) := Lib.hid (Row.new wr 84 (encEl ⟨x1, x2, x3⟩))
      have hbsl : bs < (wr.alloc (.cells #[.string x1, .int .i64 x2, .int .i64 x3] 84)).heap.size := by simp; omega
      go_wp2_with fail
      clear d0 d1 d2
      generalize wr.alloc (.cells #[.string x1, .int .i64 x2, .int .i64 x3] 84) = wa at *
      generalize hbn : wr.heap.size = bn at *
      have HBN := Lib.hid hbn
      clear hbn
      refine (from1_any ⟨x1, x2, x3⟩ hcw.out hbsl).mono ?_
      rintro e w3 ⟨rfl, hb3⟩
      have HS3 := Lib.hid (HSA.out.below hb3)
      have HB3 := Lib.hid (HBA.out.trans (hb3.mono (by have := HBA.out.size; omega)))
      have HR3 := Lib.hid (HRA.out.below hb3)
      clear hb3 HSA HBA HRA hcw
      have HW : Hid (wrap64 ((j : Int) + 1) = ((j + 1 : Nat) : Int)) := Lib.hid (wrap_next (by omega))
      by_cases hjc : j < c
      · rw [HA1.out hjc]
        have HSTY := Lib.hid (midL_stay (l := l) hjc)
        go_wp2
        go_roundw
        case rel => exact ⟨j + 1, by omega, by omega, by first | go_num | exact congrArg (Value.int .i64) HW.out, by rw [show j + 1 - c = j - c by omega], Lib.hid ⟨by rw [HSTY.out]; exact HS3.out, HB3.out⟩⟩
        case measure => (simp [intOf]; try unfold wrap64); omega
      · rw [HA2.out (by omega)]
        obtain ⟨i, hi⟩ : ∃ i, i = j - c := ⟨_, rfl⟩
        rw [← hi]
        have hil : i < l.length := by omega
        have hi0 : (0 : Int) ≤ (i : Int) := by omega
        have hi1 : (i : Int) < (l.length : Int) := by omega
        have HII := Lib.hid hi
        have hy : (midL l c j)[i]? = some ((midL l c j)[i]'(by have := HML.out; omega)) := List.getElem?_eq_getElem _
        obtain ⟨y, hy'⟩ : ∃ y, (midL l c j)[i]? = some y := ⟨_, hy⟩
        obtain ⟨y1, y2, y3⟩ := y
        have s1 := HS3.out.set encEl_len rfl hy' (j := 0) (y := ⟨x1, y2, y3⟩) (u := .string x1) (by omega) rfl
        have s2 := s1.set encEl_len rfl (i := i) (x := ⟨x1, y2, y3⟩) (j := 1) (y := ⟨x1, x2, y3⟩) (u := .int .i64 x2) (by rw [List.getElem?_set_self (by have := HML.out; omega)]) (by omega) rfl
        have s3 := s2.set encEl_len rfl (i := i) (x := ⟨x1, x2, y3⟩) (j := 2) (y := ⟨x1, x2, x3⟩) (u := .int .i64 x3) (by rw [List.set_set, List.getElem?_set_self (by have := HML.out; omega)]) (by omega) rfl
        rw [List.set_set, List.set_set, hi, HST.out (by omega), ← hi] at s3
        have HS4 := Lib.hid s3
        have k : ∀ q, q < 3 → w3.cell? ⟨g, i * 3 + q, none⟩ = (encEl ⟨y1, y2, y3⟩)[q]? := by
          intro q hq
          obtain ⟨sp', cap', he, _, _, h3⟩ := HS3.out.rd encEl_len
          injection he with e1 e2 e3
          subst e1
          have hil' : i < (midL l c j).length := (List.getElem?_eq_some_iff.1 hy').1
          obtain ⟨h, off, h4, _, h6⟩ := h3 (by intro h0; rw [h0] at hil'; simp at hil')
          injection h4 with h4
          injection h4 with h4 h5
          subst h4 h5
          have := h6 i q hil' hq
          rw [Nat.zero_add] at this
          rw [this, hy']; rfl
        have k0 := k 0 (by omega)
        have k1 := k 1 (by omega)
        have k2 := k 2 (by omega)
        simp only [encEl, List.getElem?_cons_zero, List.getElem?_cons_succ, Nat.add_zero] at k0 k1 k2
        have f0 := HS3.out.froz (g := g) rfl (i * 3)
        have f1 := HS3.out.froz (g := g) rfl (i * 3 + 1)
        have f2 := HS3.out.froz (g := g) rfl (i * 3 + 2)
        have r0 := HR3.out.cell 0
        have r1 := HR3.out.cell 1
        have r2 := HR3.out.cell 2
        simp only [encEl, List.getElem?_cons_zero, List.getElem?_cons_succ] at r0 r1 r2
        have HWI : Hid (wrap64 ((i : Int) + 1) = ((i + 1 : Nat) : Int)) := Lib.hid (wrap_next (by omega))
        clear s1 s2 s3 k hy hy' hi
        go_wp2
        go_roundw
        case rel => exact ⟨j + 1, by omega, by omega, by first | go_num | exact congrArg (Value.int .i64) HW.out, by rw [show j + 1 - c = i + 1 by have := HII.out; omega]; first | go_num | exact congrArg (Value.int .i64) HWI.out, Lib.hid ⟨HS4.out, ((HB3.out.setCell (p := ⟨g, _, none⟩) hbg _).setCell (p := ⟨g, _, none⟩) hbg _).setCell (p := ⟨g, _, none⟩) hbg _⟩⟩
        case measure => (simp [intOf]; try unfold wrap64); omega
    · obtain rfl : j = l.length := by omega
      have hml : (midL l c l.length).length = l.length := midL_len hcl (Nat.le_refl _)
      obtain ⟨i, hi⟩ : ∃ i, i = l.length - c := ⟨_, rfl⟩
      rw [← hi]
      have hil : i < l.length := by omega
      have hsl := HI.out.1
      have hicap : i ≤ cap := by omega
      obtain ⟨w5, hrun, hs5, ht5⟩ := run_clear_own (P := Tryd.prog) (t := 85) (k := 3) Tryd.underlying85 ent_info rfl (by intro u hu; simp [Value.cells] at hu; rcases hu with rfl | rfl | rfl <;> rfl) encEl_len (by omega) (xs := midL l c l.length) (g := g) (cap := cap) (by rw [hml]; exact hsl) (i := i) (by rw [hml]; exact hil) (cap - i)
      rw [hml] at hrun
      have hr0 := hrun 0
      have HS5 : Hid (SlEn w5 base (.slice (some ⟨g, 0, none⟩) i cap) (l.drop c)) := Lib.hid (by have := hs5; rw [hi, midL_end hcl, ← hi] at this; exact this)
      have HB5 := Lib.hid (HB2.out.trans (HI.out.2.trans (ht5.below hwz (fun x hx => by subst hx; exact hbg))))
      have hi0 : (0 : Int) ≤ (i : Int) := by omega
      have hi1 : (i : Int) ≤ (l.length : Int) := by omega
      have hne : (cap = i) = False := by simp; omega
      clear hrun hs5 ht5 hml hsl hi
      go_wp2
      go_ret
      exact ⟨⟨_, rfl, HS5.out⟩, HB5.out⟩

theorem SlE.made0 {α : Type} (w : World) (e : TypeId) (k : Nat) (enc : α → List Value) : SlE (w.alloc (.cells #[] e)) w.heap.size e k enc (.slice (some ⟨w.heap.size, 0, none⟩) 0 0) [] :=
  ⟨by simp [flat], .inr ⟨w.heap.size, 0, #[], rfl, Nat.le_refl _, World.alloc_heap_new w _, Nat.le_refl _, Nat.zero_le _, by simp, by simp [flat]⟩⟩

set_option maxHeartbeats 1000000 in
theorem eclone_any {w : World} {v : Value} {l : List En} (r : RdEn w v l) (hlen : l.length ≤ 1000000) :
    Calls Tryd.prog 105 #[v] w fun e w' => (∃ u, e = .returned u ∧ SlEn w' w.heap.size u l) ∧ Below w.heap.size w w' := by
  obtain ⟨sp, cap, rfl, hcap⟩ := RdE.shape r
  have q : ∀ (w : World) (a : Option Addr) (n c n' c' : Nat), (binOp .eql 85 (.slice a n c) (.slice none n' c')).run Tryd.prog w = .ok (.bool a.isNone) w := fun w a n c n' c' => Lib.run_eql_slice_nil w _ _ a n c n' c' Tryd.underlying85
  have HR := Lib.hid r
  clear r
  cases sp with
  | none =>
    have hl : l = [] := List.eq_nil_of_length_eq_zero (RdE.nosp HR.out).2
    have HL := Lib.hid hl
    clear hl
    go_enter Tryd.func105, Tryd.ntmps105
    go_wp2
    go_ret
    exact ⟨⟨_, rfl, by rw [HL.out]; exact SlE.nil _ _ _ _ _⟩, Below.refl _ _⟩
  | some a =>
    have HOWN := Lib.hid (SlE.made0 (α := En) w 84 3 encEl)
    have HRD := Lib.hid (HR.out.below (bl_alloc (Below.refl _ w) (.cells #[] 84)))
    have HBS : Hid (w.heap.size ≤ (w.alloc (.cells #[] 84)).heap.size) := Lib.hid (by simp)
    have HM := Lib.hid hlen
    go_enter Tryd.func105, Tryd.ntmps105
    go_wp2_with (at_builtin; refine wpList_app entT rfl _ _ rfl rfl HOWN.out rfl HRD.out (by have := HM.out; unfold maxLen; simp; omega) (by have := HM.out; simp; omega) HBS.out ?_; intro v' w' hs' ht'; have HS' := Lib.hid hs'; have HT' := Lib.hid ht'; clear hs' ht')
    go_ret
    exact ⟨⟨_, rfl, HS'.out⟩, (bl_alloc (Below.refl _ _) _).trans (HT'.out.below (B := w.heap.size) HBS.out (fun x hx => (SlE.lt HOWN.out x hx).1))⟩

/-- The first entries behind a name; are there more? -/
def fromL (l : List En) (after : ByteArray) (num : Int) : List En × Bool :=
  if ((l.filter (behB after)).length : Int) ≤ max num 0 then (l.filter (behB after), false) else ((l.filter (behB after)).take num.toNat, true)

theorem ents_at {g : ByteArray → Option En} {ks : List ByteArray} (hk : SortedNames g ks) (hnm : ∀ k e, g k = some e → e.name = k) {i : Nat} {x : En} (hx : (entsOf g ks)[i]? = some x) : ks[i]? = some x.name := by
  unfold entsOf at hx
  rw [List.getElem?_map] at hx
  obtain ⟨k, hki, rfl⟩ := Option.map_eq_some_iff.1 hx
  have hmem := (hk.mem k).1 (List.mem_of_getElem? hki)
  obtain ⟨e, he⟩ := Option.isSome_iff_exists.1 hmem
  rw [he, Option.getD_some, hnm k e he, hki]
theorem ents_split {g : ByteArray → Option En} {ks : List ByteArray} (hk : SortedNames g ks) (hnm : ∀ k e, g k = some e → e.name = k) (after : ByteArray) :
    ∃ c, c ≤ (entsOf g ks).length ∧ (∀ (j : Nat) x, (entsOf g ks)[j]? = some x → j < c → behB after x = false) ∧ (∀ (j : Nat) x, (entsOf g ks)[j]? = some x → c ≤ j → behB after x = true) ∧ (entsOf g ks).drop c = (entsOf g ks).filter (behB after) := by
  obtain ⟨c, h0, h1, h2⟩ := mono_split (behB after) (entsOf g ks) (by
    intro i j x y hij hi hj hp
    have a := ents_at hk hnm hi
    have b := ents_at hk hnm hj
    have hp0 : after.data.toList < x.name.data.toList := of_decide_eq_true hp
    have hp : nmLt after x.name := hp0
    have goal : nmLt after y.name → behB after y = true := fun h => decide_eq_true (show after.data.toList < y.name.data.toList from h)
    refine goal ?_
    rcases Nat.eq_or_lt_of_le hij with rfl | hlt
    · rw [a] at b; injection b with b; rw [← b]; exact hp
    · obtain ⟨ia, ea⟩ := List.getElem?_eq_some_iff.1 a
      obtain ⟨ib, eb⟩ := List.getElem?_eq_some_iff.1 b
      have := List.pairwise_iff_getElem.1 hk.rise i j ia ib hlt
      rw [ea, eb] at this
      exact nmLt_trans hp this)
  exact ⟨c, h0, h1, h2, drop_filter _ _ _ h1 h2⟩

set_option maxHeartbeats 2000000 in
theorem dfrom_any {w : World} {b n : Nat} {m : Option Nat} {g : ByteArray → Option En} (h : DirAt w b m g n) (hn : n ≤ 1000000) (hsz : ∀ k, (g k).isSome = true → k.size ≤ maxLen) (hnm : ∀ k e, g k = some e → e.name = k) (after : ByteArray) (num : Int) :
    Calls Tryd.prog 72 #[.pointer (some ⟨b, 0, none⟩), .string after, .int .i64 num] w fun e w' =>
      (∃ v ks, e = .returned (.tuple #[v, .bool (fromL (entsOf g ks) after num).2]) ∧ SlEn w' w.heap.size v (fromL (entsOf g ks) after num).1 ∧ SortedNames g ks ∧ ks.length = n) ∧ Below w.heap.size w w' := by
  generalize hP : (fun (e : Ending) (w' : World) => (∃ v ks, e = .returned (.tuple #[v, .bool (fromL (entsOf g ks) after num).2]) ∧ SlEn w' w.heap.size v (fromL (entsOf g ks) after num).1 ∧ SortedNames g ks ∧ ks.length = n) ∧ Below w.heap.size w w') = Post
  have HP := Lib.hid hP
  have H0 := Lib.hid (h.below (bl_alloc (Below.refl _ w) (.cells #[.string after] 9)))
  have HSZ := Lib.hid hsz
  have HNM := Lib.hid hnm
  have HBX : Hid ((w.alloc (.cells #[.string after] 9)).cell? ⟨w.heap.size, 0, none⟩ = some (.string after)) := Lib.hid (by simp)
  have HB0 := Lib.hid (bl_alloc (Below.refl _ w) (.cells #[.string after] 9))
  have hbz : w.heap.size < (w.alloc (.cells #[.string after] 9)).heap.size := by simp
  clear hP h hsz hnm
  go_enter Tryd.func72, Tryd.ntmps72
  go_wp2_with fail
  generalize w.alloc (.cells #[.string after] 9) = w0 at *
  generalize hbs : w.heap.size = bs at *
  have HBS := Lib.hid hbs
  clear hbs
  refine (dall_any H0.out hn HSZ.out).mono ?_
  rintro e w1 ⟨⟨v, ks, rfl, hs, hk, hkl⟩, hb⟩
  obtain ⟨c, hc0, hc1, hc2, hc3⟩ := ents_split hk HNM.out after
  have hel : (entsOf g ks).length = n := by rw [entsOf_len, hkl]
  have HK := Lib.hid hk
  have HKL := Lib.hid hkl
  have HDF := Lib.hid (delfunc_any hs (by omega) hb.size ((hb.cell (p := ⟨bs, 0, none⟩) hbz).trans HBX.out) hbz hc1 hc2 hc0)
  rw [hc3] at HDF
  have HB1 := Lib.hid hb
  have hrl : ((entsOf g ks).filter (behB after)).length ≤ n := by rw [← hel]; exact List.length_filter_le _ _
  have HF : Hid (fromL (entsOf g ks) after num = if (((entsOf g ks).filter (behB after)).length : Int) ≤ max num 0 then ((entsOf g ks).filter (behB after), false) else (((entsOf g ks).filter (behB after)).take num.toNat, true)) := Lib.hid rfl
  generalize (entsOf g ks).filter (behB after) = rest at *
  generalize hfl : fromL (entsOf g ks) after num = fl at *
  have HFL := Lib.hid hfl
  clear hs hk hkl hb hc0 hc1 hc2 hc3 hel hfl
  go_wp2_with fail
  refine HDF.out.mono ?_
  rintro e w2 ⟨⟨u, rfl, hs2⟩, hb2⟩
  have HS2 := Lib.hid hs2
  have HB2 := Lib.hid (HB0.out.trans ((HB1.out.trans hb2).mono (Nat.le_of_lt hbz)))
  obtain ⟨sq, cq, hu, hcq⟩ := RdE.shape (hs2.rd encEl_len)
  subst hu
  clear hs2 hb2 HDF
  by_cases hle : (rest.length : Int) ≤ max num 0
  · have hf : fl = (rest, false) := by rw [HF.out, if_pos hle]
    subst hf
    go_wp2
    rw [← HP.out]
    refine ⟨⟨.slice sq rest.length cq, ks, ?_, ?_, HK.out, HKL.out⟩, HB2.out⟩
    · rw [HFL.out]; rfl
    · rw [HFL.out]
      exact HS2.out.mono (Nat.le_of_lt hbz)
  · have hf : fl = (rest.take (max num 0).toNat, true) := by rw [HF.out, if_neg hle, show num.toNat = (max num 0).toNat by omega]
    subst hf
    have hle2 : ¬ (rest.length : Int) ≤ max num 0 := hle
    go_wp2_with fail
    refine (eclone_any (RdE.taken (HS2.out.rd encEl_len) (by omega)) (by rw [List.length_take]; omega)).mono ?_
    rintro e w3 ⟨⟨u3, rfl, hs3⟩, hb3⟩
    have HS3 := Lib.hid hs3
    have hz2 : bs ≤ w2.heap.size := by have := HB2.out.size; rw [HBS.out] at this; exact this
    have HB3 := Lib.hid (HB2.out.trans (hb3.mono hz2))
    clear hs3 hb3
    go_wp2
    rw [← HP.out]
    refine ⟨⟨u3, ks, ?_, ?_, HK.out, HKL.out⟩, HB3.out⟩
    · rw [HFL.out]; rfl
    · rw [HFL.out]
      exact HS3.out.mono hz2
end Go.Proofs.YthominkfjfnkbaaDoor
