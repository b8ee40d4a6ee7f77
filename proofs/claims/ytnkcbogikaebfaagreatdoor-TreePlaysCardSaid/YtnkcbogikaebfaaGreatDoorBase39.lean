/- Merged texts: DocMake DocMk DocSort. -/
import Derived.Test.YtnkcbogikaebfaaGreatDoorBase37
import Derived.Test.YtnkcbogikaebfaaGreatDoorBase38
import Derived.Great.BuildSlice
import Derived.Great.Walk
import Derived.Test.YtnkcbogikaebfaaGreatDoorBase31
import Derived.Great.FillDense
import Derived.Deep.MidRow
section
/- The document's make: a node more, with its entry. -/
namespace Go.Proofs.YtnkcbogikaebfaaGreatDoor
open Go Go.RowKit
set_option maxRecDepth 100000
set_option linter.unusedSimpArgs false
set_option linter.unusedVariables false
attribute [local go_sem] giv
variable {E : Nat → Addr} {B : Nat}
theorem giv_load_row {P : Program} {o : Oper} {a : Act} {w : World} {R : Value → World → Prop} (ty : TypeId) (x : Operand) (ho : o.op = .load ty x) (g : Nat) (hx : a.eval x = .pointer (some ⟨g, 0, none⟩)) (t : TypeId) (cs : Array Value) (fr : Nat × Nat) (d : TypeDesc)
    (hg : w.heap[g]? = some (.cells cs t fr)) (hu : P.underlying ty = some d) (hd : (match d with | .struct _ | .array _ _ => true | _ => false) = true) (hi : (P.info? ty).map (·.size) = some cs.size) (h : R (.agg cs) w) : giv P o a w R := by
  unfold giv
  simp only [execOp, ho, hx, Instr.loadAt, Instr.sureAddr, Sem.run_bind, Sem.run_pure, Result.andThen_ok, run_loadVar_row w g t ty cs fr d hg hu hd hi]
  exact h
theorem giv_build_slice {P : Program} {o : Oper} {a : Act} {w : World} {R : Value → World → Prop} (t e : TypeId) (len : Nat) (parts : Array (Nat × Operand)) (ho : o.op = .buildSlice t len parts) (hu : P.underlying t = some (.slice e)) (cells : Array Value)
    (hf : P.builtSlice e len (parts.map fun (i, x) => (i, a.eval x)).toList = some cells) (h : R (.slice (some ⟨w.heap.size, 0, none⟩) len len) (w.alloc (.cells cells e))) : giv P o a w R := by
  have hrun : (Instr.buildSlice t len (parts.map fun (i, x) => (i, a.eval x))).run P w = .ok (.slice (some ⟨w.heap.size, 0, none⟩) len len) (w.alloc (.cells cells e)) := by
    unfold Program.builtSlice at hf
    cases hie : P.info? e with
    | none => simp [hie] at hf
    | some ie =>
      simp only [hie] at hf
      cases hz : ie.zero with
      | none => simp [hz] at hf
      | some z =>
        simp only [hz] at hf
        by_cases hc : len * ie.size > 2 ^ 24 ∨ len * ie.size = 0
        · simp [hc] at hf
        · rw [if_neg hc] at hf
          exact run_buildSlice w t e len _ cells ie z hu hie hz (fun h' => hc (Or.inl h')) (fun h' => hc (Or.inr h')) hf
  unfold giv
  simp only [execOp, ho, Sem.run_bind, hrun, Result.andThen_ok, Sem.run_pure]
  exact h
theorem giv_app_run {P : Program} {o : Oper} {a : Act} {w w' : World} {R : Value → World → Prop} {t : TypeId} (s x : Operand) (ho : o.op = .call { callee := .builtin .append, args := #[s, x], argTypes := #[t, t] }) {v u v' : Value} (hs : a.eval s = v) (hx : a.eval x = u)
    (hrun : (Builtin.append_ #[t, t] o.type #[v, u]).run P w = .ok v' w') (h : R v' w') : giv P o a w R := by
  unfold giv
  simp [execOp, ho, resolve, invoke, builtin, hs, hx, hrun, Result.andThen]
  exact h
theorem idxM_app {id : Int} {r : List MN} : ∀ (l : List MN) (i : Nat), idxM id l i ≠ -1 → idxM id (l ++ r) i = idxM id l i
  | [], i, h => absurd rfl h
  | x :: l, i, h => by
    have e : ∀ (x : MN) (l : List MN) (i : Nat), idxM id (x :: l) i = if x.nr.nd.id = id then (i : Int) else idxM id l (i + 1) := fun _ _ _ => rfl
    rw [List.cons_append, e, e]
    rw [e] at h
    by_cases hx : x.nr.nd.id = id
    · rw [if_pos hx, if_pos hx]
    · rw [if_neg hx] at h
      rw [if_neg hx, if_neg hx, idxM_app l (i + 1) h]
theorem giv_build_one {P : Program} {o : Oper} {a : Act} {w : World} {R : Value → World → Prop} (t e : TypeId) (y : Operand) (ho : o.op = .buildSlice t 1 #[(0, y)]) (hu : P.underlying t = some (.slice e)) (cs : Array Value) (hy : a.eval y = .agg cs)
    (hf : P.builtSlice e 1 [(0, .agg cs)] = some cs) (h : R (.slice (some ⟨w.heap.size, 0, none⟩) 1 1) (w.alloc (.cells cs e))) : giv P o a w R :=
  giv_build_slice t e 1 #[(0, y)] ho hu cs (by simp only [List.map_toArray, List.map_cons, List.map_nil, hy]; exact hf) h
/-- What may turn while a slice of one's own is appended to. -/
structure AE (B : Nat) (g : Nat) (v : Value) (ms zs : List MN) (w w' : World) : Prop where
  touch : Touch (fun x => x = g) w w'
  old : SlE w B 98 199 encM v ms → SlE w' B 98 199 encM v ms
  new : ∀ v0, SlE w B 98 199 encM v0 zs → SlE w' B 98 199 encM v0 zs
theorem AE.refl (B g : Nat) (v : Value) (ms zs : List MN) (w : World) : AE B g v ms zs w w := ⟨Touch.refl _ _, id, fun _ => id⟩
theorem AE.below {B g : Nat} {v : Value} {ms zs : List MN} {w w' : World} (hb : Below w.heap.size w w') : AE B g v ms zs w w' := ⟨Touch.of_below hb _, fun h => h.below hb, fun _ h => h.below hb⟩
section
variable {T : Nat → Prop} {w : World} {m : Nat} {st : St} {v : Value} {ms : List MN}
def mkM (st : St) (kd : Int) (tx : ByteArray) (pa : Int) : MN := ⟨⟨⟨st.last + 1, kd, 1, 0, tx, pa⟩, []⟩, none, 0, restZ⟩
set_option maxHeartbeats 1000000 in
theorem mmake_full (h : DW B T w m st v ms) (hf : 512 ≤ ms.length ∨ 16777215 ≤ st.last) (hn : ms.length ≤ 1000) (hl : 0 ≤ st.last ∧ st.last ≤ 16777215) (fd fn kd : Int) (nm tx : ByteArray) :
    Calls Tryz.prog 89 #[.pointer (some ⟨m, 0, none⟩), .agg #[.int .i64 fd, .int .i64 fn, .string nm], .int .i64 kd, .string tx] w fun e w' => e = .returned (.tuple #[.int .i64 0, .int .i64 104]) ∧ Below w.heap.size w w' := by
  obtain ⟨sp, cap, hv⟩ := h.shape
  have hc1 := h.c1
  have hc2 := h.c2
  have hml := (h.lt m h.tm).2
  rw [hv] at hc2
  clear h hv
  rcases hf with h1 | h1
  · have hn2 : (512 : Int) ≤ (ms.length : Int) := by omega
    go_enter Tryz.func89, Tryz.ntmps89
    go_wp2
    go_ret2
    exact ⟨rfl, bl_alloc (Below.refl _ _) _⟩
  · by_cases h2 : 512 ≤ ms.length
    · have hn2 : (512 : Int) ≤ (ms.length : Int) := by omega
      go_enter Tryz.func89, Tryz.ntmps89
      go_wp2
      go_ret2
      exact ⟨rfl, bl_alloc (Below.refl _ _) _⟩
    · have hn2 : ¬ (512 : Int) ≤ (ms.length : Int) := by omega
      go_enter Tryz.func89, Tryz.ntmps89
      go_wp2
      go_ret2
      exact ⟨rfl, bl_alloc (Below.refl _ _) _⟩
/-- The nodes with one more. -/
theorem DW.snoc (h : DW B T w m st v ms) {w1 : World} {g : Nat} (hg : v.ownBlock = some g) (ht : Touch (fun x => x = g) w w1) {v' : Value} {x : MN} (hs : SlE w1 B 98 199 encM v' (ms ++ [x])) (hpl : ∀ y, v'.ownBlock = some y → y = g ∨ w.heap.size ≤ y) (hx : x.sp = none) (hx2 : x.nr.ents = [] ∧ x.cap = 0) :
    DW B (NewT T w w1) (w1.setCell ⟨m, 2, none⟩ v') m ⟨st.last, st.ns ++ [x.nr]⟩ v' (ms ++ [x]) ∧ Touch (fun x => x = g ∨ x = m) w (w1.setCell ⟨m, 2, none⟩ v') := by
  have hgt := h.own g hg
  have hml := (h.lt m h.tm).2
  have hmg : ¬ m = g := fun e => hgt.2 e.symm
  have ht2 : Touch (fun x => x = m) w1 (w1.setCell ⟨m, 2, none⟩ v') := Touch.setCell (S := fun x => x = m) (p := ⟨m, 2, none⟩) (Touch.refl _ _) (.inl rfl) _
  have c1 : w1.cell? ⟨m, 1, none⟩ = some (.int .i64 st.last) := (ht.cell (p := ⟨m, 1, none⟩) hml hmg).trans h.c1
  have c2 : w1.cell? ⟨m, 2, none⟩ = some v := (ht.cell (p := ⟨m, 2, none⟩) hml hmg).trans h.c2
  have f1 : w1.frozen? ⟨m, 1, none⟩ = false := (ht.frozen (p := ⟨m, 1, none⟩) hml hmg).trans h.f1
  have f2 : w1.frozen? ⟨m, 2, none⟩ = false := (ht.frozen (p := ⟨m, 2, none⟩) hml hmg).trans h.f2
  have hlt := SlE.lt hs
  have key : ∀ y, v'.ownBlock = some y → NewT T w w1 y ∧ y ≠ m := fun y hy => by
    rcases hpl y hy with e | e
    · subst e; exact ⟨.inl hgt.1, hgt.2⟩
    · exact ⟨.inr ⟨e, (hlt y hy).2⟩, by omega⟩
  refine ⟨⟨by rw [List.map_append, h.eq]; rfl, (World.cell?_setCell_other _ _ _ _ (by intro e; cases e)).trans c1, World.cell?_setCell_same _ _ _ c2, by simpa using f1, by simpa using f2, hs.touch ht2 (fun y hy => (key y hy).2), key, fun y hy => ?_, .inl h.tm, fun y hy => ?_, Nat.le_trans h.hB (Nat.le_trans ht.size ht2.size), (h.ism.same (ht.block m hml hmg)).set 2 (by rcases hs.cases with ⟨e, _⟩ | ⟨_, _, e, _⟩ <;> rw [e] <;> rfl)⟩, ?_⟩
  · rcases List.mem_append.1 hy with hy | hy
    · refine ⟨((h.ents y hy).1.touch ht (fun z hz e => ((h.ents y hy).2 z hz).2.2 (by rw [hg, e]))).touch ht2 (fun z hz => ((h.ents y hy).2 z hz).2.1), fun z hz => ?_⟩
      obtain ⟨h1, h2, h3⟩ := (h.ents y hy).2 z hz
      refine ⟨.inl h1, h2, fun e => ?_⟩
      rcases hpl z e with e2 | e2
      · exact h3 (by rw [hg, e2])
      · have := (h.lt z h1).2; omega
    · rw [List.mem_singleton] at hy
      subst hy
      refine ⟨?_, fun z hz => ?_⟩
      · unfold MN.ev
        rw [hx, hx2.1, hx2.2]
        exact RdE.empty _ _ _ _
      · unfold MN.ev at hz
        rw [hx] at hz
        simp [Value.ownBlock] at hz
  · have := ht2.size
    rcases hy with hy | hy
    · exact ⟨(h.lt y hy).1, Nat.lt_of_lt_of_le (h.lt y hy).2 (Nat.le_trans ht.size this)⟩
    · exact ⟨Nat.le_trans h.hB hy.1, Nat.lt_of_lt_of_le hy.2 this⟩
  · exact (ht.mono (fun x hx _ => .inl hx)).trans ht2 (fun x hx _ => .inr hx)
theorem built_mk (st : St) (kd : Int) (tx : ByteArray) (pa : Int) : Tryz.prog.builtSlice 98 1 [(0, .agg (encM (mkM st kd tx pa)).toArray)] = some (encM (mkM st kd tx pa)).toArray := by kernel_rfl
set_option maxHeartbeats 8000000 in
theorem mmake_ok (h : DW B T w m st v ms) (f : Full st) (hn : st.ns.length < 512) (hl : st.last < 16777215) {fd : Int} {x : NR} (hd : st.get fd = some x) (fn kd : Int) (nm tx : ByteArray) (hno : entOf x.ents nm = none) :
    Calls Tryz.prog 89 #[.pointer (some ⟨m, 0, none⟩), .agg #[.int .i64 fd, .int .i64 fn, .string nm], .int .i64 kd, .string tx] w fun e w' => e = .returned (.tuple #[.int .i64 (st.last + 1), .int .i64 0]) ∧
      MO B T m ((st.put ⟨st.last + 1, kd, 1, 0, tx, if kd = 2 then fd else 0⟩).addE fd ⟨nm, st.last + 1, kd⟩) w w' := by
  have hlo := f.toGood.lo
  have hlen : ms.length < 512 := by rw [← h.len]; exact hn
  obtain ⟨k0, x0, hp0, hk0, hx0, hg0⟩ : ∃ (k : Nat) (y : MN), placeM ms fd = (k : Int) ∧ k < ms.length ∧ ms[k]? = some y ∧ st.get fd = some y.nr := by
    rcases place_get h fd with ⟨_, h2⟩ | h2
    · rw [hd] at h2; cases h2
    · exact h2
  obtain rfl : x = x0.nr := by rw [hd] at hg0; injection hg0
  obtain ⟨g, cap, hv, hg⟩ := h.block (by rintro rfl; simp at hk0)
  have hc1 := h.c1
  have hc2 := h.c2
  have hf1 := h.f1
  have hml := (h.lt m h.tm).2
  have hgm : ¬ g = m := (h.own g (by rw [hv]; rfl)).2
  rw [hv] at hc2
  generalize hP : (fun (e : Ending) (w' : World) => e = .returned (.tuple #[.int .i64 (st.last + 1), .int .i64 0]) ∧ MO B T m ((st.put ⟨st.last + 1, kd, 1, 0, tx, if kd = 2 then fd else 0⟩).addE fd ⟨nm, st.last + 1, kd⟩) w w') = Post
  have HP := Lib.hid hP
  have HW := Lib.hid h
  have HV := Lib.hid hv
  have HF := Lib.hid f
  have HPL := Lib.hid (And.intro hp0 (And.intro hk0 (And.intro hx0 hg0)))
  have HNO := Lib.hid hno
  have HXL := Lib.hid ((h.few f).2 x0 (List.mem_of_getElem? hx0))
  clear hP h hv f hp0 hk0 hx0 hg0 hno hd
  have hn2 : ¬ (512 : Int) ≤ (ms.length : Int) := by omega
  have hl2 : ¬ (16777215 : Int) ≤ st.last := by omega
  go_enter Tryz.func89, Tryz.ntmps89
  go_upto_region 4 with fail
  obtain ⟨w4, hw4⟩ : ∃ w4, w4 = (w.setCell ⟨m, 1, none⟩ (.int .i64 (st.last + 1))).alloc (.cells #[.int .i64 fd, .int .i64 fn, .string nm] 120) := ⟨_, rfl⟩
  rw [← hw4]
  obtain ⟨d1, t1⟩ := HW.out.setLast (st.last + 1)
  have hs4 : w4.heap.size = w.heap.size + 1 := by rw [hw4]; simp
  have hb4 : Below (w.setCell ⟨m, 1, none⟩ (.int .i64 (st.last + 1))).heap.size (w.setCell ⟨m, 1, none⟩ (.int .i64 (st.last + 1))) w4 := by rw [hw4]; exact bl_alloc (Below.refl _ _) _
  have hd4 := d1.below hb4
  have ht4 : Touch (fun x => x = m) w w4 := t1.then hb4
  have rF : Row w4 w.heap.size 120 [.int .i64 fd, .int .i64 fn, .string nm] := by
    have := Row.new (w.setCell ⟨m, 1, none⟩ (.int .i64 (st.last + 1))) 120 [.int .i64 fd, .int .i64 fn, .string nm]
    rw [hw4]
    simpa using this
  obtain ⟨F0, hF0⟩ : ∃ F0, w.heap.size = F0 := ⟨_, rfl⟩
  rw [hF0] at rF hs4
  try rw [hF0]
  have HF0 := Lib.hid hF0
  have HGM : Hid (g < F0 ∧ m < F0) := Lib.hid ⟨by omega, by omega⟩
  have HRF := Lib.hid rF
  have HD4 := Lib.hid (And.intro hd4 ht4)
  have hc1' := hd4.c1
  have hml4 : m < w4.heap.size := by omega
  have hg4 : g < w4.heap.size := by omega
  have hfl4 : F0 < w4.heap.size := by omega
  clear hw4 d1 t1 hb4 hd4 ht4 rF hF0 hc1 hf1 hml hg hc2
  simp only at hc1'
  go_upto_region 5 with (refine wpList_store_rowTo rfl 98 _ _ rfl rfl (F0 + 1) (encM (mkM st kd tx 0)).toArray rfl (by kernel_rfl) 98 Tryz.zeroCells98 (by rw [← hs4]; exact heap_alloc_new w4 _) (by kernel_rfl) (by kernel_rfl) (by kernel_rfl) ?_)
  obtain ⟨w5, hw5⟩ : ∃ w5, w5 = (w4.alloc (.cells Tryz.zeroCells98 98)).setRow (F0 + 1) (encM (mkM st kd tx 0)).toArray := ⟨_, rfl⟩
  have rN : Row w5 (F0 + 1) 98 (encM (mkM st kd tx 0)) := by
    rw [hw5]
    exact setRow_heap _ (F0 + 1) _ _ 98 _ (by rw [← hs4]; exact heap_alloc_new w4 _)
  have hb5 : Below w4.heap.size w4 w5 := by
    rw [hw5]
    refine ⟨rfl, rfl, rfl, by simp, fun j hj => ?_⟩
    rw [setRow_other _ _ _ _ (by omega)]
    exact heap_alloc_old w4 _ j hj
  rw [← hw5]
  clear hw5
  have rF5 := HRF.out.below hb5
  have f0 := rF5.cell' (i := 0) rfl
  have fl5 := rF5.lt
  have n5 := rN.cell' (i := 5) (v := .int .i64 0) rfl
  have m5 := rN.froz 5
  obtain ⟨pa, hpa⟩ : ∃ pa, (if kd = 2 then fd else 0) = pa := ⟨_, rfl⟩
  have HPA := Lib.hid hpa
  have HR5 := Lib.hid (And.intro rN hb5)
  clear rN hb5 rF5 hpa
  by_cases hk : kd = 2
  case' neg =>
    have hkb : (kd == 2) = false := by rw [beq_eq_false_iff_ne]; exact hk
    have hpz : pa = 0 := by rw [← HPA.out, if_neg hk]
    go_upto_region 7 with fail
    obtain ⟨w7, hw7⟩ : ∃ w7, w7 = w5 := ⟨_, rfl⟩
    have HX7 : Hid (Row w7 (F0 + 1) 98 (encM (mkM st kd tx pa)) ∧ Below w4.heap.size w4 w7) := Lib.hid (by rw [hw7, hpz]; exact HR5.out)
    rw [← hw7]
    clear hw7 hk hpz
  case' pos =>
    have hkb : (kd == 2) = true := by rw [beq_iff_eq]; exact hk
    have HPZ : Hid (fd = pa) := Lib.hid (by rw [← HPA.out, if_pos hk])
    go_upto_region 7 with fail
    obtain ⟨w7, hw7⟩ : ∃ w7, w7 = w5.setCell ⟨F0 + 1, 5, none⟩ (.int .i64 fd) := ⟨_, rfl⟩
    have HX7 : Hid (Row w7 (F0 + 1) 98 (encM (mkM st kd tx pa)) ∧ Below w4.heap.size w4 w7) := Lib.hid (by
      rw [hw7, ← HPZ.out]
      exact ⟨HR5.out.1.set 5 (.int .i64 fd), HR5.out.2.setCell (p := ⟨F0 + 1, 5, none⟩) (by rw [hs4]; exact Nat.le_refl _) _⟩)
    rw [← hw7]
    clear hw7 hk HPZ
  all_goals
    as_aux_lemma =>
      have hd7 := HD4.out.1.below HX7.out.2
      have hcm := hd7.c2
      rw [HV.out] at hcm
      have hmf := hd7.f2
      have hm7 : m < w7.heap.size := (hd7.lt m hd7.tm).2
      have hsl := hd7.sl
      have hown := hd7.own
      rw [HV.out] at hsl hown
      have hgl := (SlE.lt hsl g rfl).2
      have hz7 : w4.heap.size ≤ w7.heap.size := HX7.out.2.size
      have hN7 : F0 + 1 < w7.heap.size := HX7.out.1.lt
      have HD7 := Lib.hid hd7
      have HSL := Lib.hid hsl
      have rF7 := HRF.out.below HX7.out.2
      have HRF7 := Lib.hid rF7
      have S : ∀ w', (Touch (fun x => x = g) w7 w' ∧ SlE w' B 98 199 encM (.slice (some ⟨g, 0, none⟩) ms.length cap) ms) → w'.cell? ⟨m, 2, none⟩ = some (.slice (some ⟨g, 0, none⟩) ms.length cap) :=
        fun w' hC => (hC.1.cell (p := ⟨m, 2, none⟩) hm7 (fun e => hgm e.symm)).trans hcm
      have hgF : ¬ F0 + 1 = g := by have := HGM.out.1; omega
      have hgF0 : ¬ F0 = g := by have := HGM.out.1; omega
      have hmF : ¬ m = F0 := by have := HGM.out.2; omega
      have hmN : ¬ m = F0 + 1 := by have := HGM.out.2; omega
      clear hd7 hsl hown rF7 f0 fl5 n5 m5 hcm hkb
      go_wp2_with fail
      apply wp_region_tail 10 _ (by kernel_rfl) (by kernel_rfl) (by kernel_rfl) (by decide) (fun w' => Touch (fun x => x = g) w7 w' ∧ SlE w' B 98 199 encM (.slice (some ⟨g, 0, none⟩) ms.length cap) ms)
        (AE B g (.slice (some ⟨g, 0, none⟩) ms.length cap) ms (ms ++ [mkM st kd tx pa])) (fun w' w'' h1 h2 => ⟨h1.1.trans h2.touch (fun x hx _ => hx), h2.old h1.2⟩) ⟨(Touch.refl _ _).drew, HSL.out.below (Below.refl _ _).drew⟩
      simp only [List.take_succ_cons, List.take_zero, List.drop_succ_cons, List.drop_zero]
      iterate 5
        apply wpRel_fix (by rfl)
        · intro w' hC hf R hR
          have hS := S w' hC
          go_simp
          exact hR _ (AE.refl _ _ _ _ _ _)
        simp only [Act.put, List.setIfInBounds_toArray, List.set_cons_zero, List.set_cons_succ]
      apply wpRel_fix (v := .agg (encM (mkM st kd tx pa)).toArray) (by rfl)
      · intro w' hC hf R hR
        exact giv_load_row 98 _ rfl (F0 + 1) rfl 98 (encM (mkM st kd tx pa)).toArray (0, 0) _ ((hC.1.block (F0 + 1) hN7 hgF).trans HX7.out.1) Tryz.underlying98 rfl (by kernel_rfl) (hR _ (AE.refl _ _ _ _ _ _))
      simp only [Act.put, List.setIfInBounds_toArray, List.set_cons_zero, List.set_cons_succ]
      apply wpRel_rel (fun v2 w' => ∃ c, v2 = .slice (some ⟨c, 0, none⟩) 1 1 ∧ w7.heap.size ≤ c ∧ Row w' c 98 (encM (mkM st kd tx pa))) (by rfl) (fun v w w' ⟨c, h1, h2, h3⟩ hE => ⟨c, h1, h2, h3.touch hE.touch (by omega)⟩)
      · intro w' hC hf R hR
        refine giv_build_one 99 98 _ rfl Tryz.underlying99 (encM (mkM st kd tx pa)).toArray rfl (built_mk st kd tx pa) ?_
        exact hR _ _ ⟨_, rfl, hC.1.size, Row.new _ _ _⟩ (AE.below (bl_alloc (Below.refl _ _) _))
      intro v2
      simp only [Act.put, List.setIfInBounds_toArray, List.set_cons_zero, List.set_cons_succ]
      apply wpRel_rel (fun v' w' => SlE w' B 98 199 encM v' (ms ++ [mkM st kd tx pa]) ∧ ∀ y, v'.ownBlock = some y → y = g ∨ w7.heap.size ≤ y) (by rfl) (fun v w w' h hE => ⟨hE.new _ h.1, h.2⟩)
      · intro w' hC hf R hR
        obtain ⟨c, hv2, hc, hrow⟩ := hf _ (List.mem_cons_self ..) (by kernel_rfl)
        obtain ⟨v', w'', hr, h1, h2, h3, h4, h5⟩ := run_app_keep (P := Tryz.prog) (ty := 99) mnT hC.2 (RdE.one (x := mkM st kd tx pa) hrow) (smallB (by simp; omega)) (by simp; omega) (Nat.le_trans HD7.out.hB hC.1.size)
        refine giv_app_run (t := 99) _ _ rfl rfl (by exact hv2) hr (hR _ _ ⟨h1, fun y hy => ?_⟩ ⟨h2.mono (fun x hx _ => by simpa [Value.ownBlock] using hx.symm), fun _ => h4, h5⟩)
        rcases h3 y hy with e | e
        · exact .inl (by simpa [Value.ownBlock] using e.symm)
        · exact .inr (Nat.le_trans hC.1.size e)
      intro v3
      simp only [Act.put, List.setIfInBounds_toArray, List.set_cons_zero, List.set_cons_succ]
      iterate 2
        apply wpRel_fix (by rfl)
        · intro w' hC hf R hR
          have hS := S w' hC
          go_simp
          exact hR _ (AE.refl _ _ _ _ _ _)
        simp only [Act.put, List.setIfInBounds_toArray, List.set_cons_zero, List.set_cons_succ]
      refine wpRel_nil (fun w8 hC hf => ?_)
      have f1 := hf _ (List.mem_cons_self ..)
      obtain ⟨sp8, n8, cp8, rfl⟩ := slShape3 f1.1
      have c9 := S w8 hC
      have f9 := (hC.1.frozen (p := ⟨m, 2, none⟩) hm7 (fun e => hgm e.symm)).trans hmf
      have hsn := HD7.out.snoc (g := g) (by rw [HV.out]; rfl) hC.1 f1.1 f1.2 rfl ⟨rfl, rfl⟩
      have HSN := Lib.hid hsn
      have HPLC := Lib.hid f1.2
      have HC8 := Lib.hid hC.1
      have hz8 := hC.1.size
      clear hf f1 hC S hsn
      go_upto_region 8 with fail
      obtain ⟨w9, hw9⟩ : ∃ w9, w9 = w8.setCell ⟨m, 2, none⟩ (.slice sp8 n8 cp8) := ⟨_, rfl⟩
      have hs9 : w9.heap.size = w8.heap.size := by rw [hw9]; simp
      have rF9 : Row w9 F0 120 [.int .i64 fd, .int .i64 fn, .string nm] := by rw [hw9]; exact (HRF7.out.touch HC8.out hgF0).other (p := ⟨m, 2, none⟩) (fun e => hmF e.symm) _
      have rN9 : Row w9 (F0 + 1) 98 (encM (mkM st kd tx pa)) := by rw [hw9]; exact (HX7.out.1.touch HC8.out hgF).other (p := ⟨m, 2, none⟩) (fun e => hmN e.symm) _
      have hsn := HSN.out
      rw [← hw9] at hsn ⊢
      have HSN9 := Lib.hid hsn
      have HRN9 := Lib.hid rN9
      have x0c := rF9.cell' (i := 0) rfl
      have x2c := rF9.cell' (i := 2) rfl
      have y0c := rN9.cell' (i := 0) (v := .int .i64 (st.last + 1)) rfl
      have xl := rF9.lt
      have yl := rN9.lt
      have HSZ9 := Lib.hid hs9
      clear hsn hw9 rF9 rN9 c9 f9 HSN hs9
      have hl9 : (ms ++ [mkM st kd tx pa]).length ≤ 512 := by simp; omega
      have hp9 : placeM (ms ++ [mkM st kd tx pa]) fd = (k0 : Int) := by
        have h1 := HPL.out.1
        unfold placeM at h1 ⊢
        rw [idxM_app ms 0 (by rw [h1]; omega), h1]
      have hx9 : (ms ++ [mkM st kd tx pa])[k0]? = some x0 := by rw [List.getElem?_append_left HPL.out.2.1]; exact HPL.out.2.2.1
      have HMA := Lib.hid (madd_any HSN9.out.1 hl9 hp9 hx9 HXL.out ⟨nm, st.last + 1, kd⟩ HNO.out)
      clear hl9 hp9 hx9
      go_wp2_with fail
      refine HMA.out.mono ?_
      rintro e w10 ⟨rfl, y, hy1, hy2, hy3, hy4⟩
      have hN10 : w10.cell? ⟨F0 + 1, 0, none⟩ = some (.int .i64 (st.last + 1)) := by
        rw [hy4.cell (p := ⟨F0 + 1, 0, none⟩) HRN9.out.lt (fun e => by
          have h1 := HPLC.out (F0 + 1) e
          have h2 := HGM.out.1
          omega)]
        exact HRN9.out.cell' (i := 0) rfl
      have HY := Lib.hid (And.intro hy1 (And.intro hy3 hy4))
      clear hy1 hy2 hy3 hy4 x0c x2c y0c
      go_wp2
      first | go_ret2 | skip
      rw [← HP.out]
      refine ⟨rfl, ?_⟩
      have hs := HSZ9.out
      have hw := HF0.out
      have hz10 := HY.out.2.2.size
      have hput : (st.put ⟨st.last + 1, kd, 1, 0, tx, if kd = 2 then fd else 0⟩).ns = st.ns ++ [(mkM st kd tx pa).nr] := by
        show putN _ _ = _
        rw [putN_end (fun x hx => by have := HF.out.ids x hx; simp only; omega), HPA.out]
        rfl
      have hrise : RiseN (st.ns ++ [(mkM st kd tx pa).nr]) := by rw [← hput]; exact putN_rise HF.out.rise
      have hget : (st.ns ++ [(mkM st kd tx pa).nr])[k0]? = some x0.nr := by
        rw [List.getElem?_append_left (by rw [HW.out.len]; exact HPL.out.2.1), ← HW.out.eq, List.getElem?_map, HPL.out.2.2.1]
        rfl
      have hst : (⟨st.last + 1, ((ms ++ [mkM st kd tx pa]).set k0 y).map MN.nr⟩ : St) = (st.put ⟨st.last + 1, kd, 1, 0, tx, if kd = 2 then fd else 0⟩).addE fd ⟨nm, st.last + 1, kd⟩ := by
        unfold St.addE
        rw [hput, onR_set hrise hget (findN_id HPL.out.2.2.2) (insE ⟨nm, st.last + 1, kd⟩), List.map_set, List.map_append, HW.out.eq, HY.out.1]
        congr 1
        show st.last + 1 = max st.last (st.last + 1)
        omega
      rw [← hst]
      have hTg : T g := (HW.out.own g (by rw [HV.out]; rfl)).1
      refine MO.of_dw (HY.out.2.1.wide (fun x hx => ?_) (fun x hx => ?_)) ?_
      · rcases hx with (hx | hx) | hx
        · exact .inl hx
        · exact .inr (by omega)
        · exact .inr (by omega)
      · rcases hx with hx | hx
        · exact HY.out.2.1.lt x (.inl (.inl hx))
        · exact ⟨Nat.le_trans HW.out.hB hx.1, hx.2⟩
      · have t1 : Touch T w w7 := (HD4.out.2.mono (fun x hx _ => by rw [hx]; exact HW.out.tm)).then HX7.out.2
        have t2 : Touch T w w9 := t1.trans HSN9.out.2 (fun x hx _ => by
          rcases hx with hx | hx
          · rw [hx]; exact hTg
          · rw [hx]; exact HW.out.tm)
        exact t2.trans HY.out.2.2 (fun x hx hlt => by
          rcases HPLC.out x hx with e | e
          · rw [e]; exact hTg
          · omega)
end
end Go.Proofs.YtnkcbogikaebfaaGreatDoor
end

section
/- The document's Make. -/
namespace Go.Proofs.YtnkcbogikaebfaaGreatDoor
open Go Go.RowKit
set_option maxRecDepth 100000
set_option linter.unusedSimpArgs false
set_option linter.unusedVariables false
attribute [local go_sem] giv
variable {E : Nat → Addr} {B : Nat}
section
variable {T : Nat → Prop} {w : World} {m : Nat} {st : St} {v : Value} {ms : List MN}
theorem make_eq {st : St} {s : ByteArray} {c d n : Int} {nm : ByteArray} (h : lastS st s = (c, ⟨d, n, nm⟩)) (kd : Int) (tx : ByteArray) : makeT st s kd tx =
    if (parseP s).1 ≠ 0 then ((parseP s).1, 0, st) else if kd < 1 ∨ 3 < kd then (114, 0, st) else if kd = 3 ∧ tgtCode tx ≠ 0 then (tgtCode tx, 0, st) else
    if c ≠ 0 then (c, 0, st) else if 0 < n then (110, 0, st) else if (parseP s).2.slash && !(kd == 2) then (109, 0, st) else
    if 512 ≤ st.ns.length ∨ 16777215 ≤ st.last then (104, 0, st) else
    (0, st.last + 1, (st.put ⟨st.last + 1, kd, 1, 0, if kd = 3 then tx else noText, if kd = 2 then d else 0⟩).addE d ⟨nm, st.last + 1, kd⟩) := by
  unfold makeT
  simp only
  by_cases hp : (parseP s).1 = 0
  · have hp' : ¬ (parseP s).1 ≠ 0 := by simp [hp]
    rw [if_neg hp', if_neg hp']
    by_cases hk : kd < 1 ∨ 3 < kd
    · rw [if_pos hk, if_pos hk]
    rw [if_neg hk, if_neg hk]
    by_cases ht : kd = 3 ∧ tgtCode tx ≠ 0
    · rw [if_pos ht, if_pos ht]
    rw [if_neg ht, if_neg ht]
    have hl := there_last h hp
    unfold freshP
    simp only [hl]
    by_cases hc : c = 0
    · subst hc
      simp only [ne_eq, not_true_eq_false, if_false]
      by_cases hn : 0 < n
      · rw [if_pos hn, if_pos hn]
        simp
      rw [if_neg hn, if_neg hn]
      by_cases hs : ((parseP s).2.slash && !(kd == 2)) = true
      · rw [if_pos hs, if_pos hs]
        simp
      rw [if_neg hs, if_neg hs]
      simp
    · simp [hc]
  · rw [if_pos hp, if_pos hp]
theorem last_name {st : St} {s : ByteArray} {d n : Int} {nm : ByteArray} (h : lastS st s = (0, ⟨d, n, nm⟩)) : nmCode nm = 0 ∧ (parseP s).2.parts.length ≠ 0 := by
  have hp : (parseP s).1 = 0 := by
    unfold lastS at h
    refine Classical.byContradiction fun hp => ?_
    rw [if_pos hp] at h
    injection h with h
    exact hp h
  have hl := lastP_ok (there_last h hp)
  refine ⟨(hl.name (show parseP s = (0, (parseP s).2) by rw [← hp])).1, ?_⟩
  have := hl.part
  intro h0
  rw [List.eq_nil_of_length_eq_zero h0] at this
  cases this
set_option maxHeartbeats 4000000 in
theorem mmakeT_any (h : MW B T w m st) (f : Full st) (s : ByteArray) (kd : Int) (tx : ByteArray) : Calls Tryz.prog 41 #[.pointer (some ⟨m, 0, none⟩), .string s, .int .i64 kd, .string tx] w (DUnlR B T m (makeT st s kd tx) w) := by
  obtain ⟨v, ms, hD⟩ := h
  have HD := Lib.hid hD
  have HF := Lib.hid f
  have HN := Lib.hid (hD.few f)
  obtain ⟨R, hR⟩ : ∃ R, makeT st s kd tx = R := ⟨_, rfl⟩
  rw [hR]
  obtain ⟨c, d, n, nm, hL⟩ : ∃ c d n nm, lastS st s = (c, ⟨d, n, nm⟩) := ⟨_, _, _, _, rfl⟩
  rw [make_eq hL] at hR
  have HR := Lib.hid hR
  have HL := Lib.hid hL
  generalize hP : DUnlR B T m R w = Post
  have HP := Lib.hid hP
  clear hP hD f hR hL
  go_enter Tryz.func41, Tryz.ntmps41
  go_wp2_with fail
  refine (dlast_any HD.out HF.out s).mono ?_
  rintro e w2 ⟨⟨pv, rfl, hs2⟩, hb2⟩
  obtain ⟨sp2, cp2, rfl⟩ := slShape hs2
  rw [HL.out]
  simp only [fndV]
  obtain ⟨ps, hps⟩ : ∃ ps, (parseP s).2.slash = ps := ⟨_, rfl⟩
  obtain ⟨np, hnp⟩ : ∃ np, (parseP s).2.parts.length = np := ⟨_, rfl⟩
  rw [hps, hnp]
  have HPS := Lib.hid hps
  have HNP := Lib.hid hnp
  obtain ⟨w3, hw3⟩ : ∃ w3, w3 = (w2.alloc (.cells #[.slice sp2 np cp2, .bool ps] 116)).alloc (.cells #[.int .i64 d, .int .i64 n, .string nm] 120) := ⟨_, rfl⟩
  have hb3 : Below w2.heap.size w2 w3 := by rw [hw3]; exact bl_alloc (bl_alloc (Below.refl _ _) _) _
  have rP : Row w3 w2.heap.size 116 [.slice sp2 np cp2, .bool ps] := by rw [hw3]; exact (Row.new _ _ _).alloc _
  have rF : Row w3 (w2.heap.size + 1) 120 [.int .i64 d, .int .i64 n, .string nm] := by
    have := Row.new (w2.alloc (.cells #[.slice sp2 np cp2, .bool ps] 116)) 120 [.int .i64 d, .int .i64 n, .string nm]
    rw [hw3]
    simpa using this
  have HB3 := Lib.hid (bl_trans hb2 hb3)
  have HRW := Lib.hid (And.intro rP rF)
  go_upto_region 2 with fail
  rw [← hw3]
  obtain ⟨F0, hF0⟩ : ∃ F0, w2.heap.size = F0 := ⟨_, rfl⟩
  rw [hF0] at HRW
  try rw [hF0]
  clear hs2 hb2 hb3 hw3 hps hnp rF rP hF0
  go_wp2_with fail
  refine (dparse_any s w3).mono ?_
  rintro e w4 ⟨⟨pv4, rfl, hs4⟩, hb4⟩
  obtain ⟨sp4, n4, cp4, rfl⟩ := slShape3 hs4
  rw [HPS.out]
  obtain ⟨pc, hpc⟩ : ∃ pc, (parseP s).1 = pc := ⟨_, rfl⟩
  rw [hpc]
  have hR1 := HR.out
  rw [hpc, HPS.out] at hR1
  obtain ⟨w5, hw5⟩ : ∃ w5, w5 = w4.alloc (.cells #[.slice sp4 n4 cp4, .bool ps] 116) := ⟨_, rfl⟩
  have hb5 : Below w4.heap.size w4 w5 := by rw [hw5]; exact bl_alloc (Below.refl _ _) _
  have rQ : Row w5 w4.heap.size 116 [.slice sp4 n4 cp4, .bool ps] := by rw [hw5]; exact Row.new _ _ _
  have hb45 := bl_trans hb4 hb5
  have HB5 := Lib.hid (bl_trans HB3.out hb45)
  have r1 := HRW.out.1.below hb45
  have r2 := HRW.out.2.below hb45
  go_upto_region 3 with fail
  rw [← hw5]
  obtain ⟨Q0, hQ0⟩ : ∃ Q0, w4.heap.size = Q0 := ⟨_, rfl⟩
  rw [hQ0] at rQ
  try rw [hQ0]
  have HR5 := Lib.hid (And.intro r1 (And.intro r2 rQ))
  clear hs4 hb4 hb5 hb45 hw5 hQ0 r1 r2 rQ hpc
  have HMS : Hid (MO B T m st w w5) := Lib.hid (MO.still ⟨v, ms, HD.out⟩ HB5.out)
  have a0 := HR5.out.1.cell' (i := 0) rfl
  have al := HR5.out.1.lt
  have y1 := HR5.out.2.1.cell' (i := 1) rfl
  have y2 := HR5.out.2.1.cell' (i := 2) rfl
  have y0 := HR5.out.2.1.cell' (i := 0) rfl
  have yl := HR5.out.2.1.lt
  have q1 := HR5.out.2.2.cell' (i := 1) rfl
  have ql := HR5.out.2.2.lt
  by_cases hpz : pc = 0
  case neg =>
    as_aux_lemma =>
    have hcb : (pc != 0) = true := by rw [bne_iff_ne]; exact hpz
    rw [if_pos hpz] at hR1
    have HRF := Lib.hid hR1.symm
    clear hpz hR1
    go_wp2
    first | go_ret2 | skip
    rw [← HP.out]
    unfold DUnlR
    rw [HRF.out]
    exact ⟨rfl, HMS.out⟩
  subst hpz
  rw [if_neg (by decide)] at hR1
  by_cases hk1 : kd < 1
  · as_aux_lemma =>
    rw [if_pos (.inl hk1)] at hR1
    have HRF := Lib.hid hR1.symm
    clear hR1
    go_wp2
    first | go_ret2 | skip
    rw [← HP.out]
    unfold DUnlR
    rw [HRF.out]
    exact ⟨rfl, HMS.out⟩
  by_cases hk3 : 3 < kd
  · as_aux_lemma =>
    rw [if_pos (.inr hk3)] at hR1
    have HRF := Lib.hid hR1.symm
    clear hR1
    go_wp2
    first | go_ret2 | skip
    rw [← HP.out]
    unfold DUnlR
    rw [HRF.out]
    exact ⟨rfl, HMS.out⟩
  rw [if_neg (by rintro (h | h) <;> contradiction)] at hR1
  have hnm : c = 0 → nmCode nm = 0 ∧ np ≠ 0 := fun hc => by
    have := last_name (lastS_noerr HL.out hc)
    rw [HNP.out] at this
    exact this
  have HNM := Lib.hid hnm
  clear hnm
  by_cases hkl : kd = 3
  case' pos =>
    have hR2 : (if tgtCode tx ≠ 0 then (tgtCode tx, 0, st) else if c ≠ 0 then (c, 0, st) else if 0 < n then (110, 0, st) else if ps && !(kd == 2) then (109, 0, st) else if 512 ≤ st.ns.length ∨ 16777215 ≤ st.last then (104, 0, st) else
      (0, st.last + 1, (st.put ⟨st.last + 1, kd, 1, 0, if kd = 3 then tx else noText, if kd = 2 then d else 0⟩).addE d ⟨nm, st.last + 1, kd⟩)) = R := by
      rw [← hR1]
      by_cases ht : tgtCode tx = 0
      · rw [if_neg (show ¬ tgtCode tx ≠ 0 by simp [ht]), if_neg (show ¬ (kd = 3 ∧ tgtCode tx ≠ 0) by rintro ⟨_, h⟩; exact h ht)]
      · rw [if_pos ht, if_pos ⟨hkl, ht⟩]
    have hkb : (kd == 3) = true := by rw [beq_iff_eq]; exact hkl
    have HTT : Hid ((if kd = 3 then tx else noText) = tx) := Lib.hid (if_pos hkl)
    clear hR1 hkl
    by_cases t0 : tx.data.toList = []
    case pos =>
      as_aux_lemma =>
      have hc9 : tgtCode tx = 109 := by unfold tgtCode; rw [if_pos t0]
      rw [hc9, if_pos (by decide)] at hR2
      have HRF := Lib.hid hR2.symm
      have hg0 : (tx.toList == []) = true := by rw [beq_iff_eq, ByteArray.toList_eq]; exact t0
      clear hR2 t0 hc9
      go_wp2
      first | go_ret2 | skip
      rw [← HP.out]
      unfold DUnlR
      rw [HRF.out]
      exact ⟨rfl, HMS.out⟩
    have hg0 : (tx.toList == []) = false := by rw [beq_eq_false_iff_ne, ByteArray.toList_eq]; exact t0
    by_cases t1 : 88 < tx.size
    case pos =>
      as_aux_lemma =>
      have hc9 : tgtCode tx = 115 := by unfold tgtCode; rw [if_neg t0, if_pos t1]
      rw [hc9, if_pos (by decide)] at hR2
      have HRF := Lib.hid hR2.symm
      have ht1 : (tx.size : Int) > 88 := by omega
      clear hR2 t0 hc9
      go_wp2
      first | go_ret2 | skip
      rw [← HP.out]
      unfold DUnlR
      rw [HRF.out]
      exact ⟨rfl, HMS.out⟩
    have ht1 : ¬ (tx.size : Int) > 88 := by omega
    have HTC : Hid (tgtCode tx = if tx.data.toList.contains 0 then 114 else 0) := Lib.hid (by unfold tgtCode; rw [if_neg t0, if_neg t1])
    have HR2 := Lib.hid hR2
    clear hR2 t0
    go_wp2_with fail
    go_loopw [15] (fun i wr => ∃ j : Nat, j ≤ tx.size ∧ i = .int .i64 (j : Int) ∧ w5 = wr ∧ Hid (∀ b ∈ tx.data.toList.take j, b ≠ 0)) (fun i _ => tx.size - (intOf i).toNat)
    case atStart => exact ⟨0, Nat.zero_le _, rfl, rfl, Lib.hid (by simp)⟩
    case' round =>
      obtain ⟨j, hj, rfl, rfl, HI⟩ := hrel
      by_cases hlt : j < tx.size
      case pos =>
        as_aux_lemma =>
        have hlen : tx.data.toList.length = tx.size := Array.length_toList
        have hgb : tx.data.toList[j]'(by omega) = tx[j] := by simp [ByteArray.getElem_eq_getElem_data]
        have hj0 : (0 : Int) ≤ (j : Int) := by omega
        have hj1 : (j : Int) < (tx.size : Int) := by omega
        by_cases hz : tx[j] = 0
        · have hc9 : tgtCode tx = 114 := by
            rw [HTC.out, if_pos]
            rw [List.contains_iff_mem]
            rw [← hz, ← hgb]
            exact List.getElem_mem _
          have hR3 := HR2.out
          rw [hc9, if_pos (by decide)] at hR3
          have HRF := Lib.hid hR3.symm
          have hz1 : ((tx[j].toNat : Int) == 0) = true := by rw [hz]; rfl
          clear hR3 hc9 hz hgb hlen
          go_wp2
          first | go_ret2 | skip
          rw [← HP.out]
          unfold DUnlR
          rw [HRF.out]
          exact ⟨rfl, HMS.out⟩
        · have hz1 : ((tx[j].toNat : Int) == 0) = false := by
            rw [beq_eq_false_iff_ne]
            exact fun e => hz (UInt8.toNat_inj.1 (by simpa using (by omega : tx[j].toNat = 0)))
          have HST : Hid (∀ b ∈ tx.data.toList.take (j + 1), b ≠ 0) := Lib.hid (fun b hb => by
            rw [List.take_succ_eq_append_getElem (by omega)] at hb
            rcases List.mem_append.1 hb with hb | hb
            · exact HI.out b hb
            · rw [List.mem_singleton] at hb; rw [hb, hgb]; exact hz)
          clear hz hgb hlen
          go_wp2
          go_roundw
          case rel => exact ⟨j + 1, by omega, by go_num, by first | trivial | rfl, HST⟩
          case measure => simp [intOf]; omega
      have hje : j = tx.size := by omega
      have hj1 : ¬ (j : Int) < (tx.size : Int) := by omega
      have hR3 := HR2.out
      rw [show tgtCode tx = 0 by
        rw [HTC.out, if_neg]
        rw [List.contains_iff_mem]
        intro hm
        have hlen : tx.data.toList.length = tx.size := Array.length_toList
        exact HI.out 0 (by rw [hje, ← hlen, List.take_length]; exact hm) rfl, if_neg (by decide)] at hR3
      have hR4 := hR3
      clear hR3 HR2 HTC HI hje
      go_upto_region 18 with fail
  case' neg =>
    rw [if_neg (fun h => hkl h.1)] at hR1
    have hR4 := hR1
    have HTT : Hid ((if kd = 3 then tx else noText) = noText) := Lib.hid (if_neg hkl)
    have hkb : (kd == 3) = false := by rw [beq_eq_false_iff_ne]; exact hkl
    clear hR1 hkl
    go_upto_region 18 with fail
  all_goals
    as_aux_lemma =>
      by_cases hc : c = 0
      case neg =>
        have hcb : (c != 0) = true := by rw [bne_iff_ne]; exact hc
        rw [if_pos hc] at hR4
        have HRF := Lib.hid hR4.symm
        clear hc hR4
        go_wp2
        first | go_ret2 | skip
        rw [← HP.out]
        unfold DUnlR
        rw [HRF.out]
        exact ⟨by first | rfl | done, HMS.out⟩
      subst hc
      rw [if_neg (by decide)] at hR4
      obtain ⟨x, hx1, hx2, hx3, hx4⟩ := last_there HF.out HL.out
      rcases hx4 with ⟨rfl, hx5⟩ | ⟨en, r, hx5, hx6, hx7, hx8⟩
      case inr =>
        have hnb : (n != 0) = true := by rw [bne_iff_ne]; omega
        rw [if_pos (by omega)] at hR4
        have HRF := Lib.hid hR4.symm
        clear hR4 hx1 hx2 hx3 hx5 hx6 hx8
        go_wp2
        first | go_ret2 | skip
        rw [← HP.out]
        unfold DUnlR
        rw [HRF.out]
        exact ⟨by first | rfl | done, HMS.out⟩
      rw [if_neg (by omega)] at hR4
      have HX := Lib.hid (And.intro hx1 hx5)
      have HR4 := Lib.hid hR4
      clear hR4 hx1 hx2 hx3 hx5
      go_upto_region 22 with fail
      go_cut [65] (fun u wx => u = .bool (ps && !(kd == 2)) ∧ w5 = wx)
      case first =>
        cases ps with
        | false =>
          go_wp2_with fail
          go_meet
          case rel => exact ⟨rfl, rfl⟩
        | true =>
          by_cases hk2 : kd = 2
          · have hk2b : (kd != 2) = false := by rw [hk2]; rfl
            have HK2 : Hid ((true && !(kd == 2)) = false) := Lib.hid (by rw [hk2]; rfl)
            clear hk2
            go_wp2_with fail
            go_meet
            case rel => exact ⟨by rw [HK2.out], rfl⟩
          · have hk2b : (kd != 2) = true := by rw [bne_iff_ne]; exact hk2
            have HK2 : Hid ((true && !(kd == 2)) = true) := Lib.hid (by simp [hk2])
            clear hk2
            go_wp2_with fail
            go_meet
            case rel => exact ⟨by rw [HK2.out], rfl⟩
      case rest =>
      obtain ⟨rfl, rfl⟩ := hcut
      have hR5 := HR4.out
      obtain ⟨sb, hsb⟩ : ∃ sb, (ps && !(kd == 2)) = sb := ⟨_, rfl⟩
      rw [hsb] at hR5 ⊢
      cases sb with
      | true =>
        rw [if_pos rfl] at hR5
        have HRF := Lib.hid hR5.symm
        clear hR5 hsb
        go_wp2
        first | go_ret2 | skip
        rw [← HP.out]
        unfold DUnlR
        rw [HRF.out]
        exact ⟨by first | rfl | done, HMS.out⟩
      | false =>
        rw [if_neg (by decide)] at hR5
        have HR5 := Lib.hid hR5
        have hnp0 : ((np : Int) == 0) = false := by rw [beq_eq_false_iff_ne]; have := (HNM.out (by first | exact trivial | exact rfl)).2; omega
        have HDB := Lib.hid (HD.out.below HB5.out)
        clear hR5 hsb
        go_wp2_with fail
        refine (refname_any nm w5).mono ?_
        rw [(HNM.out (by first | exact trivial | exact rfl)).1]
        rintro e w6 ⟨rfl, rfl⟩
        by_cases hfull : 512 ≤ st.ns.length ∨ 16777215 ≤ st.last
        · have hR6 := HR5.out
          rw [if_pos hfull] at hR6
          have HRF := Lib.hid hR6.symm
          have HFU := Lib.hid hfull
          clear hR6 hfull
          go_wp2_with fail
          refine (mmake_full HDB.out (by rw [← HDB.out.len]; exact HFU.out) (by have := HN.out.1; omega) ⟨by have := HF.out.toGood.lo; omega, HF.out.hi⟩ d 0 kd nm _).mono ?_
          rintro e w7 ⟨rfl, hb7⟩
          have HB7 := Lib.hid hb7
          clear hb7
          go_wp2
          first | go_ret2 | skip
          rw [← HP.out]
          unfold DUnlR
          rw [HRF.out]
          exact ⟨by first | rfl | done, (MO.still ⟨v, ms, HD.out⟩ (bl_trans HB5.out HB7.out))⟩
        · have hR6 := HR5.out
          rw [if_neg hfull] at hR6
          have HRF := Lib.hid hR6.symm
          have HFU := Lib.hid hfull
          clear hR6 hfull
          go_wp2_with fail
          refine (mmake_ok HDB.out HF.out (Nat.lt_of_not_le fun hh => HFU.out (.inl hh)) (Int.not_le.1 fun hh => HFU.out (.inr hh)) HX.out.1 0 kd nm _ HX.out.2).mono ?_
          rintro e w7 ⟨rfl, hmo⟩
          have HMO := Lib.hid hmo
          clear hmo
          go_wp2
          first | go_ret2 | skip
          rw [← HP.out]
          unfold DUnlR
          refine ⟨by rw [HRF.out]; first | done | rfl, ?_⟩
          rw [HRF.out]
          simp only
          rw [HTT.out]
          exact MO.pre ⟨v, ms, HD.out⟩ HB5.out HMO.out
end
end Go.Proofs.YtnkcbogikaebfaaGreatDoor
end

section
/- The document's Sorted: its nodes, which rise. -/
namespace Go.Proofs.YtnkcbogikaebfaaGreatDoor
open Go Go.RowKit
set_option maxRecDepth 100000
set_option linter.unusedSimpArgs false
set_option linter.unusedVariables false
attribute [local go_sem] giv
variable {E : Nat → Addr} {B : Nat}
theorem builtN (x : MN) : Tryz.prog.builtSlice 98 1 [(0, .agg (encM x).toArray)] = some (encM x).toArray := by
  obtain ⟨z, hz, hinf⟩ := mnT.info
  obtain ⟨i, i1, i2, i3, i4⟩ := info_parts hinf
  unfold Program.builtSlice
  simp only [i1, i2, i3]
  rw [if_neg (by decide)]
  have hcs : (Value.agg (encM x).toArray).cells = (encM x).toArray := rfl
  have h := Great.fill_whole (s := 199) (by decide) [.agg (encM x).toArray] ((Array.range (1 * 199)).map (z.cells[· % z.cells.size]!)) (by
    intro v hv
    rw [List.mem_singleton] at hv
    rw [hv, hcs]
    simp [encM_len]) (by simp)
  refine h.trans ?_
  simp [hcs]
theorem SlE.cellM {w : World} {base : Nat} {v : Value} {ms : List MN} (h : SlE w base 98 199 encM v ms) {g : Nat} (hg : v.ownBlock = some g) {i j : Nat} {x : MN} (hi : ms[i]? = some x) (hj : j < 199) : w.cell? ⟨g, i * 199 + j, none⟩ = (encM x)[j]? := by
  have hil := (List.getElem?_eq_some_iff.1 hi).1
  have h1 := flat_get encM_len ms i j hil hj
  rw [hi] at h1
  have hlt : i * 199 + j < (flat encM ms).length := by rw [flat_len encM_len]; omega
  have := World.ownsRow.cells h (g := g) hg (i * 199 + j) _ (List.getElem?_eq_getElem hlt)
  rw [show (⟨g, 0, none⟩ : Addr).add (i * 199 + j) = ⟨g, i * 199 + j, none⟩ by unfold Addr.add; split <;> simp_all] at this
  rw [this, ← List.getElem?_eq_getElem hlt, h1]
  rfl
theorem wpList_build_one {P : Program} {ops : Array Oper} {rest : List Oper} {o : Oper} {a : Act} {w : World} {Q : Exit → Act → World → Prop} (hg : o.guard = none) (t e : TypeId) (y : Operand) (ho : o.op = .buildSlice t 1 #[(0, y)])
    (N : Nat) (hN : w.heap.size = N) (dst : Option Tmp) (hdst : o.dst = dst) (hu : P.underlying t = some (.slice e)) (cs : Array Value) (hy : a.eval y = .agg cs) (hf : P.builtSlice e 1 [(0, .agg cs)] = some cs)
    (h : wpList P ops Q rest (a.put dst (.slice (some ⟨N, 0, none⟩) 1 1)) (w.alloc (.cells cs e))) : wpList P ops Q (o :: rest) a w :=
  Great.wpList_buildSliceTo hg t e 1 #[(0, y)] ho N hN dst hdst hu cs (by simp only [List.map_toArray, List.map_cons, List.map_nil, hy]; exact hf) h
section
variable {T : Nat → Prop} {w : World} {m : Nat} {st : St} {v : Value} {ms : List MN}
set_option maxHeartbeats 8000000 in
theorem msorted_any (h : DW B T w m st v ms) (t : Tid st) : Calls Tryz.prog 57 #[.pointer (some ⟨m, 0, none⟩)] w fun e w' =>
    (∃ u, e = .returned u ∧ SlE w' w.heap.size 98 199 encM u ms) ∧ Below w.heap.size w w' := by
  have HD := Lib.hid h
  have hn := h.small t
  have HN := Lib.hid hn
  have hrise : ∀ i j (hi : i < ms.length) (hj : j < ms.length), i < j → ms[i].nr.nd.id < ms[j].nr.nd.id := fun i j hi hj hij => by
    have h1 := t.rise
    rw [← h.eq] at h1
    have := List.pairwise_iff_getElem.1 h1 i j (by simpa using hi) (by simpa using hj) hij
    simpa using this
  have HRI := Lib.hid hrise
  obtain ⟨sp, cap, hv⟩ := h.shape
  have hc2 := h.c2
  have hml := (h.lt m h.tm).2
  rw [hv] at hc2
  have HC2 := Lib.hid (And.intro hc2 hml)
  have HV := Lib.hid hv
  generalize hP : (fun (e : Ending) (w' : World) => (∃ u, e = .returned u ∧ SlE w' w.heap.size 98 199 encM u ms) ∧ Below w.heap.size w w') = Post
  have HP := Lib.hid hP
  clear hP h hv hrise hn
  go_enter Tryz.func57, Tryz.ntmps57
  go_wp2_with fail
  go_loopw [3, 4] (fun o i wr => ∃ j : Nat, j ≤ ms.length ∧ i = .int .i64 (j : Int) ∧ Hid (SlE wr w.heap.size 98 199 encM o (ms.take j) ∧ Below w.heap.size w wr)) (fun _ i _ => ms.length - (intOf i).toNat)
  case atStart => exact ⟨0, Nat.zero_le _, rfl, Lib.hid ⟨SlE.nil _ _ _ _ _, Below.refl _ _⟩⟩
  case round =>
    obtain ⟨j, hj, rfl, HI⟩ := hrel
    obtain ⟨wo, rfl⟩ : ∃ wo, wo = wr := ⟨_, rfl⟩
    have hc2 : wo.cell? ⟨m, 2, none⟩ = some (.slice sp ms.length cap) := (HI.out.2.cell (p := ⟨m, 2, none⟩) HC2.out.2).trans HC2.out.1
    have hml : m < wo.heap.size := Nat.lt_of_lt_of_le HC2.out.2 HI.out.2.size
    by_cases hlt : j < ms.length
    case neg =>
      as_aux_lemma =>
      have hje : j = ms.length := by omega
      have hj1 : ¬ (j : Int) < (ms.length : Int) := by omega
      have hfin := HI.out.1
      rw [hje, List.take_length] at hfin
      have HFIN := Lib.hid (And.intro hfin HI.out.2)
      clear hfin hje hlt
      go_wp2
      first | go_ret | skip
      rw [← HP.out]
      exact ⟨⟨_, rfl, HFIN.out.1⟩, HFIN.out.2⟩
    as_aux_lemma =>
    have hj1 : (j : Int) < (ms.length : Int) := by omega
    have hj0 : (0 : Int) ≤ (j : Int) := by omega
    obtain ⟨g, cap', hv', hgl⟩ := HD.out.block (by rintro rfl; simp at hlt)
    have hsp : sp = some ⟨g, 0, none⟩ := by have := HV.out.symm.trans hv'; injection this
    subst hsp
    have hgr : g < wo.heap.size := Nat.lt_of_lt_of_le hgl HI.out.2.size
    have HG := Lib.hid (And.intro hv' (And.intro hgl hgr))
    have hoShape := slShape3 HI.out.1
    obtain ⟨so, nn, co, ho⟩ := hoShape
    subst ho
    have hrd := HI.out.1.rd encM_len
    have hnn := hrd.len
    have htl : (ms.take j).length = j := by rw [List.length_take]; omega
    rw [htl] at hnn
    have HNN := Lib.hid hnn
    have HRD := Lib.hid hrd
    have HLT := Lib.hid hlt
    have hjn : (j : Int) ≤ (nn : Int) := by omega
    have hnc : (nn : Int) ≤ (co : Int) := by omega
    clear hrd htl hv' hnn
    go_wp2_with fail
    go_loopw [5] (fun k wq => ∃ c : Nat, c ≤ j ∧ k = .int .i64 (c : Int) ∧ Hid (Below wo.heap.size wo wq)) (fun k _ => j - (intOf k).toNat)
    case atStart => exact ⟨0, Nat.zero_le _, rfl, Lib.hid (Below.refl _ _)⟩
    case round =>
      obtain ⟨c, hcj, rfl, HJ⟩ := hrel
      have hd2 : wr.cell? ⟨m, 2, none⟩ = some (.slice (some ⟨g, 0, none⟩) ms.length cap) := (HJ.out.cell (p := ⟨m, 2, none⟩) hml).trans hc2
      have hmr : m < wr.heap.size := Nat.lt_of_lt_of_le hml HJ.out.size
      have hgr2 : g < wr.heap.size := Nat.lt_of_lt_of_le HG.out.2.2 HJ.out.size
      have cN : wr.cell? ⟨g, j * 199, none⟩ = some (.int .i64 ms[j].nr.nd.id) := by
        have := (HD.out.below (HI.out.2.trans (HJ.out.mono HI.out.2.size))).cell HG.out.1 (j := 0) (List.getElem?_eq_getElem HLT.out) (by omega)
        rw [(encM_get _).1, Nat.add_zero] at this
        exact this
      by_cases hc : c < j
      case' neg =>
        have HCJ : Hid (c = j) := Lib.hid (by omega)
        have hc1 : ¬ (c : Int) < (nn : Int) := by have := HNN.out.1; omega
        have hd1 : decide (c < nn) = false := decide_eq_false (by have := HNN.out.1; omega)
        clear hc
        go_wp2_with fail
        go_quiet (fail)
      case' pos =>
        have hc1 : (c : Int) < (nn : Int) := by have := HNN.out.1; omega
        have hc0 : (0 : Int) ≤ (c : Int) := by omega
        have hcs : (c : Int) ≤ 512 := by have := HN.out; omega
        have hd1 : decide (c < nn) = true := decide_eq_true (by have := HNN.out.1; omega)
        have hcl : c < ms.length := by omega
        have htk : (ms.take j)[c]? = some ms[c] := by rw [List.getElem?_take, if_pos hc, List.getElem?_eq_getElem hcl]
        have hsln := HI.out.1
        obtain ⟨go, hso⟩ : ∃ go, so = some ⟨go, 0, none⟩ := by
          rcases SlE.cases hsln with ⟨e1, e2⟩ | ⟨go, cp, e1, _⟩
          · exfalso
            have h9 : (ms.take j).length = 0 := by rw [e2]; rfl
            rw [List.length_take] at h9
            omega
          · injection e1 with e1
            exact ⟨go, e1⟩
        have cO : wr.cell? ⟨go, c * 199, none⟩ = some (.int .i64 ms[c].nr.nd.id) := by
          have := (hsln.below HJ.out).cellM (g := go) (by rw [hso]; rfl) htk (j := 0) (by omega)
          rw [(encM_get _).1, Nat.add_zero] at this
          exact this
        have hlt2 := HRI.out c j hcl HLT.out hc
        have hd2b : decide (ms[c].nr.nd.id < ms[j].nr.nd.id) = true := decide_eq_true hlt2
        have HC := Lib.hid (And.intro hc hcj)
        subst hso
        generalize ms[c].nr.nd.id = ic at *
        generalize ms[j].nr.nd.id = ij at *
        clear hc hcj htk hsln
        go_wp2_with fail
        go_quiet (fail)
        go_wp2
        go_roundw
        case rel => exact ⟨c + 1, by have := HC.out.1; omega, by first | go_num | exact congrArg (Value.int .i64) (wrapE_step (show c < ms.length from hcl) (by have := HN.out; omega)), Lib.hid (HJ.out.trans ((drewN_below wr _).mono HJ.out.size))⟩
        case measure => have := HC.out.1; simp [intOf]; omega
      go_upto_region 8 with fail
      refine wp_fromB wr ?hb ?_
      case hb => exact ⟨rfl, rfl, rfl, Nat.le_refl _, fun _ _ => rfl⟩
      intro wz hz
      have HBO := Lib.hid (HJ.out.trans (hz.mono HJ.out.size))
      have HBZ := Lib.hid (HI.out.2.trans (HBO.out.mono HI.out.2.size))
      have HDZ := Lib.hid (HD.out.below HBZ.out)
      have HRZ := Lib.hid (HRD.out.below HBO.out)
      have hcn : (c : Int) ≤ (nn : Int) := by have := HNN.out.1; have := HCJ.out; omega
      have hcc0 : (c : Int) ≤ (co : Int) := by omega
      have hcl : c ≤ co := by omega
      have hc2z : wz.cell? ⟨m, 2, none⟩ = some (.slice (some ⟨g, 0, none⟩) ms.length cap) := (HBZ.out.cell (p := ⟨m, 2, none⟩) HC2.out.2).trans HC2.out.1
      have hmz : m < wz.heap.size := Nat.lt_of_lt_of_le HC2.out.2 HBZ.out.size
      have hgz : g < wz.heap.size := Nat.lt_of_lt_of_le HG.out.2.1 HBZ.out.size
      have HOWN := Lib.hid (emptyM wz)
      have HTK : Hid ((ms.take j).take c = ms.take j) := Lib.hid (by rw [HCJ.out, List.take_take, Nat.min_self])
      have HR1 : Hid (RdE (wz.alloc (.cells #[] 98)) 199 encM (.slice so c co) (ms.take j)) := Lib.hid (by
        have := RdE.taken (m := c) (HRZ.out.below (bl_alloc (Below.refl _ wz) (.cells #[] 98))) (by omega)
        rw [HTK.out] at this
        exact this)
      have HTL : Hid ((ms.take j).length ≤ 512) := Lib.hid (by rw [List.length_take]; have := HN.out; omega)
      clear hz hc2 hd2 hmr hgr2 cN hd1 hc1
      go_upto_region 9 with (at_builtin; refine wpList_app mnT rfl _ _ rfl rfl HOWN.out rfl HR1.out (smallB (show 0 + (ms.take j).length ≤ 1000000 by have := HTL.out; omega)) (show (0 + (ms.take j).length) * 1744 ≤ 140737488355328 by have := HTL.out; omega) (by simp) ?_; intro v6 w6 hs6 ht6; have HS6 := Lib.hid hs6; have HT6 := Lib.hid ht6; clear hs6 ht6)
      have hb6 : Below wz.heap.size wz w6 := (bl_alloc (Below.refl _ wz) (.cells #[] 98)).trans (HT6.out.below (by simp) (fun y hy => by have hy : (Value.slice (some ⟨wz.heap.size, 0, none⟩) 0 0).ownBlock = some y := hy; simp [Value.ownBlock] at hy; omega))
      have hs6 := HS6.out
      rw [List.nil_append] at hs6
      obtain ⟨sp6, n6, c6, rfl⟩ := slShape3 hs6
      have HS6' := Lib.hid hs6
      have HD6 := Lib.hid (HDZ.out.below hb6)
      have hc26 : w6.cell? ⟨m, 2, none⟩ = some (.slice (some ⟨g, 0, none⟩) ms.length cap) := (hb6.cell (p := ⟨m, 2, none⟩) hmz).trans hc2z
      have HB6 := Lib.hid hb6
      have hra : w6.rangeAt g (j * 199) (encM ms[j]) := fun i u hu => by
        have hi : i < 199 := by
          have := (List.getElem?_eq_some_iff.1 hu).1
          rw [encM_len] at this
          exact this
        rw [HD6.out.cell HG.out.1 (List.getElem?_eq_getElem HLT.out) hi]
        exact hu
      have HRA := Lib.hid hra
      have HOWN2 : Hid (SlE (w6.alloc (.cells (encM ms[j]).toArray 98)) wz.heap.size 98 199 encM (.slice sp6 n6 c6) (ms.take j)) := Lib.hid (hs6.below (bl_alloc (Below.refl _ _) _))
      have HROW2 : Hid (RdE (w6.alloc (.cells (encM ms[j]).toArray 98)) 199 encM (.slice (some ⟨w6.heap.size, 0, none⟩) 1 1) [ms[j]]) := Lib.hid (RdE.one (x := ms[j]) (Row.new w6 98 (encM ms[j])))
      have HSZ2 : Hid (wz.heap.size ≤ (w6.alloc (.cells (encM ms[j]).toArray 98)).heap.size) := Lib.hid (Nat.le_trans hb6.size (by simp))
      obtain ⟨xj, hxj⟩ : ∃ xj, ms[j] = xj := ⟨_, rfl⟩
      rw [hxj] at HRA HOWN2 HROW2 HSZ2
      have HXJ := Lib.hid hxj
      clear hs6 hb6 hra hc2z hxj HOWN HR1 HS6 HT6
      go_upto_region 10 with (first
        | (refine wpList_load_mid rfl 98 _ rfl g (j * 199) rfl (encM xj) _ HRA.out Tryz.underlying98 rfl (by rw [encM_len]; kernel_rfl) ?_)
        | (refine wpList_build_one rfl 99 98 _ rfl w6.heap.size rfl _ rfl Tryz.underlying99 (encM xj).toArray rfl (builtN xj) ?_)
        | (at_builtin; refine wpList_app mnT rfl _ _ rfl rfl HOWN2.out rfl HROW2.out (smallB (show (ms.take j).length + 1 ≤ 1000000 by have := HTL.out; omega)) (show ((ms.take j).length + 1) * 1744 ≤ 140737488355328 by have := HTL.out; omega) HSZ2.out ?_; intro v7 w7 hs7 ht7; have HS7 := Lib.hid hs7; have HT7 := Lib.hid ht7; clear hs7 ht7))
      obtain ⟨sp7, n7, c7, rfl⟩ := slShape3 HS7.out
      have hb7 : Below wz.heap.size wz w7 := (HB6.out.trans ((bl_alloc (Below.refl _ w6) (.cells (encM xj).toArray 98)).mono HB6.out.size)).trans (HT7.out.below HSZ2.out (fun y hy => (SlE.lt HOWN2.out y hy).1))
      have HB7 := Lib.hid hb7
      have HR7 : Hid (RdE w7 199 encM (.slice so nn co) (ms.take j)) := Lib.hid (HRZ.out.below hb7)
      have HZ7 : Hid (wz.heap.size ≤ w7.heap.size) := Lib.hid hb7.size
      have HDR : Hid ((ms.take j).drop c = []) := Lib.hid (by rw [HCJ.out]; exact List.drop_of_length_le (by rw [List.length_take]; omega))
      have hcj3 : c ≤ nn := by omega
      have hjs : (j : Int) ≤ 512 := by have := HN.out; omega
      clear hb7 hc26
      by_cases hcc : co = c
      case' neg =>
        have hcl2 : (co = c) = False := by simp [hcc]
        have hcn2 : ¬ (nn = 0 ∧ co = 0) := by omega
        obtain ⟨ad, rfl⟩ : ∃ ad, so = some ad := by
          cases so with
          | none => have := RdE.nosp HR7.out; omega
          | some a => exact ⟨a, rfl⟩
        have HRT : Hid (RdE w7 199 encM _ ((ms.take j).drop c)) := Lib.hid (RdE.dropped HR7.out hcj3 hcc)
        clear hcc hcn2
      case' pos =>
        have hcl2 : (co = c) = True := by simp [hcc]
        have HRT : Hid (RdE w7 199 encM (.slice so (nn - c) (co - c)) ((ms.take j).drop c)) := Lib.hid (by
          rw [HDR.out, show nn - c = 0 by omega, show co - c = 0 by omega]
          exact RdE.empty _ _ _ _)
        clear hcc
      all_goals
        as_aux_lemma =>
        go_wp2_with (at_builtin; refine wpList_app mnT rfl _ _ rfl rfl HS7.out rfl (by exact HRT.out) (by rw [HDR.out]; exact smallB (show (ms.take j ++ [xj]).length + 0 ≤ 1000000 by rw [List.length_append]; have := HTL.out; simp only [List.length_singleton]; omega)) (by rw [HDR.out]; show ((ms.take j ++ [xj]).length + 0) * 1744 ≤ 140737488355328; rw [List.length_append]; have := HTL.out; simp only [List.length_singleton]; omega) HZ7.out ?_; intro v8 w8 hs8 ht8; have HS8 := Lib.hid hs8; have HT8 := Lib.hid ht8; clear hs8 ht8)
        go_roundw
        case rel =>
          refine ⟨j + 1, by have := HLT.out; omega, by go_num, Lib.hid ⟨?_, ?_⟩⟩
          · have h8 := HS8.out
            rw [HDR.out, List.append_nil, ← HXJ.out] at h8
            have e9 : ms.take (j + 1) = ms.take j ++ [ms[j]] := List.take_succ_eq_append_getElem HLT.out
            rw [e9]
            exact SlE.mono h8 HBZ.out.size
          · exact HBZ.out.trans ((HB7.out.trans (HT8.out.below HZ7.out (fun y hy => (SlE.lt HS7.out y hy).1))).mono HBZ.out.size)
        case measure => have := HLT.out; simp [intOf]; omega
end
end Go.Proofs.YtnkcbogikaebfaaGreatDoor
end
