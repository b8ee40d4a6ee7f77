/- Merged texts: TreeRenF Doc DocEnt DocParse DocSplit DocWith DocNew DocOnto DocCnt. -/
import Derived.Test.YtnkcbogikaebfaaGreatDoorBase31
import Derived.Test.YtnkcbogikaebfaaGreatDoorBase30
import Derived.Test.YtnkcbogikaebfaaGreatDoorBase27
import Derived.Test.YtnkcbogikaebfaaGreatDoorBase29
import Derived.Test.YtnkcbogikaebfaaGreatDoorBase26
section
/- Plain facts for package tree's Rename. -/
namespace Go.Proofs.YtnkcbogikaebfaaGreatDoor
open Go Go.RowKit
set_option maxRecDepth 100000
set_option linter.unusedSimpArgs false
set_option linter.unusedVariables false
/-- The place where a name is to be. -/
theorem ren_place {st : St} (f : Full st) {y : ByteArray} (h0 : (parseP y).1 = 0) {gd gn : Int} {gname : ByteArray} (hg : lastP st (parseP y).2 = (0, ⟨gd, gn, gname⟩)) :
    1 ≤ gd ∧ gd ≤ 16777215 ∧ st.isDir gd = true ∧ RiseE (st.ents gd) ∧ gname.size ≤ maxLen ∧ RiseN (st.delE gd gname).ns ∧ nmCode gname = 0 ∧ nmSpecial gname = false := by
  have hl := lastP_ok hg
  obtain ⟨h7, h8⟩ := hl.name (show parseP y = (0, (parseP y).2) by rw [← h0])
  obtain ⟨x, h1, h2, h3⟩ := hl.at'
  have hfd := dir_ids f.toGood h1
  simp only at h1 h3 h7 h8 hfd
  refine ⟨hfd.1, hfd.2.1, by unfold St.isDir; rw [h1]; simp [h2], ?_, Nat.le_trans (nmCode_size h7) (by decide), onR_rise f.rise, h7, h8⟩
  rw [show st.ents gd = x.ents by unfold St.ents; rw [h1]; rfl]
  exact f.erise x (findN_mem h1)
theorem ren_old {st : St} (f : Full st) {gd gn : Int} {gname : ByteArray} {m : NR} (hm : st.get gn = some m) :
    validB m.nd = true ∧ m.nd.id = gn ∧ 1 ≤ gn ∧ gn ≤ 16777215 ∧ ∃ x, (st.delE gd gname).get m.nd.id = some x := by
  have hid := findN_id hm
  have hv := f.val m (findN_mem hm)
  have hvi := valid_ids hv
  refine ⟨hv, hid, by omega, by omega, ?_⟩
  rw [hid]
  obtain ⟨y, hy, _⟩ := get_delE_of (d := gd) (n := gname) hm
  exact ⟨y, hy⟩
theorem ren_tail {st : St} (f : Full st) {x y : ByteArray} (hx : (parseP x).1 = 0) (hy : (parseP y).1 = 0) {fd fn : Int} {fname : ByteArray} {n : Nd} (hf : thereP st (parseP x).2 = (0, ⟨fd, fn, fname⟩, n))
    {gd gn : Int} {gname : ByteArray} (hg : lastP st (parseP y).2 = (0, ⟨gd, gn, gname⟩)) (hne : fn ≠ gn) (hc : renC st ⟨gd, gn, gname⟩ (parseP y).2.slash n = 0) :
    (ousted st ⟨gd, gn, gname⟩).isDir fd = true ∧ RiseE ((ousted st ⟨gd, gn, gname⟩).ents fd) ∧ RiseN ((ousted st ⟨gd, gn, gname⟩).delE fd fname).ns ∧
      (∃ z, ((ousted st ⟨gd, gn, gname⟩).delE fd fname).get n.id = some z) ∧ (n.kind = 2 → validB (setPar n gd) = true) ∧
      (if n.kind = 2 then ((ousted st ⟨gd, gn, gname⟩).delE fd fname).put (setPar n gd) else (ousted st ⟨gd, gn, gname⟩).delE fd fname).isDir gd = true ∧
      addCode (entOf ((if n.kind = 2 then ((ousted st ⟨gd, gn, gname⟩).delE fd fname).put (setPar n gd) else (ousted st ⟨gd, gn, gname⟩).delE fd fname).ents gd)) ⟨gname, n.id, n.kind⟩ = 0 := by
  obtain ⟨_, x0, e, r, h1, h2, h3, h4, h5, h6⟩ := thereP_ok f.toGood hf
  subst h6
  have hl := lastP_ok hg
  obtain ⟨hc1, hs1⟩ := hl.name (show parseP y = (0, (parseP y).2) by rw [← hy])
  obtain ⟨F, ⟨z, hz1, hz2, hz3⟩, H1, H2⟩ := ousted_full f hl (fun m hm hk => by
    unfold renC at hc
    rw [hm] at hc
    simp only at hc
    unfold ontoC at hc
    by_cases hr2 : r.nd.kind = 2
    · rw [if_neg (fun h => h.2 hk), if_neg (fun h => h.1 hr2)] at hc
      cases hb : st.full m.nd.id with
      | false => rfl
      | true => rw [if_pos ⟨hk, hb⟩] at hc; exact absurd hc (by decide)
    · rw [if_neg (fun h => hr2 h.1), if_pos ⟨hr2, hk⟩] at hc
      exact absurd hc (by decide))
  simp only at h1 h3 h4 h5 hz1 hz3 hc1 hs1
  obtain ⟨x', h7, h8, h9⟩ := H1 _ _ _ _ h1 h2 h3 (by rw [h4]; exact hne)
  obtain ⟨n', h10, h11⟩ := H2 _ _ h5 hne
  have hid := findN_id h5
  have hv := f.val r (findN_mem h5)
  obtain ⟨n2, h12, h13, _⟩ := get_delE_of (d := fd) (n := fname) h10
  obtain ⟨z2, h14, h15, h16, h17⟩ := get_delE_of (d := fd) (n := fname) hz1
  have hgd := dir_ids F.toGood hz1
  have hz2no : entOf z2.ents gname = none := by
    by_cases hdd : gd = fd
    · rw [h17 hdd, entOf_cutE]
      split
      · rfl
      · exact hz3
    · rw [h16 hdd]
      exact hz3
  generalize ho : (ousted st ⟨gd, gn, gname⟩) = o at *
  have hrise : RiseN (o.delE fd fname).ns := onR_rise F.rise
  have hkk : 1 ≤ r.nd.kind ∧ r.nd.kind ≤ 3 := by
    simp only [validB, kindB, Bool.and_eq_true, decide_eq_true_eq] at hv
    omega
  have hids := valid_ids hv
  have hm : mayB ⟨gname, r.nd.id, r.nd.kind⟩ = true := by
    simp only [mayB, Bool.and_eq_true, decide_eq_true_eq]
    omega
  refine ⟨by unfold St.isDir; rw [h7]; simp [h8, h2], ?_, hrise, ⟨n2, by rw [hid]; exact h12⟩, fun hk => valid_par hv hk ⟨hgd.1, hgd.2.1⟩, ?_⟩
  · rw [show o.ents fd = x'.ents by unfold St.ents; rw [h7]; rfl]
    exact F.erise x' (findN_mem h7)
  · obtain ⟨v, hv1, hv2, hv3⟩ : ∃ v, (if r.nd.kind = 2 then (o.delE fd fname).put (setPar r.nd gd) else o.delE fd fname).get gd = some v ∧ v.nd.kind = 2 ∧ entOf v.ents gname = none := by
      by_cases hk : r.nd.kind = 2
      · rw [if_pos hk, get_put hrise]
        by_cases hgi : gd = (setPar r.nd gd).id
        · rw [if_pos hgi]
          refine ⟨_, rfl, hk, ?_⟩
          rw [← hgi, h14]
          simp only
          rw [keepE_both (by exact hk) (by rw [h15]; exact hz2)]
          exact hz2no
        · rw [if_neg hgi]
          exact ⟨z2, h14, by rw [h15]; exact hz2, hz2no⟩
      · rw [if_neg hk]
        exact ⟨z2, h14, by rw [h15]; exact hz2, hz2no⟩
    refine ⟨by unfold St.isDir; rw [hv1]; simp [hv2], ?_⟩
    have he : (if r.nd.kind = 2 then (o.delE fd fname).put (setPar r.nd gd) else o.delE fd fname).ents gd = v.ents := by unfold St.ents; rw [hv1]; rfl
    unfold addCode
    rw [if_pos hc1, if_neg (by rw [hs1]; decide), if_pos hm, he, hv3]
    rfl
end Go.Proofs.YtnkcbogikaebfaaGreatDoor
end

section
/- The document's tree (breviaryref21.M) in memory: its nodes in a slice, each node's entries in a slice of their own; what is asked of it. It holds the same plain tree St. -/
namespace Go.Proofs.YtnkcbogikaebfaaGreatDoor
open Go Go.RowKit
set_option maxRecDepth 100000
set_option linter.unusedSimpArgs false
set_option linter.unusedVariables false
attribute [local go_sem] giv
variable {E : Nat → Addr} {B : Nat}

/-- A node's other cells: which blocks it has, which are lost, their bytes. -/
def MRest : Type := { l : List Value // l.length = 192 ∧ ∀ u ∈ l, u.oneCell' = true }
def restZ : MRest := ⟨List.replicate 128 (.bool false) ++ List.replicate 64 (.slice none 0 0), by simp, by
  intro u hu
  rcases List.mem_append.1 hu with h | h
  · rw [List.eq_of_mem_replicate h]; rfl
  · rw [List.eq_of_mem_replicate h]; rfl⟩
structure MN where
  nr : NR
  sp : Option Addr
  cap : Nat
  rest : MRest
def MN.ev (x : MN) : Value := .slice x.sp x.nr.ents.length x.cap
def encM (x : MN) : List Value := [.int .i64 x.nr.nd.id, .int .i64 x.nr.nd.kind, .int .i64 x.nr.nd.links, .int .i64 x.nr.nd.size, .string x.nr.nd.target, .int .i64 x.nr.nd.parent, x.ev] ++ x.rest.1
theorem encM_len (x : MN) : (encM x).length = 199 := by simp [encM, x.rest.2.1]
theorem encM_get (x : MN) : (encM x)[0]? = some (.int .i64 x.nr.nd.id) ∧ (encM x)[1]? = some (.int .i64 x.nr.nd.kind) ∧ (encM x)[2]? = some (.int .i64 x.nr.nd.links) ∧ (encM x)[3]? = some (.int .i64 x.nr.nd.size) ∧ (encM x)[4]? = some (.string x.nr.nd.target) ∧
    (encM x)[5]? = some (.int .i64 x.nr.nd.parent) ∧ (encM x)[6]? = some x.ev := ⟨rfl, rfl, rfl, rfl, rfl, rfl, rfl⟩
def zeroM : Value := .agg (([.int .i64 0, .int .i64 0, .int .i64 0, .int .i64 0, .string ⟨#[]⟩, .int .i64 0, .slice none 0 0] : List Value) ++ restZ.1).toArray
theorem mnT : ElemT Tryz.prog 99 98 199 1744 encM where
  ht := Tryz.underlying99
  info := ⟨zeroM, by simp [zeroM, Value.cells, restZ.2.1], by kernel_rfl⟩
  len := encM_len
  one := fun x u hu => by
    unfold encM at hu
    rcases List.mem_append.1 hu with h | h
    · simp at h
      rcases h with rfl | rfl | rfl | rfl | rfl | rfl | rfl <;> rfl
    · exact x.rest.2.2 u h
  pos := by omega
/-- Block m is an M's 51 cells, each of them one cell. -/
def IsM (w : World) (m : Nat) : Prop := ∃ cs, Row w m 104 cs ∧ cs.length = 51 ∧ ∀ u ∈ cs, u.oneCell' = true
section
variable {w w' : World} {m : Nat}
theorem IsM.same (h : IsM w m) (he : w'.heap[m]? = w.heap[m]?) : IsM w' m := by
  obtain ⟨cs, h1, h2, h3⟩ := h
  exact ⟨cs, h1.keep he, h2, h3⟩
theorem IsM.set (h : IsM w m) (i : Nat) {v : Value} (hv : v.oneCell' = true) : IsM (w.setCell ⟨m, i, none⟩ v) m := by
  obtain ⟨cs, h1, h2, h3⟩ := h
  refine ⟨cs.set i v, ?_, by simp [h2], fun u hu => ?_⟩
  · unfold Row at h1 ⊢
    simp [World.setCell, Array.getElem?_modify, h1]
  · rcases List.mem_or_eq_of_mem_set hu with hu | hu
    · exact h3 u hu
    · subst hu; exact hv
theorem IsM.new (w : World) {cs : List Value} (h1 : cs.length = 51) (h2 : ∀ u ∈ cs, u.oneCell' = true) : IsM (w.alloc (.cells cs.toArray 104)) w.heap.size := ⟨cs, Row.new w _ cs, h1, h2⟩
theorem isM_alloc (w : World) (Y : Array Value) (h1 : Y.size = 51) (h2 : ∀ u ∈ Y.toList, u.oneCell' = true) : IsM (w.alloc (.cells Y 104)) w.heap.size := by
  have := IsM.new w (cs := Y.toList) (by simpa using h1) h2
  simpa using this
end
/-- Block m is the document's tree: its nodes ms (as st has them) in v; the blocks of T are its own, and the entries' among them are neither m nor the nodes'. -/
structure DW (B : Nat) (T : Nat → Prop) (w : World) (m : Nat) (st : St) (v : Value) (ms : List MN) : Prop where
  eq : ms.map MN.nr = st.ns
  c1 : w.cell? ⟨m, 1, none⟩ = some (.int .i64 st.last)
  c2 : w.cell? ⟨m, 2, none⟩ = some v
  f1 : w.frozen? ⟨m, 1, none⟩ = false
  f2 : w.frozen? ⟨m, 2, none⟩ = false
  sl : SlE w B 98 199 encM v ms
  own : ∀ x, v.ownBlock = some x → T x ∧ x ≠ m
  ents : ∀ x ∈ ms, RdEn w x.ev x.nr.ents ∧ ∀ h, x.ev.ownBlock = some h → T h ∧ h ≠ m ∧ v.ownBlock ≠ some h
  tm : T m
  lt : ∀ x, T x → B ≤ x ∧ x < w.heap.size
  hB : B ≤ w.heap.size
  ism : IsM w m
section
variable {T S : Nat → Prop} {w w' : World} {m : Nat} {st : St} {v : Value} {ms : List MN}
theorem DW.touch (h : DW B T w m st v ms) (ht : Touch S w w') (hS : ∀ x, T x → ¬ S x) : DW B T w' m st v ms :=
  ⟨h.eq, (ht.cell (p := ⟨m, 1, none⟩) (h.lt m h.tm).2 (hS m h.tm)).trans h.c1, (ht.cell (p := ⟨m, 2, none⟩) (h.lt m h.tm).2 (hS m h.tm)).trans h.c2, (ht.frozen (p := ⟨m, 1, none⟩) (h.lt m h.tm).2 (hS m h.tm)).trans h.f1, (ht.frozen (p := ⟨m, 2, none⟩) (h.lt m h.tm).2 (hS m h.tm)).trans h.f2,
    h.sl.touch ht (fun x hx => hS x (h.own x hx).1), h.own, fun x hx => ⟨(h.ents x hx).1.touch ht (fun y hy => hS y ((h.ents x hx).2 y hy).1), (h.ents x hx).2⟩, h.tm, fun x hx => ⟨(h.lt x hx).1, Nat.lt_of_lt_of_le (h.lt x hx).2 ht.size⟩, Nat.le_trans h.hB ht.size, h.ism.same (ht.block m (h.lt m h.tm).2 (hS m h.tm))⟩
theorem DW.below (h : DW B T w m st v ms) (hb : Below w.heap.size w w') : DW B T w' m st v ms := h.touch (Touch.of_below hb NoB) (fun _ _ h => h)
theorem DW.shape (h : DW B T w m st v ms) : ∃ sp cap, v = .slice sp ms.length cap := by
  rcases h.sl.cases with ⟨rfl, rfl⟩ | ⟨g, cap, rfl, _⟩
  · exact ⟨_, _, rfl⟩
  · exact ⟨_, _, rfl⟩
/-- Where its nodes lie. -/
theorem DW.block (h : DW B T w m st v ms) (hn : ms ≠ []) : ∃ g cap, v = .slice (some ⟨g, 0, none⟩) ms.length cap ∧ g < w.heap.size := by
  rcases h.sl.cases with ⟨_, h⟩ | ⟨g, cap, rfl, _, h, _⟩
  · exact absurd h hn
  · exact ⟨g, cap, rfl, h⟩
theorem DW.cell (h : DW B T w m st v ms) {g cap n i j : Nat} (hv : v = .slice (some ⟨g, 0, none⟩) n cap) {x : MN} (hi : ms[i]? = some x) (hj : j < 199) : w.cell? ⟨g, i * 199 + j, none⟩ = (encM x)[j]? := by
  subst hv
  have hil := (List.getElem?_eq_some_iff.1 hi).1
  have h1 := flat_get encM_len ms i j hil hj
  rw [hi] at h1
  have hlt : i * 199 + j < (flat encM ms).length := by rw [flat_len encM_len]; omega
  have := World.ownsRow.cells h.sl (g := g) rfl (i * 199 + j) _ (List.getElem?_eq_getElem hlt)
  rw [show (⟨g, 0, none⟩ : Addr).add (i * 199 + j) = ⟨g, i * 199 + j, none⟩ by unfold Addr.add; split <;> simp_all] at this
  rw [this, ← List.getElem?_eq_getElem hlt, h1]
  rfl
end
/-- The place of a node. -/
def idxM (id : Int) : List MN → Nat → Int
  | [], _ => -1
  | x :: l, i => if x.nr.nd.id = id then (i : Int) else idxM id l (i + 1)
def placeM (ms : List MN) (id : Int) : Int := idxM id ms 0
theorem idxM_drop {id : Int} : ∀ {ms : List MN} {k i : Nat}, (∀ x ∈ ms.take k, x.nr.nd.id ≠ id) → k ≤ ms.length → idxM id ms i = idxM id (ms.drop k) (i + k)
  | [], 0, i, _, _ => rfl
  | [], k + 1, i, _, h => by simp at h
  | x :: l, 0, i, _, _ => rfl
  | x :: l, k + 1, i, h, hk => by
    have h0 : idxM id (x :: l) i = idxM id l (i + 1) := if_neg (h x (by simp))
    rw [h0, idxM_drop (ms := l) (k := k) (fun y hy => h y (by simp [hy])) (by simpa using hk), List.drop_succ_cons, show i + 1 + k = i + (k + 1) by omega]
theorem idxM_spec {id : Int} : ∀ (ms : List MN) (i : Nat), (idxM id ms i = -1 ∧ ∀ x ∈ ms, x.nr.nd.id ≠ id) ∨ ∃ k x, idxM id ms i = ((i + k : Nat) : Int) ∧ ms[k]? = some x ∧ x.nr.nd.id = id ∧ ∀ y ∈ ms.take k, y.nr.nd.id ≠ id
  | [], i => .inl ⟨rfl, by simp⟩
  | x :: l, i => by
    unfold idxM
    by_cases h : x.nr.nd.id = id
    · rw [if_pos h]
      exact .inr ⟨0, x, rfl, rfl, h, by simp⟩
    · rw [if_neg h]
      rcases idxM_spec l (i + 1) with ⟨h1, h2⟩ | ⟨k, y, h1, h2, h3, h4⟩
      · refine .inl ⟨h1, fun y hy => ?_⟩
        rcases List.mem_cons.1 hy with rfl | hy
        · exact h
        · exact h2 y hy
      · refine .inr ⟨k + 1, y, ?_, h2, h3, fun z hz => ?_⟩
        · rw [h1, show i + 1 + k = i + (k + 1) by omega]
        · rw [List.take_succ_cons] at hz
          rcases List.mem_cons.1 hz with rfl | hz
          · exact h
          · exact h4 z hz
section
variable {T : Nat → Prop} {w : World} {m : Nat} {st : St} {v : Value} {ms : List MN}
set_option maxHeartbeats 1000000 in
theorem dat_any (h : DW B T w m st v ms) (hn : ms.length ≤ 1000000) (id : Int) : Calls Tryz.prog 91 #[.pointer (some ⟨m, 0, none⟩), .int .i64 id] w fun e w' => e = .returned (.int .i64 (placeM ms id)) ∧ w = w' := by
  have HD := Lib.hid h
  generalize hres : placeM ms id = res
  have HRES := Lib.hid hres
  obtain ⟨sp, cap, hv⟩ := h.shape
  have HV := Lib.hid hv
  have hc2 := h.c2
  have hml := (h.lt m h.tm).2
  rw [hv] at hc2
  clear hres h hv
  go_enter Tryz.func91, Tryz.ntmps91
  go_wp2
  go_loopw [5] (fun i wr => ∃ j : Nat, j ≤ ms.length ∧ i = .int .i64 (j : Int) ∧ w = wr ∧ Hid (∀ x ∈ ms.take j, x.nr.nd.id ≠ id)) (fun i _ => ms.length - (intOf i).toNat)
  case atStart => exact ⟨0, Nat.zero_le _, rfl, rfl, Lib.hid (by simp)⟩
  case round =>
    obtain ⟨j, hj, rfl, rfl, HI⟩ := hrel
    by_cases hlt : j < ms.length
    · obtain ⟨g, cap', hv', hgl⟩ := HD.out.block (by rintro rfl; simp at hlt)
      have hsp : sp = some ⟨g, 0, none⟩ := by have := HV.out.symm.trans hv'; injection this
      subst hsp
      have cx := HD.out.cell hv' (j := 0) (List.getElem?_eq_getElem hlt) (by omega)
      rw [(encM_get _).1, Nat.add_zero] at cx
      have hj0 : (0 : Int) ≤ (j : Int) := by omega
      have hj1 : (j : Int) < (ms.length : Int) := by omega
      have hst : ∀ x ∈ ms.take (j + 1), x.nr.nd.id = id → x = ms[j] := fun x hx he => by
        rw [List.take_succ_eq_append_getElem hlt] at hx
        rcases List.mem_append.1 hx with hx | hx
        · exact absurd he (HI.out x hx)
        · simpa using hx
      have hres : ms[j].nr.nd.id = id → res = (j : Int) := fun he => by
        rw [← HRES.out]
        unfold placeM
        rw [idxM_drop (k := j) HI.out hj, List.drop_eq_getElem_cons hlt]
        unfold idxM
        rw [if_pos he]
        simp
      have HST := Lib.hid (And.intro hst hres)
      clear hst hres hv'
      generalize hy : ms[j].nr.nd.id = y at *
      have HY := Lib.hid hy
      clear hy
      by_cases hyi : y = id
      · have hbeq : (y == id) = true := by rw [beq_iff_eq]; exact hyi
        have hr := HST.out.2 hyi
        have HR := Lib.hid hr
        clear hr hyi
        go_wp2
        go_ret
        exact ⟨by rw [HR.out]; rfl, rfl⟩
      · have hbeq : (y == id) = false := by rw [beq_eq_false_iff_ne]; exact hyi
        have HN := Lib.hid hyi
        clear hyi
        go_wp2
        go_roundw
        case rel => exact ⟨j + 1, by omega, by go_num, by first | trivial | rfl, Lib.hid (fun x hx he => HN.out (by rw [← HY.out]; rw [HST.out.1 x hx he] at he; exact he))⟩
        case measure => simp [intOf]; omega
    · obtain rfl : j = ms.length := by omega
      have hr : res = -1 := by
        rw [← HRES.out]
        rcases idxM_spec (id := id) ms 0 with ⟨h1, _⟩ | ⟨k, x, _, h2, h3, _⟩
        · exact h1
        · exact absurd h3 (HI.out x (by rw [List.take_length]; exact List.mem_of_getElem? h2))
      have HR := Lib.hid hr
      clear hr
      go_wp2
      go_ret
      exact ⟨by rw [HR.out]; rfl, rfl⟩
/-- What Get answers: where the node lies. -/
def getM (v : Value) (ms : List MN) (id : Int) : Value := if placeM ms id < 0 then .pointer none else .pointer (match v with | .slice (some a) _ _ => some ⟨a.block, (placeM ms id).toNat * 199, none⟩ | _ => none)
theorem dget_none (h : DW B T w m st v ms) (hn : ms.length ≤ 1000000) (id : Int) (hid : placeM ms id = -1) : Calls Tryz.prog 47 #[.pointer (some ⟨m, 0, none⟩), .int .i64 id] w fun e w' => e = .returned (.tuple #[.pointer none, .bool false]) ∧ w = w' := by
  have HD := Lib.hid h
  have HI := Lib.hid hid
  clear h hid
  go_enter Tryz.func47, Tryz.ntmps47
  go_wp2_with fail
  refine (dat_any HD.out hn id).mono ?_
  rw [HI.out]
  rintro e w1 ⟨rfl, rfl⟩
  go_wp2
  go_ret2
  exact ⟨rfl, rfl⟩
theorem dget_some (h : DW B T w m st v ms) (hn : ms.length ≤ 1000000) (id : Int) {k g cap : Nat} (hid : placeM ms id = (k : Int)) (hk : k < ms.length) (hv : v = .slice (some ⟨g, 0, none⟩) ms.length cap) :
    Calls Tryz.prog 47 #[.pointer (some ⟨m, 0, none⟩), .int .i64 id] w fun e w' => e = .returned (.tuple #[.pointer (some ⟨g, k * 199, none⟩), .bool true]) ∧ w = w' := by
  have HD := Lib.hid h
  have HI := Lib.hid hid
  have hc2 := h.c2
  have hml := (h.lt m h.tm).2
  rw [hv] at hc2
  clear h hid hv
  have hk0 : (0 : Int) ≤ (k : Int) := by omega
  have hk1 : (k : Int) < (ms.length : Int) := by omega
  go_enter Tryz.func47, Tryz.ntmps47
  go_wp2_with fail
  refine (dat_any HD.out hn id).mono ?_
  rw [HI.out]
  rintro e w1 ⟨rfl, rfl⟩
  go_wp2
  go_ret2
  exact ⟨rfl, rfl⟩
/-- What the tree says of a place. -/
theorem place_get (h : DW B T w m st v ms) (id : Int) : (placeM ms id = -1 ∧ st.get id = none) ∨ ∃ (k : Nat) (x : MN), placeM ms id = (k : Int) ∧ k < ms.length ∧ ms[k]? = some x ∧ st.get id = some x.nr := by
  have he : st.get id = (ms.find? fun x => x.nr.nd.id == id).map MN.nr := by
    unfold St.get
    rw [← h.eq, List.find?_map]
    rfl
  unfold placeM
  rcases idxM_spec (id := id) ms 0 with ⟨h1, h2⟩ | ⟨k, x, h1, h2, h3, h4⟩
  · refine .inl ⟨h1, ?_⟩
    rw [he, List.find?_eq_none.2 (fun x hx => by simpa using h2 x hx)]
    rfl
  · have hk := (List.getElem?_eq_some_iff.1 h2)
    obtain ⟨hk1, hk2⟩ := hk
    refine .inr ⟨k, x, by rw [h1]; simp, hk1, h2, ?_⟩
    rw [he]
    have hf : ms.find? (fun x => x.nr.nd.id == id) = some x := by
      rw [← List.take_append_drop k ms, List.find?_append, List.find?_eq_none.2 (fun y hy => by simpa using h4 y hy), List.drop_eq_getElem_cons hk1, hk2]
      simp [h3]
    rw [hf]
    rfl
theorem dkind_any (h : DW B T w m st v ms) (hn : ms.length ≤ 1000000) (id : Int) : Calls Tryz.prog 93 #[.pointer (some ⟨m, 0, none⟩), .int .i64 id] w fun e w' => e = .returned (.int .i64 ((st.get id).elim 0 fun r => r.nd.kind)) ∧ w = w' := by
  have HD := Lib.hid h
  rcases place_get h id with ⟨h1, h2⟩ | ⟨k, x, h1, h2, h3, h4⟩
  · rw [h2]
    clear h h2
    go_enter Tryz.func93, Tryz.ntmps93
    go_wp2_with fail
    refine (dget_none HD.out hn id h1).mono ?_
    rintro e w1 ⟨rfl, rfl⟩
    go_wp2
    go_ret
    exact ⟨rfl, rfl⟩
  · rw [h4]
    obtain ⟨g, cap, hv, hg⟩ := h.block (by rintro rfl; simp at h2)
    have ck := h.cell hv (j := 1) h3 (by omega)
    rw [(encM_get x).2.1] at ck
    have H1 := Lib.hid h1
    have H2 := Lib.hid hv
    clear h h1 h3 h4 hv
    go_enter Tryz.func93, Tryz.ntmps93
    go_wp2_with fail
    refine (dget_some HD.out hn id H1.out h2 H2.out).mono ?_
    rintro e w1 ⟨rfl, rfl⟩
    go_wp2
    go_ret
    exact ⟨rfl, rfl⟩
end
end Go.Proofs.YtnkcbogikaebfaaGreatDoor
end

section
/- The document's tree: a name among entries (find, entry). -/
namespace Go.Proofs.YtnkcbogikaebfaaGreatDoor
open Go Go.RowKit
set_option maxRecDepth 100000
set_option linter.unusedSimpArgs false
set_option linter.unusedVariables false
attribute [local go_sem] giv
variable {E : Nat → Addr} {B : Nat}
def idxE (s : ByteArray) : List En → Nat → Int
  | [], _ => -1
  | x :: l, i => if x.name.data.toList = s.data.toList then (i : Int) else idxE s l (i + 1)
def placeE (l : List En) (s : ByteArray) : Int := idxE s l 0
theorem idxE_drop {s : ByteArray} : ∀ {l : List En} {k i : Nat}, (∀ x ∈ l.take k, x.name.data.toList ≠ s.data.toList) → k ≤ l.length → idxE s l i = idxE s (l.drop k) (i + k)
  | [], 0, i, _, _ => rfl
  | [], k + 1, i, _, h => by simp at h
  | x :: l, 0, i, _, _ => rfl
  | x :: l, k + 1, i, h, hk => by
    have h0 : idxE s (x :: l) i = idxE s l (i + 1) := if_neg (h x (by simp))
    rw [h0, idxE_drop (l := l) (k := k) (fun y hy => h y (by simp [hy])) (by simpa using hk), List.drop_succ_cons, show i + 1 + k = i + (k + 1) by omega]
theorem idxE_spec {s : ByteArray} : ∀ (l : List En) (i : Nat), (idxE s l i = -1 ∧ ∀ x ∈ l, x.name.data.toList ≠ s.data.toList) ∨ ∃ k x, idxE s l i = ((i + k : Nat) : Int) ∧ l[k]? = some x ∧ x.name.data.toList = s.data.toList ∧ ∀ y ∈ l.take k, y.name.data.toList ≠ s.data.toList
  | [], i => .inl ⟨rfl, by simp⟩
  | x :: l, i => by
    unfold idxE
    by_cases h : x.name.data.toList = s.data.toList
    · rw [if_pos h]
      exact .inr ⟨0, x, rfl, rfl, h, by simp⟩
    · rw [if_neg h]
      rcases idxE_spec l (i + 1) with ⟨h1, h2⟩ | ⟨k, y, h1, h2, h3, h4⟩
      · refine .inl ⟨h1, fun y hy => ?_⟩
        rcases List.mem_cons.1 hy with rfl | hy
        · exact h
        · exact h2 y hy
      · refine .inr ⟨k + 1, y, ?_, h2, h3, fun z hz => ?_⟩
        · rw [h1, show i + 1 + k = i + (k + 1) by omega]
        · rw [List.take_succ_cons] at hz
          rcases List.mem_cons.1 hz with rfl | hz
          · exact h
          · exact h4 z hz
/-- A name among entries: the plain tree's word for it. -/
theorem placeE_ent (l : List En) (s : ByteArray) : (placeE l s = -1 ∧ entOf l s = none) ∨ ∃ (k : Nat) (x : En), placeE l s = (k : Int) ∧ k < l.length ∧ l[k]? = some x ∧ entOf l s = some x := by
  unfold placeE entOf
  rcases idxE_spec (s := s) l 0 with ⟨h1, h2⟩ | ⟨k, x, h1, h2, h3, h4⟩
  · exact .inl ⟨h1, List.find?_eq_none.2 (fun x hx => by simpa using h2 x hx)⟩
  · obtain ⟨hk1, hk2⟩ := List.getElem?_eq_some_iff.1 h2
    refine .inr ⟨k, x, by rw [h1]; simp, hk1, h2, ?_⟩
    rw [← List.take_append_drop k l, List.find?_append, List.find?_eq_none.2 (fun y hy => by simpa using h4 y hy), List.drop_eq_getElem_cons hk1, hk2, Option.none_or, List.find?_cons_of_pos (by simpa using h3)]
set_option maxHeartbeats 1000000 in
theorem dfind_any {w : World} {v : Value} {l : List En} (r : RdEn w v l) (hn : l.length ≤ 1000000) (s : ByteArray) : Calls Tryz.prog 95 #[v, .string s] w fun e w' => e = .returned (.int .i64 (placeE l s)) ∧ w = w' := by
  obtain ⟨sp, cap, rfl, hcap, hnil, hc⟩ := r
  have HC := Lib.hid hc
  generalize hres : placeE l s = res
  have HRES := Lib.hid hres
  clear hres hc
  go_enter Tryz.func95, Tryz.ntmps95
  go_wp2
  go_loopw [5] (fun i wr => ∃ j : Nat, j ≤ l.length ∧ i = .int .i64 (j : Int) ∧ w = wr ∧ Hid (∀ x ∈ l.take j, x.name.data.toList ≠ s.data.toList)) (fun i _ => l.length - (intOf i).toNat)
  case atStart => exact ⟨0, Nat.zero_le _, rfl, rfl, Lib.hid (by simp)⟩
  case round =>
    obtain ⟨j, hj, rfl, rfl, HI⟩ := hrel
    by_cases hlt : j < l.length
    · obtain ⟨g, off, rfl, hgl, hcc⟩ := HC.out (by rintro rfl; simp at hlt)
      have cx := hcc j 0 hlt (by omega)
      rw [List.getElem?_eq_getElem hlt, Nat.add_zero] at cx
      simp only [Option.bind_some, encEl, List.getElem?_cons_zero] at cx
      have hj0 : (0 : Int) ≤ (j : Int) := by omega
      have hj1 : (j : Int) < (l.length : Int) := by omega
      have hst : ∀ x ∈ l.take (j + 1), x.name.data.toList = s.data.toList → x = l[j] := fun x hx he => by
        rw [List.take_succ_eq_append_getElem hlt] at hx
        rcases List.mem_append.1 hx with hx | hx
        · exact absurd he (HI.out x hx)
        · simpa using hx
      have hres : l[j].name.data.toList = s.data.toList → res = (j : Int) := fun he => by
        rw [← HRES.out]
        unfold placeE
        rw [idxE_drop (k := j) HI.out hj, List.drop_eq_getElem_cons hlt]
        unfold idxE
        rw [if_pos he]
        simp
      have HST := Lib.hid (And.intro hst hres)
      clear hst hres hcc
      generalize hy : l[j].name = y at *
      have HY := Lib.hid hy
      clear hy
      by_cases hyi : y.data.toList = s.data.toList
      · have hbeq : (y.toList == s.toList) = true := by rw [beq_iff_eq, ByteArray.toList_eq, ByteArray.toList_eq]; exact hyi
        have hr : res = (j : Int) := HST.out.2 hyi
        have HR := Lib.hid hr
        clear hr hyi
        go_wp2
        go_ret
        exact ⟨by rw [HR.out]; rfl, rfl⟩
      · have hbeq : (y.toList == s.toList) = false := by rw [beq_eq_false_iff_ne, ByteArray.toList_eq, ByteArray.toList_eq]; exact hyi
        have HN := Lib.hid hyi
        clear hyi
        go_wp2
        go_roundw
        case rel => exact ⟨j + 1, by omega, by go_num, by first | trivial | rfl, Lib.hid (fun x hx he => HN.out (by rw [← HY.out]; rw [HST.out.1 x hx he] at he; exact he))⟩
        case measure => simp [intOf]; omega
    · obtain rfl : j = l.length := by omega
      have hr : res = -1 := by
        rw [← HRES.out]
        rcases idxE_spec (s := s) l 0 with ⟨h1, _⟩ | ⟨k, x, _, h2, h3, _⟩
        · exact h1
        · exact absurd h3 (HI.out x (by rw [List.take_length]; exact List.mem_of_getElem? h2))
      have HR := Lib.hid hr
      clear hr
      go_wp2
      go_ret
      exact ⟨by rw [HR.out]; rfl, rfl⟩
section
variable {T : Nat → Prop} {w : World} {m : Nat} {st : St} {v : Value} {ms : List MN}
def entM (st : St) (id : Int) (s : ByteArray) : Option En := (st.get id).bind fun r => entOf r.ents s
def noEl : En := ⟨⟨#[]⟩, 0, 0⟩
set_option maxHeartbeats 1000000 in
theorem dentry_any (h : DW B T w m st v ms) (hn : ms.length ≤ 1000000) (he : ∀ x ∈ ms, x.nr.ents.length ≤ 1000000) (id : Int) (s : ByteArray) : Calls Tryz.prog 94 #[.pointer (some ⟨m, 0, none⟩), .int .i64 id, .string s] w fun e w' =>
    e = .returned (.tuple #[encE ((entM st id s).getD noEl), .bool (entM st id s).isSome]) ∧ Below w.heap.size w w' := by
  have HD := Lib.hid h
  have hml := (h.lt m h.tm).2
  obtain ⟨R, hR⟩ : ∃ R, entM st id s = R := ⟨_, rfl⟩
  rw [hR]
  unfold entM at hR
  generalize hP : (fun (e : Ending) (w' : World) => e = .returned (.tuple #[encE (R.getD noEl), .bool R.isSome]) ∧ Below w.heap.size w w') = Post
  have HP := Lib.hid hP
  clear hP
  have bb := bl_alloc (Below.refl w.heap.size w) (.cells #[.string ⟨#[]⟩, .int .i64 0, .int .i64 0] 48)
  have HB := Lib.hid bb
  have HDB := Lib.hid (h.below bb)
  clear bb
  rcases place_get h id with ⟨h1, h2⟩ | ⟨k, x, h1, h2, h3, h4⟩
  · rw [h2] at hR
    have HR := Lib.hid hR.symm
    have H1 := Lib.hid h1
    clear h h1 h2 hR
    go_enter Tryz.func94, Tryz.ntmps94
    go_wp2_with fail
    refine (dget_none HDB.out hn id H1.out).mono ?_
    rintro e w1 ⟨rfl, rfl⟩
    go_wp2
    rw [← HP.out, HR.out]
    refine bodyPost_ret (v := .tuple #[.agg #[.string ⟨#[]⟩, .int .i64 0, .int .i64 0], .bool false]) (by simp [results, Tryz.results94, go_sem]) rfl ?_
    exact ⟨rfl, HB.out⟩
  · rw [h4] at hR
    obtain ⟨g, cap, hv, hg⟩ := h.block (by rintro rfl; simp at h2)
    obtain ⟨w1, hw1⟩ : ∃ w1, w1 = w.alloc (.cells #[.string ⟨#[]⟩, .int .i64 0, .int .i64 0] 48) := ⟨_, rfl⟩
    have rB : Row w1 w.heap.size 48 [.string ⟨#[]⟩, .int .i64 0, .int .i64 0] := by rw [hw1]; exact Row.new _ _ _
    have hDB := HDB.out
    have hBB := HB.out
    rw [← hw1] at hDB hBB
    have ck := hDB.cell hv (j := 6) h3 (by omega)
    rw [(encM_get x).2.2.2.2.2.2] at ck
    have hxe := (hDB.ents x (List.mem_of_getElem? h3)).1
    have hxl := he x (List.mem_of_getElem? h3)
    have H1 := Lib.hid h1
    have H2 := Lib.hid hv
    have HD1 := Lib.hid hDB
    have HB1 := Lib.hid hBB
    have HXE := Lib.hid hxe
    have hgl : ¬ w.heap.size = g := by omega
    obtain ⟨C, hC⟩ : ∃ C, w.heap.size = C := ⟨_, rfl⟩
    have HCS := Lib.hid hC
    clear h h1 h3 h4 hv HD hDB hBB HDB HB hxe
    unfold MN.ev at ck HXE
    go_enter Tryz.func94, Tryz.ntmps94
    go_wp2_with fail
    rw [← hw1]
    rw [hC] at rB
    try rw [hC]
    have RB := Lib.hid rB
    clear rB hw1
    refine (dget_some HD1.out hn id H1.out h2 H2.out).mono ?_
    rintro e w2 ⟨rfl, rfl⟩
    go_wp2_with fail
    refine (dfind_any HXE.out hxl s).mono ?_
    rintro e w2 ⟨rfl, rfl⟩
    rcases placeE_ent x.nr.ents s with ⟨p1, p2⟩ | ⟨q, y, p1, p2, p3, p4⟩
    · have HR : Hid (R = none) := Lib.hid (by rw [← hR]; exact p2)
      rw [p1]
      clear hR p1 p2
      have f0 := RB.out.cell 0
      have f1 := RB.out.cell 1
      have f2 := RB.out.cell 2
      have g0 := RB.out.froz 0
      have g1 := RB.out.froz 1
      have g2 := RB.out.froz 2
      simp only [List.getElem?_cons_zero, List.getElem?_cons_succ] at f0 f1 f2
      have HT : Hid (∀ u0 u1 u2, Below w.heap.size w (((w1.setCell ⟨C, 0, none⟩ u0).setCell ⟨C, 1, none⟩ u1).setCell ⟨C, 2, none⟩ u2)) := Lib.hid (fun u0 u1 u2 => ((HB1.out.setCell (Nat.le_of_eq HCS.out) _).setCell (Nat.le_of_eq HCS.out) _).setCell (Nat.le_of_eq HCS.out) _)
      go_wp2
      rw [← HP.out, HR.out]
      refine bodyPost_ret (v := .tuple #[.agg #[.string ⟨#[]⟩, .int .i64 0, .int .i64 0], .bool false]) (by simp [results, Tryz.results94, go_sem, f0, f1, f2]) rfl ?_
      exact ⟨rfl, HT.out _ _ _⟩
    · have HR : Hid (R = some y) := Lib.hid (by rw [← hR]; exact p4)
      rw [p1]
      have f0 := RB.out.cell 0
      have f1 := RB.out.cell 1
      have f2 := RB.out.cell 2
      have g0 := RB.out.froz 0
      have g1 := RB.out.froz 1
      have g2 := RB.out.froz 2
      simp only [List.getElem?_cons_zero, List.getElem?_cons_succ] at f0 f1 f2
      obtain ⟨sp', cap', e1, _, _, e4⟩ := HXE.out
      injection e1 with e1 e2 e3
      subst e1 e3
      obtain ⟨g2', off, hsp, hg2, hcc⟩ := e4 (by intro hh; rw [hh] at p2; simp at p2)
      have c0 := hcc q 0 p2 (by omega)
      have c1 := hcc q 1 p2 (by omega)
      have c2 := hcc q 2 p2 (by omega)
      rw [p3] at c0 c1 c2
      obtain ⟨y1, y2, y3⟩ := y
      simp only [Option.bind_some, encEl, List.getElem?_cons_zero, List.getElem?_cons_succ, Nat.add_zero] at c0 c1 c2
      have hq0 : (0 : Int) ≤ (q : Int) := by omega
      have hq1 : (q : Int) < (x.nr.ents.length : Int) := by omega
      rw [hsp]
      have HT : Hid (∀ u0 u1 u2, Below w.heap.size w (((w1.setCell ⟨C, 0, none⟩ u0).setCell ⟨C, 1, none⟩ u1).setCell ⟨C, 2, none⟩ u2)) := Lib.hid (fun u0 u1 u2 => ((HB1.out.setCell (Nat.le_of_eq HCS.out) _).setCell (Nat.le_of_eq HCS.out) _).setCell (Nat.le_of_eq HCS.out) _)
      rw [hsp] at ck
      clear hR p1 p3 p4 hsp hcc e4 HXE
      go_wp2
      rw [← HP.out, HR.out]
      refine bodyPost_ret (v := .tuple #[.agg #[.string y1, .int .i64 y2, .int .i64 y3], .bool true]) (by simp [results, Tryz.results94, go_sem, f0, f1, f2]) rfl ?_
      exact ⟨rfl, HT.out _ _ _⟩
end
end Go.Proofs.YtnkcbogikaebfaaGreatDoor
end

section
/- The document's Parse: it answers as the plain tree's parseP. -/
namespace Go.Proofs.YtnkcbogikaebfaaGreatDoor
open Go Go.RowKit
set_option maxRecDepth 100000
set_option linter.unusedSimpArgs false
set_option linter.unusedVariables false
attribute [local go_sem] giv
def DPathR (s : ByteArray) (w : World) (e : Ending) (w' : World) : Prop :=
  (∃ v, e = .returned (.tuple #[.agg #[v, .bool (parseP s).2.slash], .int .i64 (parseP s).1]) ∧ SlS w' w.heap.size v (parseP s).2.parts) ∧ Below w.heap.size w w'
theorem dparse_empty (w : World) : Calls Tryz.prog 50 #[.string ⟨#[]⟩] w (DPathR ⟨#[]⟩ w) := by
  generalize hP : DPathR ⟨#[]⟩ w = Post
  have HP := Lib.hid hP
  clear hP
  go_enter Tryz.func50, Tryz.ntmps50
  go_wp2
  rw [← HP.out]
  refine bodyPost_ret (v := .tuple #[.agg #[.slice none 0 0, .bool false], .int .i64 109]) (by simp [results, Tryz.results50, go_sem]) rfl ⟨⟨.slice none 0 0, rfl, SlE.nil _ _ _ _ _⟩, ?_⟩
  repeat (first | exact Below.refl _ _ | refine bl_alloc ?_ _ | refine Below.drew ?_)
theorem dparse_long (s : ByteArray) (h0 : s.data.toList ≠ []) (h : 256 < s.size) (w : World) : Calls Tryz.prog 50 #[.string s] w (DPathR s w) := by
  have hp : parseP s = (115, noPth) := by unfold parseP; rw [if_neg h0, if_pos h]
  have h0' : ¬ s.toList = [] := by rw [ByteArray.toList_eq]; exact h0
  have h0'' := ne_list h0
  have h1' : (256 : Int) < s.size := by omega
  generalize hP : DPathR s w = Post
  have HP := Lib.hid hP
  have HQ := Lib.hid hp
  clear hP hp h h0
  go_enter Tryz.func50, Tryz.ntmps50
  go_wp2
  rw [← HP.out]
  unfold DPathR
  rw [HQ.out]
  refine bodyPost_ret (v := .tuple #[.agg #[.slice none 0 0, .bool false], .int .i64 115]) (by simp [results, Tryz.results50, go_sem]) rfl ⟨⟨.slice none 0 0, rfl, SlE.nil _ _ _ _ _⟩, ?_⟩
  repeat (first | exact Below.refl _ _ | refine bl_alloc ?_ _ | refine Below.drew ?_)
def zf (s : ByteArray) (i : Nat) : Bool := (s.data.toList.take i).contains 0
theorem zf_zero (s : ByteArray) : zf s 0 = false := by simp [zf]
theorem zf_all (s : ByteArray) : zf s s.size = s.data.toList.contains 0 := by
  have h1 : s.data.toList.length = s.size := Array.length_toList
  unfold zf
  rw [List.take_of_length_le (by omega)]
theorem zf_step (s : ByteArray) {i : Nat} (h : i < s.size) : zf s (i + 1) = (zf s i || ((s[i].toNat : Int) == 0)) := by
  have h1 : s.data.toList.length = s.size := Array.length_toList
  unfold zf
  rw [List.take_succ_eq_append_getElem (by omega), List.contains_eq_any_beq, List.contains_eq_any_beq, List.any_append]
  congr 1
  have h2 : s.data.toList[i]'(by omega) = s[i] := by rw [Array.getElem_toList]; rfl
  rw [h2]
  simp only [List.any_cons, List.any_nil, Bool.or_false]
  generalize s[i] = c
  by_cases hc : c = 0
  · subst hc; rfl
  · have : ¬ ((c.toNat : Int) = 0) := fun e => hc (UInt8.toNat_inj.1 (by simpa using (by omega : c.toNat = 0)))
    rw [beq_eq_false_iff_ne.2 this, beq_eq_false_iff_ne.2 (Ne.symm hc)]
/-- What the cutting has yet to yield at byte j, the part cur begun. -/
def yetD (s : ByteArray) (j : Nat) (cur : ByteArray) : List ByteArray × Bool := if j ≤ s.size then scanD (s.data.toList.drop j) cur.data.toList else ([], false)
def endD (acc : List ByteArray) (lng : Bool) (r : List ByteArray × Bool) : List ByteArray × Bool := (acc ++ r.1, lng || r.2)
theorem end_long {acc : List ByteArray} {cur : ByteArray} {r : List ByteArray × Bool} (h : 24 < cur.size) : endD (acc ++ [cur]) true r = endD acc false (([cur], decide (24 < cur.size)).1 ++ r.1, ([cur], decide (24 < cur.size)).2 || r.2) := by simp [endD, h]
theorem end_short {acc : List ByteArray} {cur : ByteArray} {r : List ByteArray × Bool} (h : ¬ 24 < cur.size) : endD (acc ++ [cur]) false r = endD acc false (([cur], decide (24 < cur.size)).1 ++ r.1, ([cur], decide (24 < cur.size)).2 || r.2) := by simp [endD, h]
theorem drop_at (s : ByteArray) {j : Nat} (h : j < s.size) : s.data.toList.drop j = s[j] :: s.data.toList.drop (j + 1) := by
  have h1 : s.data.toList.length = s.size := Array.length_toList
  rw [List.drop_eq_getElem_cons (by omega)]
  congr 1
theorem yet_byte {s cur cur' : ByteArray} {j : Nat} (h : j < s.size) (hc : s[j] ≠ 47) (hcur : cur'.data.toList = cur.data.toList ++ [s[j]]) : yetD s j cur = yetD s (j + 1) cur' := by
  unfold yetD
  rw [if_pos (by omega), if_pos (by omega), drop_at s h, scan_byte hc, hcur]
theorem yet_cut {s cur : ByteArray} {j : Nat} (hj : j ≤ s.size) (hc : ∀ h : j < s.size, s[j] = 47) : yetD s j cur = ((finD cur.data.toList).1 ++ (yetD s (j + 1) ⟨#[]⟩).1, (finD cur.data.toList).2 || (yetD s (j + 1) ⟨#[]⟩).2) := by
  have h1 : s.data.toList.length = s.size := Array.length_toList
  unfold yetD
  rw [if_pos hj]
  by_cases h : j < s.size
  · rw [if_pos (by omega), drop_at s h, hc h, scan_slash]
  · rw [if_neg (by omega), List.drop_eq_nil_of_le (by omega)]
    simp [scanD]
theorem ext_one {s cur : ByteArray} {j : Nat} (h : j < s.size) : (cur ++ s.extract j (j + 1)).data.toList = cur.data.toList ++ [s[j]] := by
  have h1 : s.data.toList.length = s.size := Array.length_toList
  rw [ByteArray.data_append, Array.toList_append, ByteArray.data_extract, Array.toList_extract]
  congr 1
  rw [List.extract_eq_take_drop, show j + 1 - j = 1 by omega, ← List.getElem_cons_drop (by omega : j < s.data.toList.length)]
  rfl
set_option maxHeartbeats 4000000 in
theorem dparse_main (s : ByteArray) (h0 : s.data.toList ≠ []) (h : s.size ≤ 256) (w : World) : Calls Tryz.prog 50 #[.string s] w (DPathR s w) := by
  have h0' : ¬ s.toList = [] := by rw [ByteArray.toList_eq]; exact h0
  have h0'' := ne_list h0
  have h1' : ¬ (256 : Int) < s.size := by omega
  have hpos := size_pos h0
  generalize hP : DPathR s w = Post
  have HP := Lib.hid hP
  have H0 := Lib.hid h0
  clear hP h0
  go_enter Tryz.func50, Tryz.ntmps50
  go_wp2_with fail
  have hb2 : Below w.heap.size w (w.alloc (.cells #[.slice none 0 0, .bool false] 116)) := bl_alloc (Below.refl _ _) _
  have rB := Row.new w 116 [.slice none 0 0, .bool false]
  obtain ⟨w2, hw2⟩ : ∃ w2, w2 = w.alloc (.cells #[.slice none 0 0, .bool false] 116) := ⟨_, rfl⟩
  have hs2 : w2.heap.size = w.heap.size + 1 := by rw [hw2]; simp
  have rB2 : Row w2 w.heap.size 116 [.slice none 0 0, .bool false] := by rw [hw2]; exact rB
  rw [← hw2] at hb2 ⊢
  have HB2 := Lib.hid hb2
  have RB2 := Lib.hid rB2
  have HS2 := Lib.hid hs2
  clear hb2 rB hw2 rB2 hs2
  go_loopw [4, 5] (fun z i wr => ∃ j : Nat, j ≤ s.size ∧ z = .bool (zf s j) ∧ i = .int .i64 (j : Int) ∧ w2 = wr) (fun _ i _ => s.size - (intOf i).toNat)
  case atStart => exact ⟨0, Nat.zero_le _, by rw [zf_zero], rfl, rfl⟩
  case round =>
    obtain ⟨j, hj, rfl, rfl, rfl⟩ := hrel
    by_cases hlt : j < s.size
    · have hj0 : (0 : Int) ≤ (j : Int) := by omega
      have hj1 : (j : Int) < (s.size : Int) := by omega
      have HZ := Lib.hid (zf_step s hlt)
      obtain ⟨c, hc⟩ : ∃ c, s[j] = c := ⟨_, rfl⟩
      have HC := Lib.hid hc
      clear hc
      cases hz : zf s j
      · go_wp2
        go_roundw
        case rel => exact ⟨j + 1, by omega, by rw [HZ.out, hz, Bool.false_or], by go_num, by first | trivial | rfl⟩
        case measure => simp [intOf]; omega
      · go_wp2
        go_roundw
        case rel => exact ⟨j + 1, by omega, by rw [HZ.out, hz, Bool.true_or], by go_num, by first | trivial | rfl⟩
        case measure => simp [intOf]; omega
    · obtain rfl : j = s.size := by omega
      rw [zf_all]
      clear hlt hj
      have hj0 : (0 : Int) < (s.size : Int) := by omega
      obtain ⟨l0, hl0⟩ : ∃ c, s[0] = c := ⟨_, rfl⟩
      have hhead : s.data.toList.head? = some l0 := by rw [first_byte hpos, hl0]
      have HH := Lib.hid hhead
      have HL0 := Lib.hid hl0
      clear hhead hl0
      have hbad : ∀ (wz : World), Below w.heap.size w wz → (s.data.toList.head? ≠ some 47 ∨ s.data.toList.contains 0 = true) → DPathR s w (.returned (.tuple #[.agg #[.slice none 0 0, .bool false], .int .i64 114])) wz := fun wz hb hx => by
        have hp : parseP s = (114, noPth) := by unfold parseP; rw [if_neg H0.out, if_neg (by omega), if_pos hx]
        unfold DPathR
        rw [hp]
        exact ⟨⟨.slice none 0 0, rfl, SlE.nil _ _ _ _ _⟩, hb⟩
      have HBAD := Lib.hid hbad
      clear hbad
      have f0 := RB2.out.cell 0
      have f1 := RB2.out.cell 1
      have g0 := RB2.out.froz 0
      have g1 := RB2.out.froz 1
      simp only [List.getElem?_cons_zero, List.getElem?_cons_succ] at f0 f1
      have HT : Hid (∀ u0 u1, Below w.heap.size w ((w2.setCell ⟨w.heap.size, 0, none⟩ u0).setCell ⟨w.heap.size, 1, none⟩ u1)) := Lib.hid (fun u0 u1 => ((HB2.out.setCell (Nat.le_refl _) _).setCell (Nat.le_refl _) _))
      obtain ⟨zr, hzr⟩ : ∃ z, s.data.toList.contains 0 = z := ⟨_, rfl⟩
      have HZR := Lib.hid hzr
      rw [hzr]
      clear hzr
      by_cases hq : l0 = 47
      · subst hq
        have hq2 : ((s[0].toNat : Int) != 47) = false := by rw [HL0.out]; rfl
        cases zr
        · go_wp2_with fail
          have r3 := Row.new w2 116 [.slice none 0 0, .bool false]
          obtain ⟨w3, hw3⟩ : ∃ w3, w3 = w2.alloc (.cells #[.slice none 0 0, .bool false] 116) := ⟨_, rfl⟩
          have b3 : Below w2.heap.size w2 w3 := by rw [hw3]; exact bl_alloc (Below.refl _ _) _
          have r3 : Row w3 w2.heap.size 116 [.slice none 0 0, .bool false] := by rw [hw3]; exact r3
          have hs3 : w3.heap.size = w2.heap.size + 1 := by rw [hw3]; simp
          rw [← hw3]
          have HB3 := Lib.hid b3
          have hPR : w2.heap.size < w3.heap.size := by omega
          have ca := r3.cell 0
          have cb := r3.cell 1
          simp only [List.getElem?_cons_zero, List.getElem?_cons_succ] at ca cb
          have hfr : ∀ o, w3.frozen? ⟨w2.heap.size, o, none⟩ = false := fun o => r3.froz o
          obtain ⟨P, hPb⟩ : ∃ P, w2.heap.size = P := ⟨_, rfl⟩
          rw [hPb] at hPR ca cb hfr ⊢
          have HPB := Lib.hid hPb
          obtain ⟨fin, hfin⟩ : ∃ fin, yetD s 1 ⟨#[]⟩ = fin := ⟨_, rfl⟩
          have HFIN := Lib.hid hfin
          have HPR := Lib.hid hPR
          have HFR := Lib.hid hfr
          clear r3 hw3 b3 hs3 hPb hfin hPR hfr f0 f1 g0 g1 HH
          go_loopw [7, 8, 9] (fun part lng i wr => ∃ (j : Nat) (cur : ByteArray) (acc : List ByteArray) (lg : Bool) (v : Value), 1 ≤ j ∧ j ≤ s.size + 1 ∧ part = .string cur ∧ lng = .bool lg ∧ i = .int .i64 (j : Int) ∧ wr.cell? ⟨P, 0, none⟩ = some v ∧
            Hid (SlS wr w3.heap.size v acc ∧ Touch (fun y => y = P) w3 wr ∧ endD acc lg (yetD s j cur) = fin ∧ wr.cell? ⟨P, 1, none⟩ = some (.bool false) ∧ (∀ o, wr.frozen? ⟨P, o, none⟩ = false) ∧ acc.length ≤ j ∧ cur.size ≤ j)) (fun _ _ i _ => s.size + 2 - (intOf i).toNat)
          case atStart => exact ⟨1, ⟨#[]⟩, [], false, .slice none 0 0, by omega, by omega, rfl, rfl, rfl, ca, Lib.hid ⟨SlE.nil _ _ _ _ _, Touch.refl _ _, by rw [← HFIN.out]; simp [endD], cb, HFR.out, by simp, Nat.zero_le _⟩⟩
          case round =>
            obtain ⟨j, cur, acc, lg, v, hj1, hj2, rfl, rfl, rfl, cv, HI⟩ := hrel
            clear ca cb
            by_cases hle : j ≤ s.size
            · by_cases hby : ∃ h : j < s.size, s[j] ≠ 47
              · obtain ⟨hlt, hne⟩ := hby
                have hk0 : (0 : Int) ≤ (j : Int) := by omega
                have hk1 : (j : Int) < (s.size : Int) := by omega
                have hq3 : ((s[j].toNat : Int) != 47) = true := by rw [bne_iff_ne]; exact fun e => hne (UInt8.toNat_inj.1 (by simpa using (by omega : s[j].toNat = 47)))
                have HNE := Lib.hid hne
                clear hne
                have hcs : cur.size ≤ 300 := by have := HI.out.2.2.2.2.2.2; omega
                have HXT := Lib.hid (ext_one (cur := cur) hlt)
                go_wp2
                go_roundw
                case rel => exact ⟨j + 1, _, acc, lg, v, by omega, by omega, rfl, rfl, by go_num, cv, Lib.hid ⟨HI.out.1, HI.out.2.1, by rw [← HI.out.2.2.1, yet_byte hlt HNE.out HXT.out], HI.out.2.2.2.1, HI.out.2.2.2.2.1, by have := HI.out.2.2.2.2.2.1; omega, by
                  have h5 := congrArg List.length HXT.out
                  have h6 : (cur ++ s.extract j (j + 1)).data.toList.length = (cur ++ s.extract j (j + 1)).size := Array.length_toList
                  have h7 : cur.data.toList.length = cur.size := Array.length_toList
                  have := HI.out.2.2.2.2.2.2
                  rw [h6, List.length_append, h7, List.length_singleton] at h5
                  omega⟩⟩
                case measure => simp [intOf]; omega
              · by_cases hlt : j < s.size
                · as_aux_lemma =>
                    have HYC := Lib.hid (yet_cut (cur := cur) hle (fun h => Classical.byContradiction fun hh => hby ⟨h, hh⟩))
                    have hcs : cur.size ≤ 300 := by have := HI.out.2.2.2.2.2.2; omega
                    have hk0 : (0 : Int) ≤ (j : Int) := by omega
                    have hk1 : (j : Int) < (s.size : Int) := by omega
                    have hq3 : ((s[j].toNat : Int) != 47) = false := by
                      have : s[j] = 47 := Classical.byContradiction fun hh => hby ⟨hlt, hh⟩
                      rw [this]; rfl
                    by_cases c1 : cur.data.toList = []
                    · have x1 : cur.toList = [] := by rw [ByteArray.toList_eq]; exact c1
                      have HE : Hid (finD cur.data.toList = ([], false)) := Lib.hid (if_pos (.inl c1))
                      clear c1 hby
                      go_wp2
                      go_roundw
                      case rel => exact ⟨j + 1, ⟨#[]⟩, acc, lg, v, by omega, by omega, rfl, rfl, by go_num, cv, Lib.hid ⟨HI.out.1, HI.out.2.1, by rw [← HI.out.2.2.1, HYC.out, HE.out]; simp [endD], HI.out.2.2.2.1, HI.out.2.2.2.2.1, by have := HI.out.2.2.2.2.2.1; omega, Nat.zero_le _⟩⟩
                      case measure => simp [intOf]; omega
                    have x1 : ¬ cur.toList = [] := by rw [ByteArray.toList_eq]; exact c1
                    have x1' := ne_list c1
                    by_cases c2 : cur.data.toList = [46]
                    · have x2 : cur.toList = [46] := by rw [ByteArray.toList_eq]; exact c2
                      have x2' : (cur.toList == [46]) = true := by rw [x2]; rfl
                      have HE : Hid (finD cur.data.toList = ([], false)) := Lib.hid (if_pos (.inr c2))
                      clear c1 c2 hby
                      go_wp2
                      go_roundw
                      case rel => exact ⟨j + 1, ⟨#[]⟩, acc, lg, v, by omega, by omega, rfl, rfl, by go_num, cv, Lib.hid ⟨HI.out.1, HI.out.2.1, by rw [← HI.out.2.2.1, HYC.out, HE.out]; simp [endD], HI.out.2.2.2.1, HI.out.2.2.2.2.1, by have := HI.out.2.2.2.2.2.1; omega, Nat.zero_le _⟩⟩
                      case measure => simp [intOf]; omega
                    have x2 : (cur.toList == [46]) = false := by rw [beq_eq_false_iff_ne, ByteArray.toList_eq]; exact c2
                    have hlen : cur.data.toList.length = cur.size := Array.length_toList
                    have HE : Hid (finD cur.data.toList = ([cur], decide (24 < cur.size))) := Lib.hid (by rw [← hlen]; exact if_neg (by rintro (h | h) <;> contradiction))
                    obtain ⟨lg2, hlg2⟩ : ∃ b, (lg || decide (24 < cur.size)) = b := ⟨_, rfl⟩
                    have HLG := Lib.hid hlg2
                    have hsz := HI.out.2.1.size
                    have HX := Lib.hid (show acc.length + 1 ≤ 1000000 by have := HI.out.2.2.2.2.2.1; omega)
                    have HOWN := Lib.hid (SlE.below HI.out.1 (bl_alloc (Below.refl _ wr) (.cells #[.string cur] 9)))
                    have HROW : Hid (RdS (wr.alloc (.cells #[.string cur] 9)) (.slice (some ⟨wr.heap.size, 0, none⟩) 1 1) [cur]) := Lib.hid (RdE.one (x := cur) (Row.new wr 9 (encS cur)))
                    have HBS : Hid (w3.heap.size ≤ (wr.alloc (.cells #[.string cur] 9)).heap.size) := Lib.hid (Nat.le_trans hsz (by simp))
                    have hPl : P < wr.heap.size := by have := HPR.out; omega
                    have fa := HI.out.2.2.2.2.1 0
                    have cb := HI.out.2.2.2.1
                    clear c1 c2 hby hlg2 hlen
                    cases lg
                    · by_cases c3 : 24 < cur.size
                      · have x3 : (cur.size : Int) > 24 := by omega
                        have HB3 : Hid (lg2 = true) := Lib.hid (by rw [← HLG.out]; simp [c3])
                        clear c3
                        go_wp2_with (at_builtin; refine wpList_app strT rfl _ _ rfl rfl HOWN.out rfl HROW.out (small_max (by have := HX.out; simpa using this)) (by have := HX.out; simp; omega) HBS.out ?_; intro v' w' hs' ht'; obtain ⟨cw0, cwf, cwl, HS', HT'⟩ := par_step (v := v) HPR.out HI.out.1 HI.out.2.1 HI.out.2.2.2.2.1 hs' ht'; obtain ⟨g', cap', rfl, -⟩ := SlE.ne hs' (by simp); have cwA := (cw0 0).trans cv; have cwB := (cw0 1).trans cb; clear cw0; rw [List.length_append, List.length_singleton] at HS' HT'; have HS' := Lib.hid HS'; have HT' := Lib.hid HT'; clear hs' ht')
                        go_roundw
                        case rel => exact ⟨j + 1, ⟨#[]⟩, acc ++ [cur], true, _, by omega, by omega, rfl, rfl, by go_num, World.cell?_setCell_same _ _ _ cwA, Lib.hid ⟨HS'.out, HT'.out, by rw [← HI.out.2.2.1, HYC.out, HE.out]; exact end_long (by omega), (World.cell?_setCell_other _ _ _ _ (by intro h; cases h)).trans cwB, by simp [cwf], by have := HI.out.2.2.2.2.2.1; simp; omega, Nat.zero_le _⟩⟩
                        case measure => simp [intOf]; omega
                      · have x3 : ¬ (cur.size : Int) > 24 := by omega
                        have HB3 : Hid (lg2 = false) := Lib.hid (by rw [← HLG.out]; simp [c3])
                        clear c3
                        go_wp2_with (at_builtin; refine wpList_app strT rfl _ _ rfl rfl HOWN.out rfl HROW.out (small_max (by have := HX.out; simpa using this)) (by have := HX.out; simp; omega) HBS.out ?_; intro v' w' hs' ht'; obtain ⟨cw0, cwf, cwl, HS', HT'⟩ := par_step (v := v) HPR.out HI.out.1 HI.out.2.1 HI.out.2.2.2.2.1 hs' ht'; obtain ⟨g', cap', rfl, -⟩ := SlE.ne hs' (by simp); have cwA := (cw0 0).trans cv; have cwB := (cw0 1).trans cb; clear cw0; rw [List.length_append, List.length_singleton] at HS' HT'; have HS' := Lib.hid HS'; have HT' := Lib.hid HT'; clear hs' ht')
                        go_roundw
                        case rel => exact ⟨j + 1, ⟨#[]⟩, acc ++ [cur], false, _, by omega, by omega, rfl, rfl, by go_num, World.cell?_setCell_same _ _ _ cwA, Lib.hid ⟨HS'.out, HT'.out, by rw [← HI.out.2.2.1, HYC.out, HE.out]; exact end_short (by omega), (World.cell?_setCell_other _ _ _ _ (by intro h; cases h)).trans cwB, by simp [cwf], by have := HI.out.2.2.2.2.2.1; simp; omega, Nat.zero_le _⟩⟩
                        case measure => simp [intOf]; omega
                    · have HB3 : Hid (lg2 = true) := Lib.hid (by rw [← HLG.out]; simp)
                      go_wp2_with (at_builtin; refine wpList_app strT rfl _ _ rfl rfl HOWN.out rfl HROW.out (small_max (by have := HX.out; simpa using this)) (by have := HX.out; simp; omega) HBS.out ?_; intro v' w' hs' ht'; obtain ⟨cw0, cwf, cwl, HS', HT'⟩ := par_step (v := v) HPR.out HI.out.1 HI.out.2.1 HI.out.2.2.2.2.1 hs' ht'; obtain ⟨g', cap', rfl, -⟩ := SlE.ne hs' (by simp); have cwA := (cw0 0).trans cv; have cwB := (cw0 1).trans cb; clear cw0; rw [List.length_append, List.length_singleton] at HS' HT'; have HS' := Lib.hid HS'; have HT' := Lib.hid HT'; clear hs' ht')
                      go_roundw
                      case rel => exact ⟨j + 1, ⟨#[]⟩, acc ++ [cur], true, _, by omega, by omega, rfl, rfl, by go_num, World.cell?_setCell_same _ _ _ cwA, Lib.hid ⟨HS'.out, HT'.out, by rw [← HI.out.2.2.1, HYC.out, HE.out]; simp [endD], (World.cell?_setCell_other _ _ _ _ (by intro h; cases h)).trans cwB, by simp [cwf], by have := HI.out.2.2.2.2.2.1; simp; omega, Nat.zero_le _⟩⟩
                      case measure => simp [intOf]; omega
                · as_aux_lemma =>
                    have HYC := Lib.hid (yet_cut (cur := cur) hle (fun h => Classical.byContradiction fun hh => hby ⟨h, hh⟩))
                    have hcs : cur.size ≤ 300 := by have := HI.out.2.2.2.2.2.2; omega
                    have hk1 : ¬ (j : Int) < (s.size : Int) := by omega
                    have hk2 : (j : Int) ≤ (s.size : Int) := by omega
                    by_cases c1 : cur.data.toList = []
                    · have x1 : cur.toList = [] := by rw [ByteArray.toList_eq]; exact c1
                      have HE : Hid (finD cur.data.toList = ([], false)) := Lib.hid (if_pos (.inl c1))
                      clear c1 hby
                      go_wp2
                      go_roundw
                      case rel => exact ⟨j + 1, ⟨#[]⟩, acc, lg, v, by omega, by omega, rfl, rfl, by go_num, cv, Lib.hid ⟨HI.out.1, HI.out.2.1, by rw [← HI.out.2.2.1, HYC.out, HE.out]; simp [endD], HI.out.2.2.2.1, HI.out.2.2.2.2.1, by have := HI.out.2.2.2.2.2.1; omega, Nat.zero_le _⟩⟩
                      case measure => simp [intOf]; omega
                    have x1 : ¬ cur.toList = [] := by rw [ByteArray.toList_eq]; exact c1
                    have x1' := ne_list c1
                    by_cases c2 : cur.data.toList = [46]
                    · have x2 : cur.toList = [46] := by rw [ByteArray.toList_eq]; exact c2
                      have x2' : (cur.toList == [46]) = true := by rw [x2]; rfl
                      have HE : Hid (finD cur.data.toList = ([], false)) := Lib.hid (if_pos (.inr c2))
                      clear c1 c2 hby
                      go_wp2
                      go_roundw
                      case rel => exact ⟨j + 1, ⟨#[]⟩, acc, lg, v, by omega, by omega, rfl, rfl, by go_num, cv, Lib.hid ⟨HI.out.1, HI.out.2.1, by rw [← HI.out.2.2.1, HYC.out, HE.out]; simp [endD], HI.out.2.2.2.1, HI.out.2.2.2.2.1, by have := HI.out.2.2.2.2.2.1; omega, Nat.zero_le _⟩⟩
                      case measure => simp [intOf]; omega
                    have x2 : (cur.toList == [46]) = false := by rw [beq_eq_false_iff_ne, ByteArray.toList_eq]; exact c2
                    have hlen : cur.data.toList.length = cur.size := Array.length_toList
                    have HE : Hid (finD cur.data.toList = ([cur], decide (24 < cur.size))) := Lib.hid (by rw [← hlen]; exact if_neg (by rintro (h | h) <;> contradiction))
                    obtain ⟨lg2, hlg2⟩ : ∃ b, (lg || decide (24 < cur.size)) = b := ⟨_, rfl⟩
                    have HLG := Lib.hid hlg2
                    have hsz := HI.out.2.1.size
                    have HX := Lib.hid (show acc.length + 1 ≤ 1000000 by have := HI.out.2.2.2.2.2.1; omega)
                    have HOWN := Lib.hid (SlE.below HI.out.1 (bl_alloc (Below.refl _ wr) (.cells #[.string cur] 9)))
                    have HROW : Hid (RdS (wr.alloc (.cells #[.string cur] 9)) (.slice (some ⟨wr.heap.size, 0, none⟩) 1 1) [cur]) := Lib.hid (RdE.one (x := cur) (Row.new wr 9 (encS cur)))
                    have HBS : Hid (w3.heap.size ≤ (wr.alloc (.cells #[.string cur] 9)).heap.size) := Lib.hid (Nat.le_trans hsz (by simp))
                    have hPl : P < wr.heap.size := by have := HPR.out; omega
                    have fa := HI.out.2.2.2.2.1 0
                    have cb := HI.out.2.2.2.1
                    clear c1 c2 hby hlg2 hlen
                    cases lg
                    · by_cases c3 : 24 < cur.size
                      · have x3 : (cur.size : Int) > 24 := by omega
                        have HB3 : Hid (lg2 = true) := Lib.hid (by rw [← HLG.out]; simp [c3])
                        clear c3
                        go_wp2_with (at_builtin; refine wpList_app strT rfl _ _ rfl rfl HOWN.out rfl HROW.out (small_max (by have := HX.out; simpa using this)) (by have := HX.out; simp; omega) HBS.out ?_; intro v' w' hs' ht'; obtain ⟨cw0, cwf, cwl, HS', HT'⟩ := par_step (v := v) HPR.out HI.out.1 HI.out.2.1 HI.out.2.2.2.2.1 hs' ht'; obtain ⟨g', cap', rfl, -⟩ := SlE.ne hs' (by simp); have cwA := (cw0 0).trans cv; have cwB := (cw0 1).trans cb; clear cw0; rw [List.length_append, List.length_singleton] at HS' HT'; have HS' := Lib.hid HS'; have HT' := Lib.hid HT'; clear hs' ht')
                        go_roundw
                        case rel => exact ⟨j + 1, ⟨#[]⟩, acc ++ [cur], true, _, by omega, by omega, rfl, rfl, by go_num, World.cell?_setCell_same _ _ _ cwA, Lib.hid ⟨HS'.out, HT'.out, by rw [← HI.out.2.2.1, HYC.out, HE.out]; exact end_long (by omega), (World.cell?_setCell_other _ _ _ _ (by intro h; cases h)).trans cwB, by simp [cwf], by have := HI.out.2.2.2.2.2.1; simp; omega, Nat.zero_le _⟩⟩
                        case measure => simp [intOf]; omega
                      · have x3 : ¬ (cur.size : Int) > 24 := by omega
                        have HB3 : Hid (lg2 = false) := Lib.hid (by rw [← HLG.out]; simp [c3])
                        clear c3
                        go_wp2_with (at_builtin; refine wpList_app strT rfl _ _ rfl rfl HOWN.out rfl HROW.out (small_max (by have := HX.out; simpa using this)) (by have := HX.out; simp; omega) HBS.out ?_; intro v' w' hs' ht'; obtain ⟨cw0, cwf, cwl, HS', HT'⟩ := par_step (v := v) HPR.out HI.out.1 HI.out.2.1 HI.out.2.2.2.2.1 hs' ht'; obtain ⟨g', cap', rfl, -⟩ := SlE.ne hs' (by simp); have cwA := (cw0 0).trans cv; have cwB := (cw0 1).trans cb; clear cw0; rw [List.length_append, List.length_singleton] at HS' HT'; have HS' := Lib.hid HS'; have HT' := Lib.hid HT'; clear hs' ht')
                        go_roundw
                        case rel => exact ⟨j + 1, ⟨#[]⟩, acc ++ [cur], false, _, by omega, by omega, rfl, rfl, by go_num, World.cell?_setCell_same _ _ _ cwA, Lib.hid ⟨HS'.out, HT'.out, by rw [← HI.out.2.2.1, HYC.out, HE.out]; exact end_short (by omega), (World.cell?_setCell_other _ _ _ _ (by intro h; cases h)).trans cwB, by simp [cwf], by have := HI.out.2.2.2.2.2.1; simp; omega, Nat.zero_le _⟩⟩
                        case measure => simp [intOf]; omega
                    · have HB3 : Hid (lg2 = true) := Lib.hid (by rw [← HLG.out]; simp)
                      go_wp2_with (at_builtin; refine wpList_app strT rfl _ _ rfl rfl HOWN.out rfl HROW.out (small_max (by have := HX.out; simpa using this)) (by have := HX.out; simp; omega) HBS.out ?_; intro v' w' hs' ht'; obtain ⟨cw0, cwf, cwl, HS', HT'⟩ := par_step (v := v) HPR.out HI.out.1 HI.out.2.1 HI.out.2.2.2.2.1 hs' ht'; obtain ⟨g', cap', rfl, -⟩ := SlE.ne hs' (by simp); have cwA := (cw0 0).trans cv; have cwB := (cw0 1).trans cb; clear cw0; rw [List.length_append, List.length_singleton] at HS' HT'; have HS' := Lib.hid HS'; have HT' := Lib.hid HT'; clear hs' ht')
                      go_roundw
                      case rel => exact ⟨j + 1, ⟨#[]⟩, acc ++ [cur], true, _, by omega, by omega, rfl, rfl, by go_num, World.cell?_setCell_same _ _ _ cwA, Lib.hid ⟨HS'.out, HT'.out, by rw [← HI.out.2.2.1, HYC.out, HE.out]; simp [endD], (World.cell?_setCell_other _ _ _ _ (by intro h; cases h)).trans cwB, by simp [cwf], by have := HI.out.2.2.2.2.2.1; simp; omega, Nat.zero_le _⟩⟩
                      case measure => simp [intOf]; omega
            · obtain rfl : j = s.size + 1 := by omega
              have hfin := HI.out.2.2.1
              have hy0 : yetD s (s.size + 1) cur = ([], false) := if_neg (by omega)
              rw [hy0] at hfin
              have hf1 : (acc, lg) = fin := by rw [← hfin]; simp [endD]
              have HF1 := Lib.hid hf1
              obtain ⟨l, hl⟩ : ∃ l, s.data.toList = 47 :: l := by
                have := H0.out
                cases hs : s.data.toList with
                | nil => exact absurd hs this
                | cons a l =>
                  have h5 := first_byte hpos
                  rw [hs, HL0.out] at h5
                  injection h5 with h5
                  exact ⟨l, by rw [h5]⟩
              have hps := parse_scan hl h (by rw [HZR.out])
              have hy1 : yetD s 1 ⟨#[]⟩ = scanD l [] := by unfold yetD; rw [if_pos (by omega), hl]; rfl
              have hsc : scanD l [] = (acc, lg) := by rw [← hy1, HFIN.out, HF1.out]
              rw [hsc] at hps
              simp only at hps
              have HPS := Lib.hid hps
              have HLB := Lib.hid (last_byte hpos)
              clear hfin hy0 hf1 hl hps hy1 hsc
              have hk1 : ¬ ((s.size + 1 : Nat) : Int) ≤ (s.size : Int) := by omega
              have hv : ∃ sp cap, v = .slice sp acc.length cap := by
                rcases HI.out.1.cases with ⟨h1, h2⟩ | ⟨g, cap, h1, -⟩
                · exact ⟨none, 0, by rw [h1, h2]; rfl⟩
                · exact ⟨_, _, h1⟩
              obtain ⟨sp, cap, rfl⟩ := hv
              have cb := HI.out.2.2.2.1
              have fr := HI.out.2.2.2.2.1 1
              have hPw : P = w.heap.size + 1 := by rw [← HPB.out, HS2.out]
              have hw2s := HS2.out
              have hPR3 := HPR.out
              have hQl : w.heap.size < w3.heap.size := by have := HPR.out; omega
              have rQ := (RB2.out.below HB3.out).keep (HI.out.2.1.block w.heap.size hQl (by omega))
              have hbel : ∀ u0 u1 u2, Below w.heap.size w (((wr.setCell ⟨P, 1, none⟩ u0).setCell ⟨w.heap.size, 0, none⟩ u1).setCell ⟨w.heap.size, 1, none⟩ u2) := fun u0 u1 u2 =>
                ((((HB2.out.trans (HB3.out.mono (by omega))).trans (HI.out.2.1.below (by omega) (fun y hy => by omega))).setCell (p := ⟨P, 1, none⟩) (by simp only; omega) _).setCell (Nat.le_refl _) _).setCell (Nat.le_refl _) _
              have hbel2 : ∀ u1 u2, Below w.heap.size w ((wr.setCell ⟨w.heap.size, 0, none⟩ u1).setCell ⟨w.heap.size, 1, none⟩ u2) := fun u1 u2 =>
                (((HB2.out.trans (HB3.out.mono (by omega))).trans (HI.out.2.1.below (by omega) (fun y hy => by omega))).setCell (Nat.le_refl _) _).setCell (Nat.le_refl _) _
              have hown : ∀ u0 u1 u2, SlS (((wr.setCell ⟨P, 1, none⟩ u0).setCell ⟨w.heap.size, 0, none⟩ u1).setCell ⟨w.heap.size, 1, none⟩ u2) w.heap.size (.slice sp acc.length cap) acc := fun u0 u1 u2 => by
                refine (HI.out.1.touch (S := fun y => y = P ∨ y = w.heap.size) (Touch.setCell (Touch.setCell (Touch.setCell (Touch.refl _ _) (.inl (.inl rfl)) _) (.inl (.inr rfl)) _) (.inl (.inr rfl)) _) (fun y hy => ?_)).mono (by omega)
                have := (SlE.lt HI.out.1 y hy).1
                rintro (h | h) <;> omega
              have HBEL := Lib.hid (And.intro hbel (And.intro hbel2 hown))
              have q0 := rQ.cell 0
              have q1 := rQ.cell 1
              have p0 := rQ.froz 0
              have p1 := rQ.froz 1
              simp only [List.getElem?_cons_zero, List.getElem?_cons_succ] at q0 q1
              have hne1 : ¬ w.heap.size = P := by omega
              have hne2 : ¬ P = w.heap.size := by omega
              have fr0 := HI.out.2.2.2.2.1 0
              have hwq : w.heap.size < wr.heap.size := Nat.lt_of_lt_of_le hQl HI.out.2.1.size
              have hwp : P < wr.heap.size := Nat.lt_of_lt_of_le HPR.out HI.out.2.1.size
              clear hbel hbel2 hown rQ hPw hQl hle hw2s hPR3
              obtain ⟨Q0, hQ0⟩ : ∃ Q0, w.heap.size = Q0 := ⟨_, rfl⟩
              rw [hQ0] at q0 q1 p0 p1 hne1 hne2 hwq
              have HQ0 := Lib.hid hQ0
              have HBQ := HBEL.out
              rw [hQ0] at HBQ
              have HBQ := Lib.hid HBQ
              clear HBEL
              cases lg
              · by_cases hacc : acc = []
                · subst hacc
                  have hl1 : ¬ ((([] : List ByteArray).length : Int) > 0) := by simp
                  go_wp2
                  rw [← HP.out]
                  unfold DPathR
                  rw [HPS.out, HQ0.out]
                  refine bodyPost_ret (v := .tuple #[.agg #[.slice sp 0 cap, .bool false], .int .i64 0]) (by simp [results, Tryz.results50, go_sem, q0, q1]) rfl ⟨⟨.slice sp 0 cap, rfl, HBQ.out.2.2 _ _ _⟩, HBQ.out.1 _ _ _⟩
                · have hl0 : (0 : Int) < acc.length := by have := List.length_pos_iff.2 hacc; omega
                  have hl1 : ((acc.length : Int) > 0) := hl0
                  have HNE := Lib.hid hacc
                  clear hacc
                  go_wp2
                  rw [← HP.out]
                  unfold DPathR
                  rw [HPS.out, HQ0.out]
                  refine bodyPost_ret (v := .tuple #[.agg #[.slice sp acc.length cap, .bool ((s[s.size - 1].toNat : Int) == 47)], .int .i64 0]) (by simp [results, Tryz.results50, go_sem, q0, q1]) rfl ⟨⟨.slice sp acc.length cap, ?_, HBQ.out.2.2 _ _ _⟩, HBQ.out.1 _ _ _⟩
                  have hne := HNE.out
                  rw [← HLB.out]
                  cases acc with
                  | nil => exact absurd rfl hne
                  | cons a l => rfl
              · go_wp2
                rw [← HP.out]
                unfold DPathR
                rw [HPS.out, HQ0.out]
                refine bodyPost_ret (v := .tuple #[.agg #[.slice none 0 0, .bool false], .int .i64 115]) (by simp [results, Tryz.results50, go_sem, q0, q1]) rfl ⟨⟨.slice none 0 0, rfl, SlE.nil _ _ _ _ _⟩, HBQ.out.2.1 _ _⟩
        · go_wp2
          rw [← HP.out]
          refine bodyPost_ret (v := .tuple #[.agg #[.slice none 0 0, .bool false], .int .i64 114]) (by simp [results, Tryz.results50, go_sem, f0, f1]) rfl (HBAD.out _ (HT.out _ _) (.inr HZR.out))
      · have hq1 : ¬ ((s[0].toNat : Int) = 47) := fun e => hq (by rw [← HL0.out]; exact UInt8.toNat_inj.1 (by simpa using (by omega : s[0].toNat = 47)))
        have hq2 : ((s[0].toNat : Int) != 47) = true := by rw [bne_iff_ne]; exact hq1
        go_wp2
        rw [← HP.out]
        refine bodyPost_ret (v := .tuple #[.agg #[.slice none 0 0, .bool false], .int .i64 114]) (by simp [results, Tryz.results50, go_sem, f0, f1]) rfl (HBAD.out _ (HT.out _ _) (.inl (by rw [HH.out]; intro e; injection e with e; exact hq e)))
/-- Parse, of each text. -/
theorem dparse_any (s : ByteArray) (w : World) : Calls Tryz.prog 50 #[.string s] w (DPathR s w) := by
  by_cases h0 : s.data.toList = []
  · obtain rfl : s = ⟨#[]⟩ := nm_ext' h0
    exact dparse_empty w
  by_cases h1 : 256 < s.size
  · exact dparse_long s h0 h1 w
  · exact dparse_main s h0 (by omega) w
end Go.Proofs.YtnkcbogikaebfaaGreatDoor
end

section
/- The document's Split: it answers as the plain tree's splitP. -/
namespace Go.Proofs.YtnkcbogikaebfaaGreatDoor
open Go Go.RowKit
set_option maxRecDepth 100000
set_option linter.unusedSimpArgs false
set_option linter.unusedVariables false
attribute [local go_sem] giv
def DSplitR (p : Pth) (w : World) (e : Ending) (w' : World) : Prop :=
  (∃ v, e = .returned (.tuple #[.agg #[v, .bool false], .string (splitP p).2.2, .int .i64 (splitP p).1]) ∧ SlS w' w.heap.size v (splitP p).2.1) ∧ Below w.heap.size w w'
theorem split_bad {p : Pth} (h : p.parts = [] ∨ ∃ x, p.parts.getLast? = some x ∧ isUp x = true) : splitP p = (114, [], noText) := by
  unfold splitP
  rcases h with h | ⟨x, h1, h2⟩
  · rw [h]; rfl
  · rw [h1]; simp [h2]
theorem split_good {p : Pth} {x : ByteArray} (h1 : p.parts.getLast? = some x) (h2 : isUp x = false) : splitP p = (0, p.parts.dropLast, x) := by
  unfold splitP
  rw [h1]
  simp [h2]
/-- A block of one's own that a drawn region fills: what may turn meanwhile. -/
def SpR (C : Nat) (w : World) : Prop := ∃ a b, Row w C 116 [a, b]
def SpG (C base : Nat) (dl : List ByteArray) (w : World) : Prop := ∃ sp cap, Row w C 116 [.slice sp dl.length cap, .bool false] ∧ SlS w base (.slice sp dl.length cap) dl
structure SpE (C base : Nat) (dl : List ByteArray) (w w' : World) : Prop where
  touch : Touch (fun y => y = C) w w'
  good : SpG C base dl w → SpG C base dl w'
  row : SpR C w → SpR C w'
theorem SpE.refl (C base : Nat) (dl : List ByteArray) (w : World) : SpE C base dl w w := ⟨Touch.refl _ _, id, id⟩
theorem SpE.of_below {C base : Nat} {dl : List ByteArray} {w w' : World} (hb : Below w.heap.size w w') : SpE C base dl w w' :=
  ⟨(Touch.of_below hb NoB).mono (fun x hx _ => hx.elim), fun ⟨sp, cap, h1, h2⟩ => ⟨sp, cap, h1.below hb, h2.below hb⟩, fun ⟨a, b, h⟩ => ⟨a, b, h.below hb⟩⟩
set_option maxHeartbeats 1000000 in
theorem dsplit_any {w : World} {v : Value} (p : Pth) (r : RdS w v p.parts) (hn : p.parts.length ≤ 1000) : Calls Tryz.prog 92 #[.agg #[v, .bool p.slash]] w (DSplitR p w) := by
  obtain ⟨sp, cap, rfl, hcap, hnil, hc⟩ := id r
  have HR := Lib.hid r
  generalize hP : DSplitR p w = Post
  have HP := Lib.hid hP
  clear hP r
  by_cases hlen : p.parts.length = 0
  · have hs := split_bad (p := p) (.inl (List.eq_nil_of_length_eq_zero hlen))
    have HS := Lib.hid hs
    have hl0 : (p.parts.length : Int) = 0 := by omega
    clear hs hc
    go_enter Tryz.func92, Tryz.ntmps92
    go_wp2
    rw [← HP.out]
    unfold DSplitR
    rw [HS.out]
    refine bodyPost_ret (v := .tuple #[.agg #[.slice none 0 0, .bool false], .string ⟨#[]⟩, .int .i64 114]) (by simp [results, Tryz.results92, go_sem]) rfl ⟨⟨.slice none 0 0, rfl, SlE.nil _ _ _ _ _⟩, ?_⟩
    repeat (first | exact Below.refl _ _ | refine bl_alloc ?_ _ | refine Below.drew ?_)
  · obtain ⟨K, hK⟩ : ∃ K, p.parts.length = K + 1 := ⟨p.parts.length - 1, by omega⟩
    obtain ⟨g, off, rfl, hgl, hcc⟩ := hc (by intro h; rw [h] at hlen; simp at hlen)
    have cx := hcc K 0 (by omega) (by omega)
    obtain ⟨x, hx⟩ : ∃ x, p.parts[K]? = some x := ⟨_, List.getElem?_eq_getElem (by omega)⟩
    have hlast : p.parts.getLast? = some x := by rw [List.getLast?_eq_getElem?, hK]; exact hx
    rw [hx] at cx
    simp only [Option.bind_some, encS, List.getElem?_cons_zero, Nat.mul_one, Nat.add_zero] at cx
    have hl0 : ¬ (p.parts.length : Int) = 0 := by omega
    have hk0 : (0 : Int) ≤ (K : Int) := by omega
    have hk1 : (K : Int) < (p.parts.length : Int) := by omega
    have hk2 : ((p.parts.length : Int) - 1) = (K : Int) := by omega
    have HL := Lib.hid hlast
    have HX := Lib.hid hx
    have HCC := Lib.hid hcc
    clear hcc hx hlast
    cases hup : isUp x
    · have hs := split_good HL.out hup
      have HS := Lib.hid hs
      have x2 : (x.toList == [46, 46]) = false := by rw [beq_eq_false_iff_ne, ByteArray.toList_eq]; intro h; simp [isUp, dots, h] at hup
      clear hs hup
      go_enter Tryz.func92, Tryz.ntmps92
      go_wp2_with fail
      have rA := (Row.new w 116 [.slice (some ⟨g, off, none⟩) (K + 1) cap, .bool p.slash]).alloc (.cells #[.slice none 0 0, .bool false] 116)
      have rC := Row.new (w.alloc (.cells #[.slice (some ⟨g, off, none⟩) (K + 1) cap, .bool p.slash] 116)) 116 [.slice none 0 0, .bool false]
      have bb : Below w.heap.size w ((w.alloc (.cells #[.slice (some ⟨g, off, none⟩) (K + 1) cap, .bool p.slash] 116)).alloc (.cells #[.slice none 0 0, .bool false] 116)) := bl_alloc (bl_alloc (Below.refl _ _) _) _
      obtain ⟨w2, hw2⟩ : ∃ w2, w2 = ((w.alloc (.cells #[.slice (some ⟨g, off, none⟩) (K + 1) cap, .bool p.slash] 116)).alloc (.cells #[.slice none 0 0, .bool false] 116)) := ⟨_, rfl⟩
      have rA : Row w2 w.heap.size 116 [.slice (some ⟨g, off, none⟩) (K + 1) cap, .bool p.slash] := by rw [hw2]; exact rA
      have rC : Row w2 (w.heap.size + 1) 116 [.slice none 0 0, .bool false] := by rw [hw2]; rw [show (w.alloc (.cells #[.slice (some ⟨g, off, none⟩) (K + 1) cap, .bool p.slash] 116)).heap.size = w.heap.size + 1 by simp] at rC; exact rC
      rw [← hw2] at bb ⊢
      have RA := Lib.hid rA
      have RC := Lib.hid rC
      have HB := Lib.hid bb
      have CX := Lib.hid cx
      have hr2 := HR.out.below bb
      rw [hK] at hr2
      have HR2 := Lib.hid hr2
      have hdl0 : p.parts.take K = p.parts.dropLast := by rw [List.dropLast_eq_take, hK]; rfl
      obtain ⟨dl, hdl⟩ : ∃ dl, p.parts.take K = dl := ⟨_, rfl⟩
      have HDD : Hid (p.parts.dropLast = dl) := Lib.hid (hdl0.symm.trans hdl)
      have hdn : dl.length ≤ 1000 := by rw [← hdl, List.length_take]; omega
      have HDL := Lib.hid hdl
      have hw2l : w.heap.size + 1 < w2.heap.size := rC.lt
      have HKK := Lib.hid hK
      have hsub : IntKind.i64.wrap (K : Int) = (K : Int) := IntWalk.i64_in _ (by omega)
      have hk3 : (K : Int) < (K : Int) + 1 := by omega
      clear hw2 rA rC bb cx hr2 hdl hdl0
      obtain ⟨C1, hC1⟩ : ∃ C1, w.heap.size = C1 := ⟨_, rfl⟩
      have HC1 := Lib.hid hC1
      rw [hC1] at RA RC HB hw2l ⊢
      have S : ∀ w', (Touch (fun y => y = C1 + 1) w2 w' ∧ SpR (C1 + 1) w') → w'.cell? ⟨C1, 0, none⟩ = some (.slice (some ⟨g, off, none⟩) (K + 1) cap) ∧ w'.cell? ⟨g, off + K, none⟩ = some (.string x) := fun w' hb =>
        ⟨(hb.1.cell (p := ⟨C1, 0, none⟩) (by show C1 < _; omega) (by show ¬ C1 = _; omega)).trans ((RA.out.cell 0).trans rfl), (hb.1.cell (p := ⟨g, off + K, none⟩) (by show g < _; omega) (by show ¬ g = _; omega)).trans ((HB.out.cell (p := ⟨g, off + K, none⟩) (by show g < _; omega)).trans CX.out)⟩
      have hKc : K ≤ cap := by omega
      clear hC1 hk2 hl0 hK
      apply wp_region_rel _ (by kernel_rfl) (by kernel_rfl) (fun w' => Touch (fun y => y = C1 + 1) w2 w' ∧ SpR (C1 + 1) w') (fun w' w'' => SpE (C1 + 1) w2.heap.size dl w' w'') (fun w' w'' h1 h2 => ⟨h1.1.trans h2.touch (fun y hy _ => hy), h2.row h1.2⟩) ⟨(Touch.refl _ _).drew, _, _, RC.out.drew⟩
      repeat (first
        | (apply wpRel_skip (by rfl)
           simp only [Act.put, List.setIfInBounds_toArray, List.set_cons_zero, List.set_cons_succ])
        | (apply wpRel_fix (by rfl)
           · intro w' hC hf R hR
             have hS := S w' hC
             go_simp
             exact hR _ (SpE.refl _ _ _ _)
           simp only [Act.put, List.setIfInBounds_toArray, List.set_cons_zero, List.set_cons_succ]))
      apply wpRel_rel (fun u wz => SlS wz w2.heap.size u dl) (by rfl) (fun u wa wz (hs : SlS wa w2.heap.size u dl) he => hs.touch he.touch (fun y hy => by have := (SlE.lt hs y hy).1; show ¬ y = C1 + 1; omega))
      · intro w' hC hf R hR
        have hS := S w' hC
        go_simp
        have hr2 : RdS w' (.slice (some ⟨g, off, none⟩) (K + 1) cap) p.parts := HR2.out.touch hC.1 (fun y hy => by have := HC1.out; simp [Value.ownBlock] at hy; show ¬ y = C1 + 1; omega)
        refine (texts_any (rd_take hr2 (by omega : K ≤ K + 1)) (by rw [HDL.out]; exact hdn)).mono ?_
        rintro e w'' ⟨⟨u, rfl, hu⟩, hb⟩
        rw [HDL.out] at hu
        exact ⟨_, rfl, hR _ _ (hu.mono hC.1.size) (SpE.of_below hb)⟩
      intro u
      simp only [Act.put, List.setIfInBounds_toArray, List.set_cons_zero, List.set_cons_succ]
      apply wpRel_rel (fun u2 wz => ∃ sp' cap', u2 = .agg #[.slice sp' dl.length cap', .bool false] ∧ SlS wz w2.heap.size (.slice sp' dl.length cap') dl) (by rfl) (fun u wa wz ⟨s1, c1, h1, h2⟩ he => ⟨s1, c1, h1, h2.touch he.touch (fun y hy => by have := (SlE.lt h2 y hy).1; show ¬ y = C1 + 1; omega)⟩)
      · intro w' hC hf R hR
        have hu : SlS w' w2.heap.size u dl := hf _ (List.mem_cons_self ..) (by kernel_rfl)
        obtain ⟨sp', cap', rfl⟩ : ∃ sp' cap', u = .slice sp' dl.length cap' := by
          rcases hu.cases with ⟨h1, h2⟩ | ⟨g, cap, h1, -⟩
          · exact ⟨none, 0, by rw [h1, h2]; rfl⟩
          · exact ⟨_, _, h1⟩
        go_simp
        exact hR _ _ ⟨_, _, rfl, hu⟩ (SpE.refl _ _ _ _)
      intro u2
      simp only [Act.put, List.setIfInBounds_toArray, List.set_cons_zero, List.set_cons_succ]
      repeat (first
        | (apply wpRel_skip (by rfl)
           simp only [Act.put, List.setIfInBounds_toArray, List.set_cons_zero, List.set_cons_succ])
        | (apply wpRel_fix (by rfl)
           · intro w' hC hf R hR
             have hS := S w' hC
             go_simp
             exact hR _ (SpE.refl _ _ _ _)
           simp only [Act.put, List.setIfInBounds_toArray, List.set_cons_zero, List.set_cons_succ]))
      apply wpRel_rel (fun _ wz => SpG (C1 + 1) w2.heap.size dl wz) (by rfl) (fun u wa wz hs he => he.good hs)
      · intro w' hC hf R hR
        obtain ⟨sp', cap', rfl, hu⟩ := hf _ (List.mem_cons_self ..) (by kernel_rfl)
        obtain ⟨r0, r1, hr⟩ := hC.2
        have q0 := hr.cell 0
        have q1 := hr.cell 1
        have p0 := hr.froz 0
        have p1 := hr.froz 1
        simp only [List.getElem?_cons_zero, List.getElem?_cons_succ] at q0 q1
        go_simp
        have ht : Touch (fun y => y = C1 + 1) w' ((w'.setCell ⟨C1 + 1, 0, none⟩ (.slice sp' dl.length cap')).setCell ⟨C1 + 1, 1, none⟩ (.bool false)) := Touch.setCell (S := fun y => y = C1 + 1) (p := ⟨C1 + 1, 1, none⟩) (Touch.setCell (S := fun y => y = C1 + 1) (p := ⟨C1 + 1, 0, none⟩) (Touch.refl _ _) (.inl rfl) _) (.inl rfl) _
        have hrow := (hr.set 0 (.slice sp' dl.length cap')).set 1 (.bool false)
        have hg : SpG (C1 + 1) w2.heap.size dl ((w'.setCell ⟨C1 + 1, 0, none⟩ (.slice sp' dl.length cap')).setCell ⟨C1 + 1, 1, none⟩ (.bool false)) := ⟨sp', cap', hrow, hu.touch ht (fun y hy => by have := (SlE.lt hu y hy).1; show ¬ y = C1 + 1; omega)⟩
        exact hR _ _ hg ⟨ht, fun _ => hg, fun _ => ⟨_, _, hrow⟩⟩
      intro u3
      simp only [Act.put, List.setIfInBounds_toArray, List.set_cons_zero, List.set_cons_succ]
      repeat (first
        | (apply wpRel_skip (by rfl)
           simp only [Act.put, List.setIfInBounds_toArray, List.set_cons_zero, List.set_cons_succ])
        | (apply wpRel_fix (by rfl)
           · intro w' hC hf R hR
             have hS := S w' hC
             go_simp
             exact hR _ (SpE.refl _ _ _ _)
           simp only [Act.put, List.setIfInBounds_toArray, List.set_cons_zero, List.set_cons_succ]))
      refine wpRel_nil (fun w3 hC hf => ?_)
      obtain ⟨sp', cap', hr3, hu3⟩ := hf _ (List.mem_cons_self ..)
      have HB3 : Hid (Below C1 w w3) := Lib.hid (HB.out.trans (hC.1.below (by omega) (fun y hy => by have : y = C1 + 1 := hy; omega)))
      have HU3 := Lib.hid (hu3.mono (show C1 ≤ w2.heap.size by omega))
      have q0 := hr3.cell 0
      have q1 := hr3.cell 1
      simp only [List.getElem?_cons_zero, List.getElem?_cons_succ] at q0 q1
      clear S hf hC hr3 hu3
      go_wp2
      rw [← HP.out]
      unfold DSplitR
      rw [HS.out, HC1.out, HDD.out]
      refine bodyPost_ret (v := .tuple #[.agg #[.slice sp' dl.length cap', .bool false], .string x, .int .i64 0]) (by simp [results, Tryz.results92, go_sem, q0, q1]) rfl ⟨⟨.slice sp' dl.length cap', rfl, HU3.out⟩, HB3.out⟩
    · have hs := split_bad (p := p) (.inr ⟨x, HL.out, hup⟩)
      have HS := Lib.hid hs
      have x2 : (x.toList == [46, 46]) = true := by rw [beq_iff_eq, ByteArray.toList_eq]; simpa [isUp, dots] using hup
      clear hs hup
      go_enter Tryz.func92, Tryz.ntmps92
      go_wp2
      rw [← HP.out]
      unfold DSplitR
      rw [HS.out]
      refine bodyPost_ret (v := .tuple #[.agg #[.slice none 0 0, .bool false], .string ⟨#[]⟩, .int .i64 114]) (by simp [results, Tryz.results92, go_sem]) rfl ⟨⟨.slice none 0 0, rfl, SlE.nil _ _ _ _ _⟩, ?_⟩
      repeat (first | exact Below.refl _ _ | refine bl_alloc ?_ _ | refine Below.drew ?_)
end Go.Proofs.YtnkcbogikaebfaaGreatDoor
end

section
/- The document's Within, Entries. -/
namespace Go.Proofs.YtnkcbogikaebfaaGreatDoor
open Go Go.RowKit
set_option maxRecDepth 100000
set_option linter.unusedSimpArgs false
set_option linter.unusedVariables false
attribute [local go_sem] giv
variable {E : Nat → Addr} {B : Nat}
section
variable {T : Nat → Prop} {w : World} {m : Nat} {st : St} {v : Value} {ms : List MN}
theorem DW.len (h : DW B T w m st v ms) : st.ns.length = ms.length := by rw [← h.eq, List.length_map]
set_option maxHeartbeats 2000000 in
theorem dwithin_any (h : DW B T w m st v ms) (hn : ms.length ≤ 1000000) (id c : Int) : Calls Tryz.prog 32 #[.pointer (some ⟨m, 0, none⟩), .int .i64 id, .int .i64 c] w fun e w' => e = .returned (.bool (st.within id c)) ∧ w = w' := by
  have HD := Lib.hid h
  obtain ⟨R, hR⟩ : ∃ R, st.within id c = R := ⟨_, rfl⟩
  rw [hR]
  have HR := Lib.hid hR
  have HL := Lib.hid h.len
  obtain ⟨sp, cap, hv⟩ := h.shape
  have HV := Lib.hid hv
  have hc2 := h.c2
  have hml := (h.lt m h.tm).2
  rw [hv] at hc2
  clear hR h hv
  go_enter Tryz.func32, Tryz.ntmps32
  go_wp2_with fail
  go_loopw [1, 7] (fun u k wr => ∃ (j : Nat) (x : Int), j ≤ ms.length + 1 ∧ k = .int .i64 (j : Int) ∧ u = .int .i64 x ∧ w = wr ∧ Hid (withinK st c (ms.length + 1 - j) x = R)) (fun _ k _ => ms.length + 1 - (intOf k).toNat)
  case atStart => exact ⟨0, id, Nat.zero_le _, rfl, rfl, rfl, Lib.hid (by rw [← HL.out]; exact HR.out)⟩
  case round =>
    obtain ⟨j, x, hj, rfl, rfl, rfl, HI⟩ := hrel
    by_cases hlt : j ≤ ms.length
    · have hk1 : (j : Int) ≤ (ms.length : Int) := by omega
      have hx := HI.out
      rw [show ms.length + 1 - j = (ms.length - j) + 1 by omega, withinK] at hx
      rcases place_get HD.out x with ⟨h1, h2⟩ | ⟨k, y, h1, h2, h3, h4⟩
      · rw [h2] at hx
        have hx : false = R := hx
        subst hx
        have H1 := Lib.hid h1
        clear h1 h2
        go_wp2_with fail
        refine (dget_none HD.out hn x H1.out).mono ?_
        rintro e w1 ⟨rfl, rfl⟩
        go_wp2
        go_ret
        exact ⟨rfl, rfl⟩
      · rw [h4] at hx
        simp only at hx
        obtain ⟨g, cap', hvb, hg⟩ := HD.out.block (by rintro rfl; simp at h2)
        have ck := HD.out.cell hvb (j := 1) h3 (by omega)
        have cp := HD.out.cell hvb (j := 5) h3 (by omega)
        rw [(encM_get y).2.1] at ck
        rw [(encM_get y).2.2.2.2.2.1] at cp
        have H1 := Lib.hid h1
        have H2 := Lib.hid hvb
        clear h1 h3 h4 hvb
        generalize y.nr.nd.kind = kd at ck hx
        generalize y.nr.nd.parent = pa at cp hx
        by_cases hkd : kd ≠ 2
        · rw [if_pos hkd] at hx
          have hx : false = R := hx
          subst hx
          go_wp2_with fail
          refine (dget_some HD.out hn x H1.out h2 H2.out).mono ?_
          rintro e w1 ⟨rfl, rfl⟩
          have hb : (kd != 2) = true := by rw [bne_iff_ne]; exact hkd
          go_wp2
          go_ret
          exact ⟨rfl, rfl⟩
        rw [if_neg hkd] at hx
        obtain rfl : kd = 2 := by omega
        by_cases hxc : x = c
        · rw [if_pos hxc] at hx
          have hx : true = R := hx
          subst hx
          subst hxc
          go_wp2_with fail
          refine (dget_some HD.out hn x H1.out h2 H2.out).mono ?_
          rintro e w1 ⟨rfl, rfl⟩
          go_wp2
          go_ret
          exact ⟨rfl, rfl⟩
        rw [if_neg hxc] at hx
        by_cases hx1 : x = 1
        · rw [if_pos hx1] at hx
          have hx : false = R := hx
          subst hx
          have hbx : (x == c) = false := by rw [beq_eq_false_iff_ne]; exact hxc
          have hb1 : (x == 1) = true := by rw [beq_iff_eq]; exact hx1
          have HX1 := Lib.hid hx1
          have HXC := Lib.hid hxc
          clear hx1 hxc
          go_wp2_with fail
          refine (dget_some HD.out hn x H1.out h2 H2.out).mono ?_
          rintro e w1 ⟨rfl, rfl⟩
          go_wp2
          go_ret
          exact ⟨rfl, rfl⟩
        rw [if_neg hx1] at hx
        have hbx : (x == c) = false := by rw [beq_eq_false_iff_ne]; exact hxc
        have hb1 : (x == 1) = false := by rw [beq_eq_false_iff_ne]; exact hx1
        have HX := Lib.hid hx
        clear hx hx1 hxc
        go_wp2_with fail
        refine (dget_some HD.out hn x H1.out h2 H2.out).mono ?_
        rintro e w1 ⟨rfl, rfl⟩
        go_wp2
        go_roundw
        case rel => exact ⟨j + 1, pa, by omega, by go_num, rfl, by first | trivial | rfl, Lib.hid (by rw [show ms.length + 1 - (j + 1) = ms.length - j by omega]; exact HX.out)⟩
        case measure => simp [intOf]; omega
    · obtain rfl : j = ms.length + 1 := by omega
      have hk1 : ¬ ((ms.length + 1 : Nat) : Int) ≤ (ms.length : Int) := by omega
      have hx := HI.out
      rw [Nat.sub_self, withinK] at hx
      have hx : false = R := hx
      subst hx
      go_wp2
      go_ret
      exact ⟨rfl, rfl⟩
end
end Go.Proofs.YtnkcbogikaebfaaGreatDoor
end

section
/- The document's New. -/
namespace Go.Proofs.YtnkcbogikaebfaaGreatDoor
open Go Go.RowKit
set_option maxRecDepth 100000
set_option linter.unusedSimpArgs false
set_option linter.unusedVariables false
attribute [local go_sem] giv
variable {E : Nat → Addr} {B : Nat}
def rootM : MN := ⟨⟨⟨1, 2, 1, 0, noText, 1⟩, []⟩, none, 0, restZ⟩
theorem dw_new (w : World) (hB : B ≤ w.heap.size) (X Y : Array Value) (hX : X = (encM rootM).toArray) (y0 : Value) (ys : List Value) (hY : Y = (y0 :: .int .i64 1 :: .slice (some ⟨w.heap.size, 0, none⟩) 1 1 :: ys).toArray) (h51 : Y.size = 51) (hone : Y.toList.all (fun u => u.oneCell') = true) :
    DW B (fun x => w.heap.size ≤ x ∧ x < ((w.alloc (.cells X 98)).alloc (.cells Y 104)).heap.size) ((w.alloc (.cells X 98)).alloc (.cells Y 104)) (w.heap.size + 1) newSt (.slice (some ⟨w.heap.size, 0, none⟩) 1 1) [rootM] := by
  have hism : IsM ((w.alloc (.cells X 98)).alloc (.cells Y 104)) (w.heap.size + 1) := by
    have h0 := isM_alloc (w.alloc (.cells X 98)) Y h51 (List.all_eq_true.1 hone)
    have h1 : (w.alloc (.cells X 98)).heap.size = w.heap.size + 1 := by simp
    rw [h1] at h0
    exact h0
  clear h51 hone
  subst hX hY
  have r1 := (Row.new w 98 (encM rootM)).alloc (.cells (y0 :: .int .i64 1 :: .slice (some ⟨w.heap.size, 0, none⟩) 1 1 :: ys).toArray 104)
  have r2 := Row.new (w.alloc (.cells (encM rootM).toArray 98)) 104 (y0 :: .int .i64 1 :: .slice (some ⟨w.heap.size, 0, none⟩) 1 1 :: ys)
  have hs : (w.alloc (.cells (encM rootM).toArray 98)).heap.size = w.heap.size + 1 := by simp
  rw [hs] at r2
  have hlt : w.heap.size + 1 < ((w.alloc (.cells (encM rootM).toArray 98)).alloc (.cells (y0 :: .int .i64 1 :: .slice (some ⟨w.heap.size, 0, none⟩) 1 1 :: ys).toArray 104)).heap.size := r2.lt
  generalize ((w.alloc (.cells (encM rootM).toArray 98)).alloc (.cells (y0 :: .int .i64 1 :: .slice (some ⟨w.heap.size, 0, none⟩) 1 1 :: ys).toArray 104)) = w' at r1 r2 hlt hism ⊢
  refine ⟨rfl, (r2.cell 1).trans rfl, (r2.cell 2).trans rfl, r2.froz 1, r2.froz 2, ⟨rfl, .inr ⟨w.heap.size, 1, (encM rootM).toArray, rfl, hB, r1, Nat.le_refl _, by unfold maxLen; omega, by simp [encM_len], by rw [flat_cons, flat_nil, List.append_nil]; simp; exact List.take_of_length_le (Nat.le_of_eq (encM_len _))⟩⟩, fun x hx => ?_, fun x hx => ?_, ⟨by omega, hlt⟩, fun x hx => ⟨by omega, hx.2⟩, by omega, hism⟩
  · simp [Value.ownBlock] at hx
    subst hx
    exact ⟨⟨Nat.le_refl _, by omega⟩, by omega⟩
  · rw [List.mem_singleton] at hx
    subst hx
    exact ⟨⟨none, 0, rfl, Nat.le_refl _, fun _ => rfl, fun h => (h rfl).elim⟩, fun h hh => by simp [rootM, MN.ev, Value.ownBlock] at hh⟩
theorem dnew_any (q : Int) (w : World) (hB : B ≤ w.heap.size) : Calls Tryz.prog 16 #[.int .i64 q] w fun e w' => ∃ m v ms, e = .returned (.pointer (some ⟨m, 0, none⟩)) ∧ DW B (fun x => w.heap.size ≤ x ∧ x < w'.heap.size) w' m newSt v ms ∧ ms.length = 1 ∧ Below w.heap.size w w' := by
  go_enter Tryz.func16, Tryz.ntmps16
  go_wp2
  go_ret
  refine ⟨w.heap.size + 1, .slice (some ⟨w.heap.size, 0, none⟩) 1 1, [rootM], rfl, dw_new w hB _ _ (by kernel_rfl) (.int .i64 q) _ rfl (by kernel_rfl) (by kernel_rfl), rfl, bl_alloc (bl_alloc (Below.refl _ _) _) _⟩
end Go.Proofs.YtnkcbogikaebfaaGreatDoor
end

section
/- The document's onto. -/
namespace Go.Proofs.YtnkcbogikaebfaaGreatDoor
open Go Go.RowKit
set_option maxRecDepth 100000
set_option linter.unusedSimpArgs false
set_option linter.unusedVariables false
attribute [local go_sem] giv
variable {E : Nat → Addr} {B : Nat}
section
variable {T : Nat → Prop} {w : World} {m : Nat} {st : St} {v : Value} {ms : List MN}
def ontoM (k : Int) (x : NR) : Int := if k = 2 ∧ x.nd.kind ≠ 2 then 111 else if k ≠ 2 ∧ x.nd.kind = 2 then 112 else if x.nd.kind = 2 ∧ x.ents ≠ [] then 113 else 0
theorem donto_zero (h : DW B T w m st v ms) (dir : Int) (nm : ByteArray) (k : Int) (slash : Bool) : Calls Tryz.prog 52 #[.pointer (some ⟨m, 0, none⟩), .agg #[.int .i64 dir, .int .i64 0, .string nm], .int .i64 k, .bool slash] w fun e w' =>
    e = .returned (.int .i64 (if slash = true ∧ k ≠ 2 then 111 else 0)) ∧ Below w.heap.size w w' := by
  cases slash
  · rw [show (if (false = true ∧ k ≠ 2) then (111 : Int) else 0) = 0 from if_neg (fun h => by cases h.1)]
    go_enter Tryz.func52, Tryz.ntmps52
    go_wp2
    go_ret
    exact ⟨rfl, bl_alloc (Below.refl _ _) _⟩
  · by_cases hk : k = 2
    · subst hk
      rw [show (if (true = true ∧ (2 : Int) ≠ 2) then (111 : Int) else 0) = 0 from if_neg (fun h => h.2 rfl)]
      go_enter Tryz.func52, Tryz.ntmps52
      go_wp2
      go_ret
      exact ⟨rfl, bl_alloc (Below.refl _ _) _⟩
    · have hb : (k != 2) = true := by rw [bne_iff_ne]; exact hk
      have HK : Hid ((if (true = true ∧ k ≠ 2) then (111 : Int) else 0) = 111) := Lib.hid (if_pos ⟨rfl, hk⟩)
      rw [HK.out]
      clear HK
      go_enter Tryz.func52, Tryz.ntmps52
      go_wp2
      go_ret
      exact ⟨rfl, bl_alloc (Below.refl _ _) _⟩
set_option maxHeartbeats 1000000 in
theorem donto_some (h : DW B T w m st v ms) (hn : ms.length ≤ 1000000) {node : Int} (hnz : node ≠ 0) {x : NR} (hg : st.get node = some x) (dir : Int) (nm : ByteArray) (k : Int) (slash : Bool) :
    Calls Tryz.prog 52 #[.pointer (some ⟨m, 0, none⟩), .agg #[.int .i64 dir, .int .i64 node, .string nm], .int .i64 k, .bool slash] w fun e w' =>
    e = .returned (.int .i64 (ontoM k x)) ∧ Below w.heap.size w w' := by
  have bb := bl_alloc (Below.refl w.heap.size w) (.cells #[.int .i64 dir, .int .i64 node, .string nm] 120)
  have HBB := Lib.hid bb
  have HDB := Lib.hid (h.below bb)
  rcases place_get h node with ⟨h1, h2⟩ | ⟨q, y, h1, h2, h3, h4⟩
  · rw [hg] at h2; cases h2
  obtain rfl : x = y.nr := by rw [hg] at h4; injection h4
  obtain ⟨g, cap, hv, hgl⟩ := h.block (by rintro rfl; simp at h2)
  have ck := HDB.out.cell hv (j := 1) h3 (by omega)
  have ce := HDB.out.cell hv (j := 6) h3 (by omega)
  rw [(encM_get y).2.1] at ck
  rw [(encM_get y).2.2.2.2.2.2] at ce
  unfold MN.ev at ce
  have H1 := Lib.hid h1
  have H2 := Lib.hid hv
  have hnb : (node == 0) = false := by rw [beq_eq_false_iff_ne]; exact hnz
  obtain ⟨res, hres⟩ : ∃ r, ontoM k y.nr = r := ⟨_, rfl⟩
  rw [hres]
  clear h bb h1 h3 h4 hv hg hnz
  unfold ontoM at hres
  generalize y.nr.nd.kind = kd at ck hres
  by_cases hk : k = 2
  · subst hk
    by_cases hkd : kd = 2
    · subst hkd
      rw [if_neg (by rintro ⟨_, h⟩; exact h rfl), if_neg (by rintro ⟨h, _⟩; exact h rfl)] at hres
      by_cases hen : y.nr.ents = []
      · rw [if_neg (fun h => h.2 hen)] at hres
        have HRES := Lib.hid hres.symm
        have hl0 : ¬ ((y.nr.ents.length : Int) > 0) := by rw [hen]; simp
        clear hres hen
        go_enter Tryz.func52, Tryz.ntmps52
        go_wp2_with fail
        refine (dget_some HDB.out hn node H1.out h2 H2.out).mono ?_
        rintro e w1 ⟨rfl, rfl⟩
        go_wp2
        go_ret
        exact ⟨by rw [HRES.out]; rfl, HBB.out⟩
      · rw [if_pos ⟨rfl, hen⟩] at hres
        have HRES := Lib.hid hres.symm
        have hl0 : ((y.nr.ents.length : Int) > 0) := by have := List.length_pos_iff.2 hen; omega
        clear hres hen
        go_enter Tryz.func52, Tryz.ntmps52
        go_wp2_with fail
        refine (dget_some HDB.out hn node H1.out h2 H2.out).mono ?_
        rintro e w1 ⟨rfl, rfl⟩
        go_wp2
        go_ret
        exact ⟨by rw [HRES.out]; rfl, HBB.out⟩
    · rw [if_pos ⟨rfl, hkd⟩] at hres
      have HRES := Lib.hid hres.symm
      have hb : (kd != 2) = true := by rw [bne_iff_ne]; exact hkd
      clear hres
      go_enter Tryz.func52, Tryz.ntmps52
      go_wp2_with fail
      refine (dget_some HDB.out hn node H1.out h2 H2.out).mono ?_
      rintro e w1 ⟨rfl, rfl⟩
      go_wp2
      go_ret
      exact ⟨by rw [HRES.out]; rfl, HBB.out⟩
  · have hb1 : (k != 2) = true := by rw [bne_iff_ne]; exact hk
    have hb2 : (k == 2) = false := by rw [beq_eq_false_iff_ne]; exact hk
    rw [if_neg (fun h => hk h.1)] at hres
    by_cases hkd : kd = 2
    · subst hkd
      rw [if_pos ⟨hk, rfl⟩] at hres
      have HRES := Lib.hid hres.symm
      clear hres
      go_enter Tryz.func52, Tryz.ntmps52
      go_wp2_with fail
      refine (dget_some HDB.out hn node H1.out h2 H2.out).mono ?_
      rintro e w1 ⟨rfl, rfl⟩
      go_wp2
      go_ret
      exact ⟨by rw [HRES.out]; rfl, HBB.out⟩
    · rw [if_neg (fun h => hkd h.2), if_neg (fun h => hkd h.1)] at hres
      have HRES := Lib.hid hres.symm
      have hb : (kd == 2) = false := by rw [beq_eq_false_iff_ne]; exact hkd
      clear hres
      go_enter Tryz.func52, Tryz.ntmps52
      go_wp2_with fail
      refine (dget_some HDB.out hn node H1.out h2 H2.out).mono ?_
      rintro e w1 ⟨rfl, rfl⟩
      go_wp2
      go_ret
      exact ⟨by rw [HRES.out]; rfl, HBB.out⟩
end
end Go.Proofs.YtnkcbogikaebfaaGreatDoor
end

section
/- The document's Entries. -/
namespace Go.Proofs.YtnkcbogikaebfaaGreatDoor
open Go Go.RowKit
set_option maxRecDepth 100000
set_option linter.unusedSimpArgs false
set_option linter.unusedVariables false
attribute [local go_sem] giv
variable {E : Nat → Addr} {B : Nat}
def sumE (ms : List MN) : Nat := (ms.map fun x => x.nr.ents.length).sum
theorem sumE_take {ms : List MN} {j : Nat} (h : j < ms.length) : sumE (ms.take (j + 1)) = sumE (ms.take j) + ms[j].nr.ents.length := by
  unfold sumE
  rw [List.take_succ_eq_append_getElem h]
  simp only [List.map_append, List.sum_append, List.map_cons, List.map_nil, List.sum_cons, List.sum_nil, Nat.add_zero]
theorem sumE_le {ms : List MN} {C : Nat} (h : ∀ x ∈ ms, x.nr.ents.length ≤ C) : ∀ j, sumE (ms.take j) ≤ ms.length * C := by
  have key : ∀ l : List MN, (∀ x ∈ l, x.nr.ents.length ≤ C) → sumE l ≤ l.length * C := by
    intro l
    induction l with
    | nil => intro _; simp [sumE]
    | cons x l ih =>
      intro hl
      have h1 := ih (fun y hy => hl y (List.mem_cons_of_mem _ hy))
      have h2 := hl x (List.mem_cons_self ..)
      have h3 : sumE (x :: l) = x.nr.ents.length + sumE l := by simp [sumE]
      rw [h3, List.length_cons, Nat.add_mul]
      omega
  intro j
  refine Nat.le_trans (key _ (fun x hx => h x (List.mem_of_mem_take hx))) (Nat.mul_le_mul_right _ ?_)
  rw [List.length_take]
  omega
section
variable {T : Nat → Prop} {w : World} {m : Nat} {st : St} {v : Value} {ms : List MN}
set_option maxHeartbeats 1000000 in
theorem dentries_any (h : DW B T w m st v ms) (hn : ms.length ≤ 1000000) (he : ∀ x ∈ ms, x.nr.ents.length ≤ 1000000) : Calls Tryz.prog 56 #[.pointer (some ⟨m, 0, none⟩)] w fun e w' => e = .returned (.int .i64 (sumE ms)) ∧ w = w' := by
  have HD := Lib.hid h
  obtain ⟨sp, cap, hv⟩ := h.shape
  have HV := Lib.hid hv
  have hc2 := h.c2
  have hml := (h.lt m h.tm).2
  rw [hv] at hc2
  have HS := Lib.hid (sumE_le he)
  clear h hv
  go_enter Tryz.func56, Tryz.ntmps56
  go_wp2
  go_loopw [3, 4] (fun k i wr => ∃ j : Nat, j ≤ ms.length ∧ k = .int .i64 ((sumE (ms.take j) : Nat) : Int) ∧ i = .int .i64 (j : Int) ∧ w = wr) (fun _ i _ => ms.length - (intOf i).toNat)
  case atStart => exact ⟨0, Nat.zero_le _, rfl, rfl, rfl⟩
  case round =>
    obtain ⟨j, hj, rfl, rfl, rfl⟩ := hrel
    by_cases hlt : j < ms.length
    · obtain ⟨g, cap', hv', hgl⟩ := HD.out.block (by rintro rfl; simp at hlt)
      have hsp : sp = some ⟨g, 0, none⟩ := by have := HV.out.symm.trans hv'; injection this
      subst hsp
      have cx := HD.out.cell hv' (j := 6) (List.getElem?_eq_getElem hlt) (by omega)
      rw [(encM_get _).2.2.2.2.2.2] at cx
      unfold MN.ev at cx
      have hj0 : (0 : Int) ≤ (j : Int) := by omega
      have hj1 : (j : Int) < (ms.length : Int) := by omega
      have hst := sumE_take hlt
      have hb1 := HS.out j
      have hb2 := HS.out (j + 1)
      have hb3 : ms.length * 1000000 ≤ 1000000 * 1000000 := Nat.mul_le_mul_right _ hn
      generalize ms[j].nr.ents.length = ln at cx hst
      have HST := Lib.hid hst
      have hb4 : ((sumE (ms.take j) : Nat) : Int) + (ln : Int) ≤ 1000000000000 := by omega
      have hb5 : (0 : Int) ≤ ((sumE (ms.take j) : Nat) : Int) + (ln : Int) := by omega
      clear hst hb1 hb2 hb3 hv'
      go_wp2
      go_roundw
      case rel => exact ⟨j + 1, by omega, by rw [HST.out]; go_num, by go_num, by first | trivial | rfl⟩
      case measure => simp [intOf]; omega
    · obtain rfl : j = ms.length := by omega
      rw [List.take_length]
      go_wp2
      go_ret
      exact ⟨rfl, rfl⟩
end
end Go.Proofs.YtnkcbogikaebfaaGreatDoor
end
