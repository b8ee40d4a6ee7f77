/- PROVED: Rows.TreeRefusesCardSaid: for every input the law TreeRefuses returns true, and each argument reads as before. Conditions: none beyond the listed package variables, which the card ties to the program's text. -/
import Derived.Test.YtnkcbogikaebfaaGreatDoorBase41
import Derived.Test.YtnkcbogikaebfaaGreatDoorBase39
import Derived.Test.YtnkcbogikaebfaaGreatDoorRows
import Derived.Test.YtnkcbogikaebfaaGreatDoorCards
import Derived.Test.YtnkcbogikaebfaaGreatDoorTie
import Derived.Test.YtnkcbogikaebfaaGreatDoorBase05
import Derived.Test.YtnkcbogikaebfaaGreatDoorBase06
import Derived.Test.YtnkcbogikaebfaaGreatDoorBase35
import Derived.Test.YtnkcbogikaebfaaGreatDoorBase36
import Derived.ProofKit
import Derived.OpenShut
import Derived.ChangeOld
import Derived.LaidMore
import Derived.ChangeSame
import Derived.ChangeVars
import Derived.JoinedOf
import Derived.Lay
import Derived.MakeChecks
import Derived.SevenTiedAt
import Derived.Stop.Joined
import Derived.ChangeMaps5
import Derived.Test.YtnkcbogikaebfaaGreatDoorBase42
section
/- Two document's trees beside a tree: the roles changed. -/
namespace Go.Proofs.YtnkcbogikaebfaaGreatDoor
open Go Go.RowKit
set_option maxRecDepth 100000
set_option linter.unusedSimpArgs false
set_option linter.unusedVariables false
variable {E : Nat → Addr} {B : Nat}
theorem RdE.keep {α : Type} {w w' : World} {k : Nat} {enc : α → List Value} {v : Value} {xs : List α} (r : RdE w k enc v xs) (hn : ∀ x, v.ownBlock = some x → w'.heap[x]? = w.heap[x]?) : RdE w' k enc v xs := by
  obtain ⟨sp, cap, rfl, h1, h2, h3⟩ := r
  refine ⟨sp, cap, rfl, h1, h2, fun hx => ?_⟩
  obtain ⟨h, off, rfl, h5, h6⟩ := h3 hx
  have hb := hn h rfl
  have hl : h < w'.heap.size := by
    rw [Array.getElem?_eq_getElem h5] at hb
    exact (Array.getElem?_eq_some_iff.1 hb).1
  exact ⟨h, off, rfl, hl, fun i j hi hj => (World.cell?_of_block (w := w) hb).trans (h6 i j hi hj)⟩
section
variable {T S : Nat → Prop} {w w' : World} {m : Nat} {st : St} {v : Value} {ms : List MN}
theorem DW.keep (h : DW B T w m st v ms) (he : ∀ x, T x → w'.heap[x]? = w.heap[x]?) (hB : B ≤ w'.heap.size) : DW B T w' m st v ms := by
  have hm := he m h.tm
  refine ⟨h.eq, (World.cell?_of_block (w := w) (a := ⟨m, 1, none⟩) hm).trans h.c1, (World.cell?_of_block (w := w) (a := ⟨m, 2, none⟩) hm).trans h.c2, ?_, ?_, h.sl.keep (fun x hx => he x (h.own x hx).1), h.own,
    fun x hx => ⟨(h.ents x hx).1.keep (fun y hy => he y ((h.ents x hx).2 y hy).1), (h.ents x hx).2⟩, h.tm, fun x hx => ⟨(h.lt x hx).1, ?_⟩, hB, h.ism.same hm⟩
  · have := h.f1
    unfold World.frozen? at this ⊢
    simp only at this ⊢
    rw [hm]
    exact this
  · have := h.f2
    unfold World.frozen? at this ⊢
    simp only at this ⊢
    rw [hm]
    exact this
  · have h5 := he x hx
    rw [Array.getElem?_eq_getElem (h.lt x hx).2] at h5
    exact (Array.getElem?_eq_some_iff.1 h5).1
theorem MW.keep (h : MW B T w m st) (he : ∀ x, T x → w'.heap[x]? = w.heap[x]?) (hB : B ≤ w'.heap.size) : MW B T w' m st := by
  obtain ⟨v, ms, h⟩ := h
  exact ⟨v, ms, h.keep he hB⟩
end
section
variable {X : Nat → Prop} {wx : World} {a b t dm m c : Nat} {T : Nat → Prop} {w0 w w' : World} {st st' sd sd' sc : St}
/-- The other document's tree in the place of the one. -/
theorem TH.swap (h : TH E B X wx a b t dm m T w0 st sd w) (hc : MW B X w c sc) (ha : ¬ X a) : TH E B T w a b t dm c X w0 st sc w :=
  ⟨h.ts.less (fun x hx => by
    rcases hx with hx | hx | hx
    · exact .inl hx
    · exact .inr (.inr hx)
    · exact .inr (.inl hx)) (.inl rfl), hc, ha, fun x hx hX => h.nx x hX hx, fun _ _ => rfl⟩
theorem TH.bel (h : TH E B X wx a b t dm m T w0 st sd w) : Below B w0 w := h.ts.bel
end
end Go.Proofs.YtnkcbogikaebfaaGreatDoor
end

section
/- The document's Copy: one of its own. -/
namespace Go.Proofs.YtnkcbogikaebfaaGreatDoor
open Go Go.RowKit
set_option maxRecDepth 100000
set_option linter.unusedSimpArgs false
set_option linter.unusedVariables false
attribute [local go_sem] giv
variable {E : Nat → Addr} {B : Nat}
theorem encM_all (x : MN) : (encM x).toArray.all (·.oneCell') = true := by
  rw [List.all_toArray]
  exact List.all_eq_true.2 (fun u hu => mnT.one x u hu)
/-- A whole value stored into a block that was just made. -/
theorem wpList_store_new {P : Program} {ops : Array Oper} {rest : List Oper} {o : Oper} {a : Act} {w : World} {Q : Exit → Act → World → Prop} {old : Array Value} {t : TypeId} (hgd : o.guard = none) (ty : TypeId) (x y : Operand) (ho : o.op = .store ty x y) (hd : o.dst = none)
    (cs : List Value) (n : Nat) (hx : a.eval x = .pointer (some ⟨w.heap.size, 0, none⟩)) (hy : a.eval y = .agg cs.toArray) (hi : (P.info? ty).map (·.size) = some n) (hc : cs.length = n) (ho2 : old.size = n) (h1 : ∀ u ∈ cs, u.oneCell' = true)
    (h : ∀ w1, Row w1 w.heap.size t cs → Below w.heap.size w w1 → w1.heap.size = w.heap.size + 1 → wpList P ops Q rest a w1) : wpList P ops Q (o :: rest) a (w.alloc (.cells old t)) := by
  have hcs : cs.toArray.size = n := by simpa using hc
  refine wpList_store_rowTo hgd ty x y ho hd w.heap.size cs.toArray hx hy t old (heap_alloc_new w _) (by rw [hcs]; exact hi) (ho2.trans hcs.symm) (by rw [List.all_toArray]; exact List.all_eq_true.2 h1) (h _ ?_ ?_ ?_)
  · exact setRow_heap _ w.heap.size _ _ t _ (heap_alloc_new w _)
  · refine ⟨rfl, rfl, rfl, by simp, fun j hj => ?_⟩
    rw [setRow_other _ _ _ _ (by omega)]
    exact heap_alloc_old w _ j hj
  · simp
section
variable {T : Nat → Prop} {w w1 : World} {m : Nat} {st : St} {v : Value} {ms : List MN}
/-- M without nodes: what Copy begins with. -/
theorem dw_start {c : Nat} {cs : List Value} (r : Row w c 104 cs) (h51 : cs.length = 51) (hone : ∀ u ∈ cs, u.oneCell' = true) {last : Int} (h1 : cs[1]? = some (.int .i64 last)) (h2 : cs[2]? = some (.slice none 0 0)) (htm : T c)
    (hlt : ∀ x, T x → B ≤ x ∧ x < w.heap.size) (hB : B ≤ w.heap.size) : DW B T w c ⟨last, []⟩ (.slice none 0 0) [] :=
  ⟨rfl, (r.cell 1).trans h1, (r.cell 2).trans h2, r.froz 1, r.froz 2, SlE.nil _ _ _ _ _, (fun x hx => by simp [Value.ownBlock] at hx), (fun x hx => (by cases hx)), htm, hlt, hB, ⟨cs, r, h51, hone⟩⟩
/-- The nodes with one more, its entries in blocks of their own. -/
theorem DW.snoc2 (h : DW B T w m st v ms) (ht : Touch (fun x => v.ownBlock = some x) w w1) {v' : Value} {x : MN} (hs : SlE w1 B 98 199 encM v' (ms ++ [x])) (hpl : ∀ y, v'.ownBlock = some y → v.ownBlock = some y ∨ w.heap.size ≤ y)
    (hx : RdEn w x.ev x.nr.ents ∧ ∀ z, x.ev.ownBlock = some z → T z ∧ z ≠ m ∧ v.ownBlock ≠ some z) :
    DW B (NewT T w w1) (w1.setCell ⟨m, 2, none⟩ v') m ⟨st.last, st.ns ++ [x.nr]⟩ v' (ms ++ [x]) ∧ Touch (fun x => v.ownBlock = some x ∨ x = m) w (w1.setCell ⟨m, 2, none⟩ v') := by
  have hml := (h.lt m h.tm).2
  have hmg : ¬ v.ownBlock = some m := fun e => (h.own m e).2 rfl
  have ht2 : Touch (fun x => x = m) w1 (w1.setCell ⟨m, 2, none⟩ v') := Touch.setCell (S := fun x => x = m) (p := ⟨m, 2, none⟩) (Touch.refl _ _) (.inl rfl) _
  have c1 : w1.cell? ⟨m, 1, none⟩ = some (.int .i64 st.last) := (ht.cell (p := ⟨m, 1, none⟩) hml hmg).trans h.c1
  have c2 : w1.cell? ⟨m, 2, none⟩ = some v := (ht.cell (p := ⟨m, 2, none⟩) hml hmg).trans h.c2
  have f1 : w1.frozen? ⟨m, 1, none⟩ = false := (ht.frozen (p := ⟨m, 1, none⟩) hml hmg).trans h.f1
  have f2 : w1.frozen? ⟨m, 2, none⟩ = false := (ht.frozen (p := ⟨m, 2, none⟩) hml hmg).trans h.f2
  have hlt := SlE.lt hs
  have key : ∀ y, v'.ownBlock = some y → NewT T w w1 y ∧ y ≠ m := fun y hy => by
    rcases hpl y hy with e | e
    · exact ⟨.inl (h.own y e).1, (h.own y e).2⟩
    · exact ⟨.inr ⟨e, (hlt y hy).2⟩, by omega⟩
  have keyE : ∀ y : MN, (RdEn w y.ev y.nr.ents ∧ ∀ z, y.ev.ownBlock = some z → T z ∧ z ≠ m ∧ v.ownBlock ≠ some z) → RdEn (w1.setCell ⟨m, 2, none⟩ v') y.ev y.nr.ents ∧ ∀ z, y.ev.ownBlock = some z → NewT T w w1 z ∧ z ≠ m ∧ v'.ownBlock ≠ some z := fun y hy => by
    refine ⟨(hy.1.touch ht (fun z hz e => (hy.2 z hz).2.2 e)).touch ht2 (fun z hz => (hy.2 z hz).2.1), fun z hz => ?_⟩
    obtain ⟨h1, h2, h3⟩ := hy.2 z hz
    refine ⟨.inl h1, h2, fun e => ?_⟩
    rcases hpl z e with e2 | e2
    · exact h3 e2
    · have := (h.lt z h1).2; omega
  refine ⟨⟨by rw [List.map_append, h.eq]; rfl, (World.cell?_setCell_other _ _ _ _ (by intro e; cases e)).trans c1, World.cell?_setCell_same _ _ _ c2, by simpa using f1, by simpa using f2, hs.touch ht2 (fun y hy => (key y hy).2), key, fun y hy => ?_, .inl h.tm, fun y hy => ?_, Nat.le_trans h.hB (Nat.le_trans ht.size ht2.size), (h.ism.same (ht.block m hml hmg)).set 2 (by rcases hs.cases with ⟨e, _⟩ | ⟨_, _, e, _⟩ <;> rw [e] <;> rfl)⟩, ?_⟩
  · rcases List.mem_append.1 hy with hy | hy
    · exact keyE y (h.ents y hy)
    · rw [List.mem_singleton] at hy
      subst hy
      exact keyE y hx
  · have := ht2.size
    rcases hy with hy | hy
    · exact ⟨(h.lt y hy).1, Nat.lt_of_lt_of_le (h.lt y hy).2 (Nat.le_trans ht.size this)⟩
    · exact ⟨Nat.le_trans h.hB hy.1, Nat.lt_of_lt_of_le hy.2 this⟩
  · exact (ht.mono (fun x hx _ => .inl hx)).trans ht2 (fun x hx _ => .inr hx)
set_option maxHeartbeats 8000000 in
theorem mcopy_any (h : MW B T w m st) (f : Full st) : Calls Tryz.prog 17 #[.pointer (some ⟨m, 0, none⟩)] w fun e w' =>
    ∃ c, e = .returned (.pointer (some ⟨c, 0, none⟩)) ∧ MW B (fun x => w.heap.size ≤ x ∧ x < w'.heap.size) w' c st ∧ Below w.heap.size w w' := by
  obtain ⟨v, ms, hD⟩ := h
  have HD := Lib.hid hD
  have hn := hD.small f.tidy.toTid
  have hfew : ∀ x ∈ ms, x.nr.ents.length ≤ 8192 := (hD.few f).2
  have HFEW := Lib.hid hfew
  have HLEN := Lib.hid hD.len
  obtain ⟨cs, hrow, h51, hone⟩ := hD.ism
  have hcs1 : cs[1]? = some (.int .i64 st.last) := (hrow.cell 1).symm.trans hD.c1
  obtain ⟨sp, cap, hv⟩ := hD.shape
  have hc2 := hD.c2
  have hml := (hD.lt m hD.tm).2
  have hB := hD.hB
  rw [hv] at hc2
  have HC2 := Lib.hid (And.intro hc2 hml)
  have HV := Lib.hid hv
  have HCS := Lib.hid (And.intro h51 (And.intro hone (And.intro hcs1 hB)))
  have HROW := Lib.hid hrow
  generalize hP : (fun (e : Ending) (w' : World) => ∃ c, e = .returned (.pointer (some ⟨c, 0, none⟩)) ∧ MW B (fun x => w.heap.size ≤ x ∧ x < w'.heap.size) w' c st ∧ Below w.heap.size w w') = Post
  have HP := Lib.hid hP
  obtain ⟨C, hC⟩ : ∃ C, w.heap.size = C := ⟨_, rfl⟩
  have HC := Lib.hid hC
  clear hP hD hv hfew hrow h51 hone hcs1 hc2 hB hC
  go_enter Tryz.func17, Tryz.ntmps17
  go_upto_region 2 with (first
    | (refine wpList_load_row rfl 104 _ rfl m rfl 104 cs.toArray (0, 0) _ HROW.out Tryz.underlying104 rfl (by rw [List.size_toArray, HCS.out.1]; kernel_rfl) ?_)
    | (refine wpList_store_new rfl 104 _ _ rfl rfl cs 51 rfl rfl (by kernel_rfl) HCS.out.1 (by kernel_rfl) HCS.out.2.1 ?_; intro w1 rC hb1 hz1))
  have HB1 := Lib.hid (And.intro hb1 hz1)
  rw [HC.out] at rC ⊢
  obtain ⟨y2, hy2⟩ : ∃ y, cs[2]? = some y := ⟨_, List.getElem?_eq_getElem (by rw [HCS.out.1]; decide)⟩
  have c2' : w1.cell? ⟨C, 2, none⟩ = some y2 := (rC.cell 2).trans hy2
  have f2' := rC.froz 2
  have l2' := rC.lt
  have HRC := Lib.hid rC
  clear hb1 hz1 rC hy2
  go_upto_region 3 with fail
  obtain ⟨w2, hw2⟩ : ∃ w2, w2 = w1.setCell ⟨C, 2, none⟩ (.slice none 0 0) := ⟨_, rfl⟩
  have r2 : Row w2 C 104 (cs.set 2 (.slice none 0 0)) := by rw [hw2]; exact HRC.out.set 2 _
  have hb2 : Below w.heap.size w w2 := by rw [hw2]; exact HB1.out.1.setCell (p := ⟨C, 2, none⟩) (by rw [HC.out]; exact Nat.le_refl _) _
  have hz2 := r2.lt
  have hd0 : DW B (fun x => w.heap.size ≤ x ∧ x < w2.heap.size) w2 C ⟨st.last, []⟩ (.slice none 0 0) [] :=
    dw_start r2 (by simp [HCS.out.1]) (fun u hu => by
      rcases List.mem_or_eq_of_mem_set hu with hu | hu
      · exact HCS.out.2.1 u hu
      · rw [hu]; rfl) (by rw [List.getElem?_set_ne (by decide)]; exact HCS.out.2.2.1) (by rw [List.getElem?_set_self (by rw [HCS.out.1]; decide)]) ⟨by rw [HC.out]; exact Nat.le_refl _, hz2⟩ (fun x hx => ⟨Nat.le_trans HCS.out.2.2.2 hx.1, hx.2⟩) (Nat.le_trans HCS.out.2.2.2 hb2.size)
  rw [← hw2]
  have HD0 := Lib.hid (And.intro hd0 hb2)
  clear hw2 r2 hb2 hz2 hd0 c2' f2' l2' HRC HB1
  go_wp2_with fail
  go_loopw [4] (fun i wr => ∃ (j : Nat) (v' : Value) (ms' : List MN), j ≤ ms.length ∧ i = .int .i64 (j : Int) ∧ Hid (DW B (fun x => w.heap.size ≤ x ∧ x < wr.heap.size) wr C ⟨st.last, st.ns.take j⟩ v' ms' ∧ ms'.length = j ∧ Below w.heap.size w wr)) (fun i _ => ms.length - (intOf i).toNat)
  case atStart => exact ⟨0, _, [], Nat.zero_le _, rfl, Lib.hid ⟨HD0.out.1, rfl, HD0.out.2⟩⟩
  case round =>
    obtain ⟨j, v', ms', hj, rfl, HI⟩ := hrel
    have hc2 : wr.cell? ⟨m, 2, none⟩ = some (.slice sp ms.length cap) := (HI.out.2.2.cell (p := ⟨m, 2, none⟩) HC2.out.2).trans HC2.out.1
    have hmr : m < wr.heap.size := Nat.lt_of_lt_of_le HC2.out.2 HI.out.2.2.size
    by_cases hlt : j < ms.length
    case neg =>
      have hje : j = ms.length := by omega
      have hj1 : ¬ (j : Int) < (ms.length : Int) := by omega
      have hd := HI.out.1
      rw [hje, ← HLEN.out, List.take_length] at hd
      have HFIN := Lib.hid (And.intro hd HI.out.2.2)
      clear hd hje hlt
      go_wp2
      rw [← HP.out]
      have hfin : ∃ c, (Ending.returned (.pointer (some ⟨C, 0, none⟩)) : Ending) = .returned (.pointer (some ⟨c, 0, none⟩)) ∧ MW B (fun x => w.heap.size ≤ x ∧ x < wr.heap.size) wr c st ∧ Below w.heap.size w wr := ⟨C, rfl, ⟨_, _, HFIN.out.1⟩, HFIN.out.2⟩
      first
        | exact hfin
        | (go_ret; exact hfin)
    have hj1 : (j : Int) < (ms.length : Int) := by omega
    have hj0 : (0 : Int) ≤ (j : Int) := by omega
    obtain ⟨g, cap', hv', hgl⟩ := HD.out.block (by rintro rfl; simp at hlt)
    have hsp : sp = some ⟨g, 0, none⟩ := by have := HV.out.symm.trans hv'; injection this
    subst hsp
    have hgr : g < wr.heap.size := Nat.lt_of_lt_of_le hgl HI.out.2.2.size
    have HG := Lib.hid (And.intro hv' (And.intro hgl hgr))
    have HDr := Lib.hid (HD.out.below HI.out.2.2)
    obtain ⟨xj, hxj⟩ : ∃ xj, ms[j] = xj := ⟨_, rfl⟩
    have hget : ms[j]? = some xj := by rw [List.getElem?_eq_getElem hlt, hxj]
    have HGET := Lib.hid hget
    have hra : wr.rangeAt g (j * 199) (encM xj) := fun i u hu => by
      have hi : i < 199 := by
        have := (List.getElem?_eq_some_iff.1 hu).1
        rw [encM_len] at this
        exact this
      rw [HDr.out.cell HG.out.1 hget hi]
      exact hu
    have HRA := Lib.hid hra
    have HLT := Lib.hid hlt
    have HFE := Lib.hid (HFEW.out xj (List.mem_of_getElem? hget))
    have HEV := Lib.hid (HDr.out.ents xj (List.mem_of_getElem? hget)).1
    obtain ⟨N, hN⟩ : ∃ N, wr.heap.size = N := ⟨_, rfl⟩
    have HN := Lib.hid hN
    clear hv' hxj hget hra hlt hN
    go_upto_region 7 with (first
      | (refine wpList_load_mid rfl 98 _ rfl g (j * 199) rfl (encM xj) _ HRA.out Tryz.underlying98 rfl (by rw [encM_len]; kernel_rfl) ?_)
      | (refine wpList_store_new rfl 98 _ _ rfl rfl (encM xj) 199 rfl rfl (by kernel_rfl) (encM_len xj) (by kernel_rfl) (mnT.one xj) ?_; intro w6 r6 hb6 hz6))
    have HB6 := Lib.hid (And.intro hb6 hz6)
    rw [HN.out] at r6 ⊢
    have HR6 := Lib.hid r6
    have hl6 := r6.lt
    obtain ⟨xnr, xsp, xcap, xrest⟩ := xj
    have n6 : w6.cell? ⟨N, 6, none⟩ = some (.slice xsp xnr.ents.length xcap) := (r6.cell 6).trans rfl
    have f6 := r6.froz 6
    have HEV6 := Lib.hid (HEV.out.below hb6)
    unfold MN.ev at HEV6
    simp only at HEV6 HFE
    clear hb6 hz6 r6 hc2 hmr
    go_wp2_with fail
    refine (entrys_big HEV6.out (Nat.le_trans HFE.out (by decide))).mono ?_
    rintro e w7 ⟨⟨u, rfl, hu⟩, hb7⟩
    obtain ⟨su, cu, rfl⟩ := slShape hu
    have HU := Lib.hid hu
    have HB7 := Lib.hid hb7
    have r7 := HR6.out.below hb7
    have n7 : w7.cell? ⟨N, 6, none⟩ = some (.slice xsp xnr.ents.length xcap) := (r7.cell 6).trans rfl
    have f7 := r7.froz 6
    have hl7 := r7.lt
    have HR7 := Lib.hid r7
    clear hu hb7 r7 n6 f6 hl6
    go_upto_region 8 with fail
    obtain ⟨w8, hw8⟩ : ∃ w8, w8 = w7.setCell ⟨N, 6, none⟩ (.slice su xnr.ents.length cu) := ⟨_, rfl⟩
    rw [← hw8]
    obtain ⟨x', hx'⟩ : ∃ x' : MN, x' = ⟨xnr, su, cu, xrest⟩ := ⟨_, rfl⟩
    have r8 : Row w8 N 98 (encM x') := by
      rw [hw8, hx']
      exact HR7.out.set 6 (.slice su xnr.ents.length cu)
    have hbr8 : Below wr.heap.size wr w8 := by
      rw [hw8]
      exact (HB6.out.1.trans (HB7.out.mono HB6.out.1.size)).setCell (p := ⟨N, 6, none⟩) (Nat.le_of_eq HN.out) _
    have ht8 : Touch (fun y => y = N) w7 w8 := by rw [hw8]; exact Touch.setCell (S := fun y => y = N) (p := ⟨N, 6, none⟩) (Touch.refl _ _) (.inl rfl) _
    have HX8 : Hid (RdEn w8 x'.ev x'.nr.ents ∧ ∀ z, x'.ev.ownBlock = some z → (w.heap.size ≤ z ∧ z < w8.heap.size) ∧ z ≠ C ∧ v'.ownBlock ≠ some z) := Lib.hid (by
      have hlt := SlE.lt HU.out
      have hNC : ∀ z, x'.ev.ownBlock = some z → w6.heap.size ≤ z ∧ z < w7.heap.size := fun z hz => hlt z (by rw [hx'] at hz; exact hz)
      have hz6 := HB6.out.2
      have hNN := HN.out
      have hsz := HI.out.2.2.size
      have hCl := (HI.out.1.lt C HI.out.1.tm).2
      refine ⟨?_, fun z hz => ?_⟩
      · have := (HU.out.rd encEl_len).touch ht8 (fun z hz e => by have := (hlt z hz).1; omega)
        rw [hx']
        exact this
      · obtain ⟨h1, h2⟩ := hNC z hz
        have := ht8.size
        refine ⟨⟨by omega, by omega⟩, by omega, fun e => ?_⟩
        have := (HI.out.1.lt z (HI.out.1.own z e).1).2
        omega)
    have HD8 := Lib.hid (HI.out.1.grow (T' := fun x => w.heap.size ≤ x ∧ x < w8.heap.size) hbr8 (fun x hx => ⟨hx.1, Nat.lt_of_lt_of_le hx.2 hbr8.size⟩) (fun x hx => by
      by_cases h : x < wr.heap.size
      · exact .inl ⟨hx.1, h⟩
      · exact .inr ⟨by omega, hx.2⟩))
    have HB8 := Lib.hid (HI.out.2.2.trans (hbr8.mono HI.out.2.2.size))
    have HR8 := Lib.hid r8
    have HNR : Hid (x'.nr = xnr) := Lib.hid (by rw [hx'])
    have HLEN' := Lib.hid HI.out.2.1
    clear hw8 hx' r8 hbr8 ht8 n7 f7 hl7 HR7 HU HB7 HEV6 HI
    obtain ⟨sp', cap'', hv'⟩ := HD8.out.shape
    subst hv'
    have c8 := HD8.out.c2
    have l8 := (HD8.out.lt C HD8.out.tm).2
    have hN8 := HR8.out.lt
    have HOWN := Lib.hid (HD8.out.sl.below (bl_alloc (Below.refl _ w8) (.cells (encM x').toArray 98)))
    have HROW2 : Hid (RdE (w8.alloc (.cells (encM x').toArray 98)) 199 encM (.slice (some ⟨w8.heap.size, 0, none⟩) 1 1) [x']) := Lib.hid (RdE.one (x := x') (Row.new w8 98 (encM x')))
    have HSM : Hid (ms'.length + 1 ≤ 513) := Lib.hid (by have := HLEN'.out; omega)
    have HBB : Hid (B ≤ (w8.alloc (.cells (encM x').toArray 98)).heap.size) := Lib.hid (Nat.le_trans HD8.out.hB (by simp))
    have HD8a := Lib.hid (HD8.out.below (bl_alloc (Below.refl _ w8) (.cells (encM x').toArray 98)))
    go_upto_region 5 with (first
      | (refine wpList_load_row rfl 98 _ rfl N rfl 98 (encM x').toArray (0, 0) _ HR8.out Tryz.underlying98 rfl (by rw [List.size_toArray, encM_len]; kernel_rfl) ?_)
      | (refine wpList_build_one rfl 99 98 _ rfl w8.heap.size rfl _ rfl Tryz.underlying99 (encM x').toArray rfl (builtN x') ?_)
      | (at_builtin; refine wpList_appP mnT rfl _ _ rfl rfl HOWN.out rfl HROW2.out (smallB (show ms'.length + 1 ≤ 1000000 by have := HSM.out; omega)) (show (ms'.length + 1) * 1744 ≤ 140737488355328 by have := HSM.out; omega) HBB.out ?_; intro v9 w9 hs9 ht9 hp9; obtain ⟨s9, n9, c9, hv9⟩ := slShape3 hs9; subst hv9; have HS9 := Lib.hid (And.intro hs9 (And.intro ht9 hp9)); have cC9 := (ht9.cell (p := ⟨C, 2, none⟩) (HD8a.out.lt C HD8a.out.tm).2 (fun e => (HD8.out.own C e).2 rfl)).trans HD8a.out.c2; have fC9 := (ht9.frozen (p := ⟨C, 2, none⟩) (HD8a.out.lt C HD8a.out.tm).2 (fun e => (HD8.out.own C e).2 rfl)).trans HD8a.out.f2; have lC9 := Nat.lt_of_lt_of_le (HD8a.out.lt C HD8a.out.tm).2 ht9.size; clear hs9 ht9 hp9))
    have hbA : Below w8.heap.size w8 (w8.alloc (.cells (encM x').toArray 98)) := bl_alloc (Below.refl _ _) _
    have hsn := HD8a.out.snoc2 HS9.out.2.1 HS9.out.1 HS9.out.2.2 ⟨HX8.out.1.below hbA, fun z hz => HX8.out.2 z hz⟩
    have hsz9 := HS9.out.2.1.size
    have hszA : (w8.alloc (.cells (encM x').toArray 98)).heap.size = w8.heap.size + 1 := by simp
    have hsz8 := HB8.out.size
    have HFIN := Lib.hid (hsn.1.wide (T' := fun x => w.heap.size ≤ x ∧ x < (w9.setCell ⟨C, 2, none⟩ (.slice s9 n9 c9)).heap.size) (fun x hx => by
      rcases hx with hx | hx
      · exact ⟨hx.1, by have := hx.2; simp; omega⟩
      · exact ⟨by omega, by simp; exact hx.2⟩) (fun x hx => ⟨Nat.le_trans HCS.out.2.2.2 hx.1, hx.2⟩))
    have HBF := Lib.hid (HB8.out.trans ((hbA.mono hsz8).trans (hsn.2.below (by omega) (fun y hy => by
      rcases hy with hy | hy
      · exact (HD8.out.own y hy).1.1
      · rw [hy, ← HC.out]; exact Nat.le_refl _))))
    have HTK : Hid (st.ns.take (j + 1) = st.ns.take j ++ [x'.nr]) := Lib.hid (by
      rw [List.take_add_one, ← HD.out.eq, List.getElem?_map, HGET.out, HNR.out]
      rfl)
    clear hsn hbA hsz9 hszA hsz8 cC9 fC9 lC9 c8 l8 hN8 HOWN HROW2
    go_wp2
    go_roundw
    case rel => exact ⟨j + 1, _, ms' ++ [x'], by have := HLT.out; omega, by go_num, Lib.hid ⟨by rw [HTK.out]; exact HFIN.out, by rw [List.length_append, HLEN'.out]; rfl, HBF.out⟩⟩
    case measure => have := HLT.out; simp [intOf]; omega
end
end Go.Proofs.YtnkcbogikaebfaaGreatDoor
end

section
/- The walk of the law TreeRefuses. -/
namespace Go.Proofs.YtnkcbogikaebfaaGreatDoor
open Go Go.RowKit
set_option maxRecDepth 100000
set_option linter.unusedSimpArgs false
set_option linter.unusedVariables false
attribute [local go_sem] giv
variable {E : Nat → Addr} {B : Nat}
set_option maxHeartbeats 8000000 in
theorem treerefuses_any {w : World} {v : Value} {acs : List Ac} (hr : ∀ w', Below B w w' → RdE w' 4 encAc v acs) (hin : ∀ c ∈ acs, -9223372036854775808 ≤ c.n ∧ c.n ≤ 9223372036854775807) (hml : acs.length ≤ maxLen) (hE : EnvM E B w) :
    Calls Tryz.prog 4 #[v] w fun e w' => e = .returned (.bool true) ∧ Below B w w' := by
  obtain ⟨sp, cap, rfl, hcap⟩ := RdE.shape (hr w (Below.refl _ _))
  have HR := Lib.hid hr
  have HE := Lib.hid hE
  have HIN := Lib.hid hin
  have HML := Lib.hid hml
  have hml2 : (acs.length : Int) ≤ 9223372036854775807 := by unfold maxLen at hml; omega
  generalize hP : (fun (e : Ending) (w' : World) => e = .returned (.bool true) ∧ Below B w w') = Post
  have HP := Lib.hid hP
  clear hr hE hin hml hP
  go_enter Tryz.func4, Tryz.ntmps4
  go_wp2_with fail
  refine (first_any HE.out).mono ?_
  rintro e w1 ⟨rfl, hb1⟩
  have HE1 := Lib.hid (HE.out.keep hb1)
  have HB1 := Lib.hid hb1
  have HR1 := Lib.hid (HR.out w1 hb1)
  clear hb1
  go_wp2_with fail
  refine (light_any HR1.out HML.out 40).mono ?_
  rintro e w2 ⟨bl, rfl, hb2, _⟩
  have HB2 := Lib.hid (HB1.out.trans (hb2.mono HE1.out.size))
  have HE2 := Lib.hid (HE1.out.below hb2)
  clear hb2 HB1 HE1 HR1
  cases bl
  case false =>
    go_wp2
    first | go_ret | skip
    rw [← HP.out]
    exact ⟨by first | rfl | simp, HB2.out⟩
  go_wp2_with fail
  refine (ts_new HE2.out).mono ?_
  rintro e w3 ⟨a, b, t, dm, rfl, ha, h1⟩
  have H1 := Lib.hid h1
  clear h1 ha
  go_wp2_with fail
  refine (dnew_any (B := B) _ _ H1.out.env.size).mono ?_
  rintro e w4 ⟨m, u, ms, rfl, hD, _, hb4⟩
  have HT4 : Hid (∃ T wx, TM E B (fun _ => False) wx a b t dm m T w2 newSt w4) := Lib.hid ⟨fun x => w3.heap.size ≤ x ∧ x < w4.heap.size, w4, by
    have h2 := H1.out.below hb4
    refine ⟨⟨h2.ta, .inl rfl, H1.out.wb.loc' hb4 (fun x hx => ?_), h2.full, h2.env, h2.bel⟩, ⟨u, ms, hD⟩, fun h => ?_, fun x hx => hx.elim, fun x hx => hx.elim⟩
    · rcases hx with rfl | hx | hx
      · exact .inl rfl
      · exact .inr hx
      · exact hx.elim
    · have := H1.out.ta.2
      omega⟩
  clear hD hb4 H1
  go_wp2_with fail
  go_loopw [6] (fun v wr => ∃ (j : Nat) (T : Nat → Prop) (wx : World), j ≤ acs.length ∧ v = .int .i64 j ∧ Hid (TM E B (fun _ => False) wx a b t dm m T w2 (playT (acs.take j)) wr)) (fun v _ => acs.length - (intOf v).toNat)
  case atStart =>
    obtain ⟨T, wx, h⟩ := HT4.out
    exact ⟨0, T, wx, Nat.zero_le _, rfl, Lib.hid h⟩
  case round =>
    obtain ⟨j, T, wx, hj, rfl, HT⟩ := hrel
    obtain ⟨st, hst⟩ : ∃ st, playT (acs.take j) = st := ⟨_, rfl⟩
    rw [hst] at HT
    have HST := Lib.hid hst
    clear hst
    by_cases hlt : j < acs.length
    · obtain ⟨ac, hc⟩ : ∃ c, acs[j]? = some c := ⟨_, List.getElem?_eq_getElem hlt⟩
      have HPT := Lib.hid (playT_take hc)
      have hcn := HIN.out ac (List.mem_of_getElem? hc)
      have HCN := Lib.hid hcn
      have HGET := Lib.hid hc
      have hj0 : (0 : Int) ≤ (j : Int) := by omega
      have hj1 : (j : Int) < (acs.length : Int) := by omega
      have HCO := Lib.hid (mcopy_any HT.out.mw HT.out.ts.full)
      have HF := Lib.hid HT.out.ts.full
      clear hc hcn
      go_wp2_with fail
      refine HCO.out.mono ?_
      rintro e w5 ⟨c, rfl, hmw, hb5⟩
      obtain ⟨X, hX⟩ : ∃ X : Nat → Prop, X = fun x => wr.heap.size ≤ x ∧ x < w5.heap.size := ⟨_, rfl⟩
      rw [← hX] at hmw
      have HMC := Lib.hid hmw
      have HNA : Hid (¬ X a) := Lib.hid (by rw [hX]; intro h; have := HT.out.ts.ta.2; omega)
      have H5 : Hid (TM E B X w5 a b t dm m T w2 st w5) := Lib.hid (HT.out.own hb5 (fun x hx => .inr (by rw [hX] at hx; exact hx)))
      have HTO := Lib.hid (told_any H5.out ac HCN.out)
      obtain ⟨hh, off, rfl, hl, hcs⟩ := acCells (HR.out w5 (HB2.out.trans H5.out.ts.bel)) HGET.out
      obtain ⟨k, n, sa, sb⟩ := ac
      have e0 : w5.cell? ⟨hh, off + j * 4, none⟩ = some (.int .i64 k) := hcs 0 (by omega)
      have e1 : w5.cell? ⟨hh, off + j * 4 + 1, none⟩ = some (.int .i64 n) := hcs 1 (by omega)
      have e2 : w5.cell? ⟨hh, off + j * 4 + 2, none⟩ = some (.string sa) := hcs 2 (by omega)
      have e3 : w5.cell? ⟨hh, off + j * 4 + 3, none⟩ = some (.string sb) := hcs 3 (by omega)
      unfold acV at HTO
      simp only at HTO
      clear hcs hmw hb5 hX HT
      go_wp2_with fail
      refine HTO.out.mono ?_
      rintro e w6 ⟨rfl, T', h6⟩
      have H6 := Lib.hid h6
      have HMC6 := Lib.hid (HMC.out.keep (fun x hx => h6.xs x hx) h6.ts.env.size)
      have HS6 := Lib.hid (h6.swap HMC6.out HNA.out)
      have HRC := Lib.hid (mrename_any HMC6.out HF.out sa sb)
      obtain ⟨s1, hs1⟩ : ∃ s1, stepT st ⟨k, n, sa, sb⟩ = s1 := ⟨_, rfl⟩
      rw [hs1] at h6
      rw [hs1] at H6 HS6
      have HS1 := Lib.hid hs1
      obtain ⟨⟨cr, ir, sr⟩, hrn⟩ : ∃ r, renameT st sa sb = r := ⟨_, rfl⟩
      have HRN := Lib.hid hrn
      have HM6 := Lib.hid h6.mw
      have HNT := Lib.hid h6.na
      have HLH : Hid (∀ w', Below B w2 w' → hh < w'.heap.size ∧ w'.cell? ⟨hh, off + j * 4, none⟩ = some (.int .i64 k) ∧ w'.cell? ⟨hh, off + j * 4 + 2, none⟩ = some (.string sa) ∧ w'.cell? ⟨hh, off + j * 4 + 3, none⟩ = some (.string sb)) := Lib.hid (fun w' hb => by
        obtain ⟨hh2, off2, hsp2, hl2, hcs2⟩ := acCells (HR.out w' (HB2.out.trans hb)) HGET.out
        injection hsp2 with hsp2
        injection hsp2 with q1 q2
        subst q1 q2
        exact ⟨hl2, hcs2 0 (by omega), hcs2 2 (by omega), hcs2 3 (by omega)⟩)
      have HBACK : Hid (∀ w9 (Tn : Nat → Prop) (sd : St), TH E B T' w6 a b t dm c Tn w2 s1 sd w9 → TM E B (fun _ => False) w9 a b t dm m T' w2 s1 w9) := Lib.hid (fun w9 Tn sd h =>
        (h.swap (HM6.out.keep (fun x hx => h.xs x hx) h.ts.env.size) HNT.out).back (fun x hx => hx.elim) (fun x hx => hx.elim))
      have HC0 : Hid (∃ Tn, TH E B T' w6 a b t dm c Tn w2 s1 (if false = true then sr else st) w6.drew) := Lib.hid ⟨X, HS6.out.below (Below.refl _ _).drew⟩
      have S : ∀ (d : Bool) w', (∃ Tn, TH E B T' w6 a b t dm c Tn w2 s1 (if d = true then sr else st) w') → hh < w'.heap.size ∧ w'.cell? ⟨hh, off + j * 4, none⟩ = some (.int .i64 k) ∧ w'.cell? ⟨hh, off + j * 4 + 2, none⟩ = some (.string sa) ∧ w'.cell? ⟨hh, off + j * 4 + 3, none⟩ = some (.string sb) := fun d w' ⟨Tn, h⟩ => HLH.out w' h.ts.bel
      have HT : Hid (∀ w', (∃ Tn, TH E B T' w6 a b t dm c Tn w2 s1 (if false = true then sr else st) w') → Calls Tryz.prog 19 #[.pointer (some ⟨c, 0, none⟩), .string sa, .string sb] w' fun e w'' =>
          e = .returned (.tuple #[.int .i64 ir, .int .i64 cr]) ∧ (∃ Tn, TH E B T' w6 a b t dm c Tn w2 s1 (if true = true then sr else st) w'')) := Lib.hid (by
        rintro w' ⟨Tn, h0⟩
        have h : TH E B T' w6 a b t dm c Tn w2 s1 st w' := h0
        refine (mrename_any h.mw HF.out sa sb).mono ?_
        rw [HRN.out]
        rintro e w'' ⟨h1, mo⟩
        exact ⟨h1, _, h.doc mo⟩)
      clear h6 e0 e1 e2 e3 hl HTO H5 HMC hs1 hrn H6 HMC6 HS6 HRC
      go_wp2_with fail
      apply wp_region_once 11 _ (by kernel_rfl) (by kernel_rfl) (by decide) (fun d w' => ∃ Tn, TH E B T' w6 a b t dm c Tn w2 s1 (if d = true then sr else st) w') HC0.out
      repeat (first
        | (apply once_skip (by rfl) (by decide)
           simp only [Act.put, List.setIfInBounds_toArray, List.set_cons_zero, List.set_cons_succ])
        | (apply once_fix (by rfl) (by rfl)
           · intro d w' hc R hR
             have hS := S d w' hc
             go_simp
             exact hR
           simp only [Act.put, List.setIfInBounds_toArray, List.set_cons_zero, List.set_cons_succ])
        | (apply once_call (by rfl) (by rfl)
           · intro w' hc
             have hS := S false w' hc
             go_simp
             refine (HT.out w' hc).mono ?_
             rintro e w'' ⟨rfl, hc''⟩
             exact ⟨_, rfl, rfl, hc''⟩
           simp only [Act.put, List.setIfInBounds_toArray, List.set_cons_zero, List.set_cons_succ]))
      refine once_nil (fun w7 hc => ?_)
      obtain ⟨Tn, h7⟩ := hc
      have H7 : Hid (TH E B T' w6 a b t dm c Tn w2 s1 sr w7) := Lib.hid h7
      obtain ⟨hl7, d0, _, _⟩ := HLH.out w7 h7.ts.bel
      clear h7 S HT HC0
      have HREL : Hid (∀ w9 Tn sd, TH E B T' w6 a b t dm c Tn w2 s1 sd w9 → TM E B (fun _ => False) w9 a b t dm m T' w2 (playT (acs.take (j + 1))) w9) := Lib.hid (fun w9 Tn sd h => by rw [HPT.out, HST.out, HS1.out]; exact HBACK.out w9 Tn sd h)
      by_cases hk5 : k = 5
      case neg =>
        have hkb : (k == 5) = false := by rw [beq_eq_false_iff_ne]; exact hk5
        clear hk5
        go_wp2
        go_roundw
        case rel => exact ⟨j + 1, T', w7, by omega, by go_num, Lib.hid (HREL.out _ _ _ H7.out)⟩
        case measure => simp [intOf]; omega
      have hkb : (k == 5) = true := by rw [beq_iff_eq]; exact hk5
      by_cases hcr : cr = 0
      case pos =>
        have hcb : (cr != 0) = false := by rw [hcr]; rfl
        clear hk5 hcr
        go_wp2
        go_roundw
        case rel => exact ⟨j + 1, T', w7, by omega, by go_num, Lib.hid (HREL.out _ _ _ H7.out)⟩
        case measure => simp [intOf]; omega
      have hcb : (cr != 0) = true := by rw [bne_iff_ne]; exact hcr
      have hs5 : s1 = sr := by
        rw [← HS1.out, hk5]
        have h9 : stepT st ⟨5, n, sa, sb⟩ = (renameT st sa sb).2.2 := rfl
        rw [h9, HRN.out]
      have H7' : Hid (TM E B T' w6 a b t dm c Tn w2 s1 w7) := Lib.hid (by have := H7.out; rw [← hs5] at this; exact this)
      clear hk5 hcr hs5 H7
      go_wp2_with fail
      refine (same_any H7'.out).mono ?_
      rintro e w8 ⟨rfl, h8⟩
      have H8 := Lib.hid h8
      clear h8
      go_wp2
      go_roundw
      case rel => exact ⟨j + 1, T', w8, by omega, by go_num, Lib.hid (HREL.out _ _ _ H8.out)⟩
      case measure => simp [intOf]; omega
    · obtain rfl : j = acs.length := by omega
      have HTL : Hid (TM E B (fun _ => False) wx a b t dm m T w2 (playT acs) wr) := Lib.hid (by have := HT.out; rw [← HST.out, List.take_length] at this; exact this)
      go_wp2_with fail
      refine (same_any HTL.out).mono ?_
      rintro e w3 ⟨rfl, h3⟩
      have H3 := Lib.hid h3
      clear h3
      go_wp2
      first | go_ret | skip
      rw [← HP.out]
      exact ⟨by first | rfl | simp, HB2.out.trans H3.out.ts.bel⟩
end Go.Proofs.YtnkcbogikaebfaaGreatDoor
end

section
/- What the card of TreeRefuses asks beside the walk. -/
namespace Go.Proofs.YtnkcbogikaebfaaGreatDoor.treeRefuses
open Go.ChangeShapes Go.WideShapes Go.ChangeAt Go.RowKit
set_option maxRecDepth 100000

theorem own : ownKnob Tryz.prog.godebug = none := by kernel_rfl
theorem door_met (os : Os) (args : Array Value) : laidMetH Tryz.prog Rows.treeRefusesRow.laid ((World.laidAll Tryz.prog os Rows.treeRefusesRow.laid).forCall (fun _ _ => 0) ⟨#[], args, []⟩).memory := by
  rw [MakeChecks.laidMetH_plain _ _ _ (by kernel_rfl)]
  exact laidMet_laidAll _ (by kernel_rfl) (by kernel_rfl)
theorem joined : joinedFacts Tryz.prog 4 Tryz.f4 Rows.treeRefusesSpec Rows.treeRefusesRow = true := by
  unfold joinedFacts
  rw [seat_laidOut, seat_mapsRowed, seat_stopsHeard, seat_mayEnter, seat_plainKeys, seat_lifted, seat_make]
  kernel_rfl
theorem inst : Tryz.f4.isInstance Tryz.prog Rows.treeRefusesRow.origin Rows.treeRefusesRow.targs := of_decide_eq_true (by kernel_rfl)
theorem wrap : Tryz.f4.isWrapper Tryz.prog Rows.treeRefusesRow.wrapper Rows.treeRefusesRow.mainSum := by
  unfold Func.isWrapper
  first | (rw [if_pos (by decide +kernel)]; kernel_rfl) | (rw [if_neg (by decide +kernel)]; exact ⟨rfl, rfl⟩)
end Go.Proofs.YtnkcbogikaebfaaGreatDoor.treeRefuses
end

section
namespace Go.Proofs.YtnkcbogikaebfaaGreatDoor.treeRefuses
open Go.ChangeShapes Go.WideShapes Go.ChangeAt Go.RowKit
set_option maxRecDepth 100000

theorem lifted (os : Os) (started : os.Started) (H : Type) (enc : TypeId × Value → H) :
    ReturnsInHanded {} Tryz.checked os 4 .any (fun w args => (Rows.treeRefusesSpec.pre enc Tryz.prog Tryz.f4 [] false w args ∧ laidMetH Tryz.prog Rows.treeRefusesRow.laid w) ∧ sizedMet enc Tryz.prog Tryz.f4 (OpenSpec.ofChange Rows.treeRefusesSpec) false w args)
      (Rows.treeRefusesSpec.post enc Tryz.prog Tryz.f4 false true false false) := by
  refine handed_and_shaped (C := Tryz.checked) (X := fun w _ => laidMetH Tryz.prog Rows.treeRefusesRow.laid w) (fun _ _ _ hh h => h.of_heap hh) own started (by kernel_rfl) Tryz.func4
    (ChangeSpec.witness_shaped (enc := enc) (C := Tryz.checked) (os := os) (X := fun w _ => laidMetH Tryz.prog Rows.treeRefusesRow.laid w) false (World.laidAll Tryz.prog os Rows.treeRefusesRow.laid) #[.slice none 0 0] 8 (World.laidAll_os _ _ _) (World.shaped_of_ZipB (by kernel_rfl) (by kernel_rfl)) (by kernel_rfl) (by kernel_rfl) (by kernel_rfl) (door_met os _)) ?_
  intro W base args ds gs before hval0 hW _ _ hL hSh _
  have hval : ∀ (j : Nat) t v, Tryz.f4.params[j]? = some t → args[j]? = some v → Value.okWide Tryz.prog W .any base t v := hval0
  have hW' := hW
  obtain ⟨p, q, hA0, hV, rfl, hfz, hnd⟩ := hW
  have hA : DataW.TrodAll enc Tryz.prog W 0 (fun _ => true) true Tryz.f4.params.toList args.toList ds p := hA0
  rw [Tryz.params4] at hA hval
  obtain ⟨v0, vs0, d0, ds0, p0, q0, hargs, rfl, rfl, h0, r0⟩ := trodAll_cons hA
  obtain ⟨rfl, rfl, rfl⟩ := trodAll_nil r0
  obtain rfl : args = #[v0] := by cases args; simp_all
  obtain ⟨rfl, rfl⟩ := trodVars_none hV
  have hW0 := hW'
  simp only [List.append_nil] at hW0
  have hlt := fun x hx => by simpa using hW0.lt x hx
  have hl0 : ∀ x ∈ p0, x.block < W.heap.size := fun x hx => hlt x (by simp [hx])
  have k0 : ∀ (W' : World), Below W.heap.size W W' → DataW.Trod enc Tryz.prog W' 0 (fun b => decide (b < W.heap.size)) true 22 v0 d0 p0 := fun W' hn => Below.trod seat_laidOut (by kernel_rfl) (of_decide_eq_true (by kernel_rfl)) h0 hn hl0
  obtain ⟨a0, rd0, ok0, ln0, sp0, n0, cap0, rfl⟩ := open_dos19_arg (hval 0 22 v0 rfl rfl) h0 hl0
  obtain ⟨E, hE0⟩ := env_of_laid_mid 1 24 hL (by kernel_rfl) (by kernel_rfl) (by kernel_rfl)
  have hE := envM_of hE0 hSh

  clear hA0 hval0
  simp only [List.append_nil] at hW'
  refine (treerefuses_any (fun _ hb => rd0.below hb) ok0 ln0 hE).mono fun e W' ⟨he, bel⟩ => ?_
  subst he
  refine ⟨_, rfl, _, _, _, [], p0 ++ ([]), [], hW', trodAll_mk1 (shut_bool Tryz.underlying4 _), ?_, rfl, bel.frame _, fun h => by cases h⟩
  exact trodAll_cons_mk (k0 _ bel) (trodAll_mk0)
theorem over : Rows.treeRefusesRow.holds Tryz.pinned (OpenSpec.ofChange Rows.treeRefusesSpec) :=
  OpenClaim.holds_of_wide 4 Tryz.f4 rfl rfl rfl rfl rfl rfl rfl ⟨rfl, rfl, rfl, rfl, rfl⟩ rfl rfl rfl rfl rfl (by kernel_rfl) Tryz.func4 joined inst wrap
    (fun os started H enc _ => lifted os started H enc)
theorem proved : Rows.TreeRefusesCardSaid :=
  Claim7.holds_tied_plain_at .later [] Rows.treeRefusesCard.laidKinds true Rows.treeRefusesCard.stood.harness true
    over (fun _ h => by cases h) (by kernel_rfl) (fun _ h => by cases h) treeRefuses_row_tie rfl ⟨rfl, rfl⟩ (by kernel_rfl) rfl
    (fun f fn hf hfn => by
      obtain rfl : f = 4 := Option.some.inj ((show Tryz.prog.funcNamed "breviary/breviarylaw19.TreeRefuses" = some 4 by kernel_rfl).symm.trans hf) |>.symm
      obtain rfl : fn = Tryz.f4 := (Option.some.inj (Tryz.func4.symm.trans hfn)).symm
      exact ⟨by kernel_rfl, fun j t ht => by
        rw [Tryz.params4] at ht
        have hm : t ∈ [22] := by
          have := Array.mem_of_getElem? ht
          simpa using this
        have hall : [22].all (fun t => !(Tryz.prog.wantsStandIn t)) = true := by kernel_rfl
        have h := (List.all_eq_true.1 hall) t hm
        simp only [Bool.not_eq_true'] at h
        exact h⟩)
    (by kernel_rfl)
#print axioms proved
end Go.Proofs.YtnkcbogikaebfaaGreatDoor.treeRefuses
end
