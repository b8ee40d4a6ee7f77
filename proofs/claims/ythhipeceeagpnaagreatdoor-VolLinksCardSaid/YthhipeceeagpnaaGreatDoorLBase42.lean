/- Merged texts: VolWf VolKeep Span VolFullQ VolLinksQ. -/
import Derived.Test.YthhipeceeagpnaaGreatDoorLBase22
import Derived.Test.YthhipeceeagpnaaGreatDoorLBase02
import Derived.Test.YthhipeceeagpnaaGreatDoorLBase14
import Derived.Test.YthhipeceeagpnaaGreatDoorLBase04
import Derived.Test.YthhipeceeagpnaaGreatDoorLBase10
import Derived.Deep.QuietTactic
import Derived.BigQuiet
import Derived.Deep.DeepMust
section
/- A volume in plain words: what holds of it: blocks are of files that are there, what is open is a file. No program in sight. -/
namespace Go.Proofs.YthhipeceeagpnaaGreatDoor
set_option linter.unusedSimpArgs false
set_option linter.unusedVariables false
structure VWf (s : V) : Prop where
  full : Full s.st
  blk : ∀ k i, s.g k i ≠ none → i < 64 ∧ ∃ r, s.st.get k = some r ∧ r.nd.kind = 1
  wf : ∀ k, Wf (s.g k)
  fs : ∀ fd h, s.fs fd = some h → fd < 16 ∧ 0 ≤ h.pos ∧ h.pos ≤ 1099511627776 ∧ ∃ r, s.st.get h.node = some r ∧ r.nd.kind = 1
theorem valid_size {n : Nd} (h : validB n = true) : 0 ≤ n.size ∧ n.size ≤ 16384 := by
  simp only [validB, Bool.and_eq_true, decide_eq_true_eq] at h
  exact ⟨h.2.2.2.2.1, h.2.2.2.2.2.1⟩
theorem valid_sized {n : Nd} (h : validB n = true) (hk : n.kind = 1) {z : Int} (h0 : 0 ≤ z) (h1 : z ≤ 16384) : validB ⟨n.id, n.kind, n.links, z, n.target, n.parent⟩ = true := by
  simp only [validB, Bool.and_eq_true, decide_eq_true_eq, hk] at h ⊢
  obtain ⟨a1, a2, a3, a4, a5, a6, a7, a8⟩ := h
  exact ⟨a1, a2, a3, a4, h0, h1, by simp, a8⟩
/-- A file of another size. -/
def sized (n : Nd) (z : Int) : Nd := ⟨n.id, n.kind, n.links, z, n.target, n.parent⟩
theorem get_sized {st : St} (f : Full st) {k : Int} {r : NR} (hr : st.get k = some r) (hk : r.nd.kind = 1) (z : Int) (i : Int) : (st.put (sized r.nd z)).get i = if i = k then some ⟨sized r.nd z, []⟩ else st.get i := by
  have hid := findN_id hr
  rw [get_put f.rise]
  show (if i = r.nd.id then _ else _) = _
  rw [hid]
  split
  · rw [show st.get (sized r.nd z).id = some r by rw [show (sized r.nd z).id = k from hid]; exact hr]
    simp [keepE, sized, hk]
  · rfl
theorem sized_full {st : St} (f : Full st) {k : Int} {r : NR} (hr : st.get k = some r) (hk : r.nd.kind = 1) {z : Int} (h0 : 0 ≤ z) (h1 : z ≤ 16384) : Full (st.put (sized r.nd z)) := by
  have hid := findN_id hr
  have hv := f.val r (findN_mem hr)
  have hkk : ∀ x, st.get (sized r.nd z).id = some x → x.nd.kind = (sized r.nd z).kind := fun x hx => by
    rw [show (sized r.nd z).id = k from hid, hr] at hx
    injection hx with hx
    rw [hx]
    rfl
  have hroot : k ≠ 1 := fun e => by
    obtain ⟨x, h2, h3, _⟩ := f.root
    rw [e, h2] at hr
    injection hr with hr
    rw [hr, hk] at h3
    exact absurd h3 (by decide)
  have g2 : Good (st.put (sized r.nd z)) := f.toGood.put (valid_sized hv hk h0 h1) hkk (fun h => by rw [show (sized r.nd z).id = k from hid, hr] at h; cases h) (fun h => by rw [show (sized r.nd z).id = k from hid] at h; exact absurd h hroot)
  have hnm : ∀ i, (st.put (sized r.nd z)).names i = st.names i := names_put f.toGood hkk
  have hold : ∀ i x, (st.put (sized r.nd z)).get i = some x → ∃ y, st.get i = some y ∧ x.nd.kind = y.nd.kind ∧ x.nd.links = y.nd.links ∧ x.nd.parent = y.nd.parent ∧ (∀ e ∈ x.ents, e ∈ y.ents) := fun i x hx => by
    rw [get_sized f hr hk] at hx
    split at hx
    · rename_i he
      injection hx with hx
      subst hx
      exact ⟨r, by rw [he]; exact hr, rfl, rfl, rfl, fun e he => by cases he⟩
    · exact ⟨x, hx, rfl, rfl, rfl, fun e he => he⟩
  refine { g2 with cnt := ?_, par := ?_, one := ?_ }
  · intro i x hx
    obtain ⟨y, h2, h3, h4, h5, h6⟩ := hold i x hx
    rw [h4, hnm]
    exact f.cnt i y h2
  · intro d x hx e he y hy hy2
    obtain ⟨x', h2, h3, h4, h5, h6⟩ := hold d x hx
    obtain ⟨y', h7, h8, h9, h10, h11⟩ := hold _ y hy
    rw [h10]
    exact f.par d x' h2 e (h6 e he) y' h7 (by rw [← h8]; exact hy2)
  · intro i x hx h2k
    obtain ⟨y, h2, h3, h4, h5, h6⟩ := hold i x hx
    rw [h4]
    exact f.one i y h2 (by rw [← h3]; exact h2k)
theorem newV_wf (q : Int) : VWf (newV q) := ⟨newSt_full, fun k i h => absurd rfl h, fun k i l h => (by cases h), fun fd h hf => (by cases hf)⟩
/-! ### layAt and truncG within a file's blocks -/
/-- Behind a turn of one file's blocks, and its size, and a place. -/
theorem VWf.laid {s : V} (h : VWf s) {k : Int} {r : NR} (hr : s.st.get k = some r) (hk : r.nd.kind = 1) {z : Int} (h0 : 0 ≤ z) (h1 : z ≤ 16384) {g' : Nat → FBlk} (hg : ∀ i, g' i ≠ none → i < 64) (hw : Wf g') {fs' : Nat → Option Hdl}
    (hf : ∀ fd h, fs' fd = some h → fd < 16 ∧ 0 ≤ h.pos ∧ h.pos ≤ 1099511627776 ∧ ∃ h0, s.fs fd = some h0 ∧ h0.node = h.node) : VWf ⟨s.st.put (sized r.nd z), fun i => if i = k then g' else s.g i, fs', s.quota⟩ := by
  have hget : ∀ i y, s.st.get i = some y → y.nd.kind = 1 → ∃ x, (s.st.put (sized r.nd z)).get i = some x ∧ x.nd.kind = 1 := fun i y hy hyk => by
    rw [get_sized h.full hr hk]
    split
    · exact ⟨_, rfl, hk⟩
    · exact ⟨y, hy, hyk⟩
  refine ⟨sized_full h.full hr hk h0 h1, fun i j hij => ?_, fun i => ?_, fun fd x hx => ?_⟩
  · simp only at hij
    split at hij
    · rename_i he
      obtain ⟨x, hx⟩ := hget k r hr hk
      exact ⟨hg j hij, x, by rw [he]; exact hx⟩
    · obtain ⟨h2, y, h3, h4⟩ := h.blk i j hij
      exact ⟨h2, hget i y h3 h4⟩
  · simp only
    split
    · exact hw
    · exact h.wf i
  · obtain ⟨h2, h3, h4, y, h5, h6⟩ := hf fd x hx
    obtain ⟨_, _, _, z, h7, h8⟩ := h.fs fd y h5
    refine ⟨h2, h3, h4, ?_⟩
    rw [← h6]
    exact hget _ z h7 h8
end Go.Proofs.YthhipeceeagpnaaGreatDoor
end

section
/- The tree's calls keep files: what is a volume stays one. No program in sight. -/
namespace Go.Proofs.YthhipeceeagpnaaGreatDoor
set_option linter.unusedSimpArgs false
set_option linter.unusedVariables false
/-- Each file is there still, as a file. -/
def KeepF (a b : St) : Prop := ∀ k r, a.get k = some r → r.nd.kind = 1 → ∃ r', b.get k = some r' ∧ r'.nd.kind = 1
theorem KeepF.refl (a : St) : KeepF a a := fun k r h1 h2 => ⟨r, h1, h2⟩
theorem KeepF.trans {a b c : St} (h : KeepF a b) (k : KeepF b c) : KeepF a c := fun i r h1 h2 => by
  obtain ⟨r', h3, h4⟩ := h i r h1 h2
  exact k i r' h3 h4
theorem KeepF.addE (a : St) (d : Int) (e : En) : KeepF a (a.addE d e) := fun k r h1 h2 => by
  rw [get_addE, h1]
  refine ⟨_, rfl, ?_⟩
  simp only
  split <;> exact h2
theorem KeepF.put {a : St} (hr : RiseN a.ns) (n : Nd) (h : ∀ r, a.get n.id = some r → r.nd.kind = 1 → n.kind = 1) : KeepF a (a.put n) := fun k r h1 h2 => by
  rw [get_put hr]
  split
  · rename_i he
    exact ⟨_, rfl, h r (by rw [← he]; exact h1) h2⟩
  · exact ⟨r, h1, h2⟩
theorem VWf.tree {s : V} (h : VWf s) {st' : St} (f : Full st') (k : KeepF s.st st') : VWf { s with st := st' } :=
  ⟨f, fun i j hij => by
    obtain ⟨h1, r, h2, h3⟩ := h.blk i j hij
    exact ⟨h1, k i r h2 h3⟩, h.wf, fun fd x hx => by
    obtain ⟨h1, h2, h3, r, h4, h5⟩ := h.fs fd x hx
    exact ⟨h1, h2, h3, k _ r h4 h5⟩⟩
theorem makeT_keep {s : St} (f : Full s) (a : ByteArray) (kind : Int) (to : ByteArray) : KeepF s (makeT s a kind to).2.2 := by
  unfold makeT
  simp only
  split
  · exact KeepF.refl _
  · split
    · exact KeepF.refl _
    · split
      · exact KeepF.refl _
      · split
        · exact KeepF.refl _
        · split
          · exact KeepF.refl _
          · refine (KeepF.put f.rise _ fun r hr hk => ?_).trans (KeepF.addE _ _ _)
            have h1 := f.ids r (findN_mem hr)
            have h2 := findN_id hr
            simp only at h2
            omega
theorem hardT_keep {s : St} (f : Full s) (a b : ByteArray) : KeepF s (hardT s a b).2 := by
  unfold hardT
  simp only
  split
  · exact KeepF.refl _
  · split
    · exact KeepF.refl _
    · split
      · exact KeepF.refl _
      · split
        · exact KeepF.refl _
        · rename_i n hn
          split
          · exact KeepF.refl _
          · split
            · exact KeepF.refl _
            · split
              · exact KeepF.refl _
              · refine (KeepF.put f.rise _ fun r hr hk => ?_).trans (KeepF.addE _ _ _)
                have h1 : n.nd.id = _ := findN_id hn
                rw [show (setLinks n.nd (n.nd.links + 1)).id = n.nd.id from rfl, h1, hn] at hr
                injection hr with hr
                show n.nd.kind = 1
                rw [hr]
                exact hk
end Go.Proofs.YthhipeceeagpnaaGreatDoor
end

section
/- The walks of package span: Pieces, is, has, Whole, Blocks. -/
namespace Go.Proofs.YthhipeceeagpnaaGreatDoor
open Go Go.RowKit
set_option maxRecDepth 100000
set_option linter.unusedSimpArgs false
set_option linter.unusedVariables false
attribute [local go_sem] giv
def encPc (p : Nat × Nat × Nat) : List Value := [.int .i64 p.1, .int .i64 p.2.1, .int .i64 p.2.2]
theorem pc_inf : (Tryz.prog.info? 83).map (fun i => (i.zero, i.size, i.bytes)) = some (some (.agg #[.int .i64 0, .int .i64 0, .int .i64 0]), 3, 24) := by kernel_rfl
theorem pcT : ElemT Tryz.prog 80 83 3 24 encPc :=
  ⟨Tryz.underlying80, ⟨.agg #[.int .i64 0, .int .i64 0, .int .i64 0], rfl, pc_inf⟩, fun _ => rfl, fun x u hu => by simp [encPc] at hu; rcases hu with rfl | rfl | rfl <;> rfl, by omega⟩
theorem RdE.pc1 {w : World} {h : Nat} {a b c : Nat} (r : Row w h 83 [.int .i64 a, .int .i64 b, .int .i64 c]) : RdE w 3 encPc (.slice (some ⟨h, 0, none⟩) 1 1) [(a, b, c)] := by
  refine ⟨_, _, rfl, by simp, (fun h => by cases h), fun _ => ⟨_, _, rfl, r.lt, fun i j hi hj => ?_⟩⟩
  obtain rfl : i = 0 := by simpa using hi
  rw [Nat.zero_mul, Nat.add_zero, Nat.zero_add, r.cell]
  rfl
theorem spanF_fuel : ∀ (f f' a n : Nat), n ≤ f → n ≤ f' → spanF f a n = spanF f' a n
  | 0, f', a, n, h, h' => by
    obtain rfl : n = 0 := by omega
    cases f' <;> simp [spanF]
  | f + 1, 0, a, n, h, h' => by
    obtain rfl : n = 0 := by omega
    simp [spanF]
  | f + 1, f' + 1, a, n, h, h' => by
    unfold spanF
    by_cases hn : n = 0
    · rw [if_pos hn, if_pos hn]
    · rw [if_neg hn, if_neg hn]
      have hm := Nat.mod_lt a (show 256 > 0 by decide)
      simp only
      rw [spanF_fuel f f' _ _ (by omega) (by omega)]
theorem spanP_zero (a : Nat) : spanP a 0 = [] := rfl
theorem spanP_cons (a : Nat) {n : Nat} (hn : 0 < n) : spanP a n = (a / 256, a % 256, a % 256 + min n (256 - a % 256)) :: spanP (a + min n (256 - a % 256)) (n - min n (256 - a % 256)) := by
  obtain ⟨k, rfl⟩ : ∃ k, n = k + 1 := ⟨n - 1, by omega⟩
  have hm := Nat.mod_lt a (show 256 > 0 by decide)
  unfold spanP
  rw [spanF, if_neg (by omega)]
  simp only
  rw [spanF_fuel k _ _ _ (by omega) (Nat.le_refl _)]
theorem spanP_len : ∀ (n a : Nat), (spanP a n).length ≤ n := by
  intro n
  induction n using Nat.strongRecOn with
  | ind n ih =>
    intro a
    by_cases h : n = 0
    · subst h; simp [spanP_zero]
    · rw [spanP_cons a (by omega), List.length_cons]
      have hm := Nat.mod_lt a (show 256 > 0 by decide)
      have := ih (n - min n (256 - a % 256)) (by omega) (a + min n (256 - a % 256))
      omega
set_option maxHeartbeats 1000000 in
theorem spanP_any (a n : Nat) (ha : a ≤ 1099511627776) (h1 : 1 ≤ n) (h2 : n ≤ 1048576) (w : World) :
    Calls Tryz.prog 38 #[.int .i64 a, .int .i64 n] w fun e w' => (∃ v, e = .returned v ∧ SlE w' w.heap.size 83 3 encPc v (spanP a n)) ∧ Below w.heap.size w w' := by
  generalize hP : (fun (e : Ending) (w' : World) => (∃ v, e = .returned v ∧ SlE w' w.heap.size 83 3 encPc v (spanP a n)) ∧ Below w.heap.size w w') = Post
  have HP := Lib.hid hP
  clear hP
  have q1 : ¬ ((a : Int) < 0) := by omega
  have q2 : ¬ (1099511627776 < (a : Int)) := by omega
  have q3 : ¬ ((n : Int) < 1) := by omega
  have q4 : ¬ (1048576 < (n : Int)) := by omega
  go_enter Tryz.func38, Tryz.ntmps38
  go_wp2
  go_loopw [0, 1, 5, 6, 7] (fun v0 v1 v5 _ _ wr => ∃ (done : List (Nat × Nat × Nat)) (a' n' : Nat), v0 = .int .i64 a' ∧ v1 = .int .i64 n' ∧ done ++ spanP a' n' = spanP a n ∧ a' + n' = a + n ∧ done.length + n' ≤ n ∧ SlE wr w.heap.size 83 3 encPc v5 done ∧ Below w.heap.size w wr) (fun _ v1 _ _ _ _ => (intOf v1).toNat)
  case atStart => exact ⟨[], a, n, rfl, rfl, rfl, rfl, by simp, SlE.nil _ _ _ _ _, Below.refl _ _⟩
  case round =>
    obtain ⟨done, a', n', rfl, rfl, hp, hs, hl, hsl, hb⟩ := hrel
    have HPC := Lib.hid hp
    have HS := Lib.hid hsl
    have HB := Lib.hid hb
    have HL := Lib.hid hl
    have HSM := Lib.hid hs
    clear hp hsl hb hl hs q1 q2 q3 q4
    by_cases hn : n' = 0
    · subst hn
      go_wp2
      rw [← HP.out]
      have h := HPC.out
      rw [spanP_zero, List.append_nil] at h
      rw [← h]
      have hfin : (∃ v, (Ending.returned u5 : Ending) = .returned v ∧ SlE wr w.heap.size 83 3 encPc v done) ∧ Below w.heap.size w wr := ⟨⟨_, rfl, HS.out⟩, HB.out⟩
      first
        | exact hfin
        | (go_ret2; exact hfin)
    · have hn0 : (0 : Int) < (n' : Int) := by omega
      have hm := Nat.mod_lt a' (show 256 > 0 by decide)
      have hab : a' ≤ 1099512676352 := by have := HSM.out; omega
      have e1 : (a' : Int).tmod 256 = ((a' % 256 : Nat) : Int) := rfl
      have e2 : (a' : Int).tdiv 256 = ((a' / 256 : Nat) : Int) := rfl
      obtain ⟨q, hq⟩ : ∃ q, a' / 256 = q := ⟨_, rfl⟩
      obtain ⟨f, hf⟩ : ∃ f, a' % 256 = f := ⟨_, rfl⟩
      have hf2 : (a' : Int) % 256 = (f : Int) := by omega
      have hq2 : (a' : Int) / 256 = (q : Int) := by omega
      have hf3 : f < 256 := by omega
      obtain ⟨m, hmm⟩ : ∃ m, min n' (256 - f) = m := ⟨_, rfl⟩
      have hm2 : min (n' : Int) (256 - (f : Int)) = (m : Int) := by omega
      have hm3 : f + m ≤ 256 ∧ 1 ≤ m ∧ m ≤ n' := by omega
      have hPC := HPC.out
      rw [spanP_cons a' (by omega), hq, hf, hmm] at hPC
      have HPC2 := Lib.hid hPC
      have HNUM : Hid (f + m ≤ 256 ∧ 1 ≤ m ∧ m ≤ n' ∧ f < 256) := Lib.hid ⟨hm3.1, hm3.2.1, hm3.2.2, hf3⟩
      have hE1 : (n' : Int) ≤ 1048576 := by have := HL.out; omega
      have hE2 : (a' : Int) ≤ 1099512676352 := by omega
      have hE3 : (f : Int) < 256 := by omega
      have hE4 : (m : Int) ≤ 256 := by omega
      have hE5 : (m : Int) ≤ (n' : Int) := by omega
      have HOWN : Hid (SlE (wr.alloc (.cells #[.int .i64 q, .int .i64 f, .int .i64 ((f : Int) + (m : Int))] 83)) w.heap.size 83 3 encPc u5 done) := Lib.hid (HS.out.below (bl_alloc (Below.refl _ _) _))
      have RNEW : Hid (RdE (wr.alloc (.cells #[.int .i64 q, .int .i64 f, .int .i64 ((f : Int) + (m : Int))] 83)) 3 encPc (.slice (some ⟨wr.heap.size, 0, none⟩) 1 1) [(q, f, f + m)]) := Lib.hid (by
        have r := Row.new wr 83 [.int .i64 q, .int .i64 f, .int .i64 ((f : Int) + (m : Int))]
        exact RdE.pc1 (c := f + m) (by rw [show ((f + m : Nat) : Int) = (f : Int) + (m : Int) by omega]; exact r))
      have HBS : Hid (w.heap.size ≤ (wr.alloc (.cells #[.int .i64 q, .int .i64 f, .int .i64 ((f : Int) + (m : Int))] 83)).heap.size) := Lib.hid (by have := HB.out.size; simp; omega)
      have hdl : done.length ≤ 1048576 := by have := HL.out; omega
      have HDL := Lib.hid hdl
      clear hq hf hmm hPC hm3 hdl e1 e2 hm hab hn
      go_wp2_with (at_builtin; refine wpList_app pcT rfl _ _ rfl rfl HOWN.out rfl RNEW.out (by have := HDL.out; unfold maxLen; simp; omega) (by have := HDL.out; simp; omega) HBS.out ?_; intro v' w' hs' ht'; have HS' := Lib.hid hs'; have HT' := Lib.hid ht'; clear hs' ht')
      have hbt := HT'.out.below HBS.out (fun x hx => (HOWN.out.lt x hx).1)
      have HBT := Lib.hid (HB.out.trans (((Below.refl w.heap.size wr).alloc HB.out.size _).trans hbt))
      clear hbt
      go_roundw
      case rel =>
        have hn4 := HNUM.out
        have hs4 := HSM.out
        have hl4 := HL.out
        refine ⟨done ++ [(q, f, f + m)], a' + m, n' - m, by go_num, by go_num, ?_, by omega, by simp; omega, HS'.out, HBT.out⟩
        rw [List.append_assoc]
        exact HPC2.out
      case measure => simp [intOf]; have := HNUM.out; omega
theorem is_any (i f t : Nat) (h1 : f ≤ t) (h2 : t ≤ 256) (w : World) : Calls Tryz.prog 105 #[.agg #[.int .i64 i, .int .i64 f, .int .i64 t]] w fun e w' => e = .returned (.bool true) ∧ Below w.heap.size w w' := by
  have q1 : (0 : Int) ≤ (f : Int) := by omega
  have q2 : (t : Int) ≤ 256 := by omega
  have q3 : (f : Int) ≤ (t : Int) := by omega
  go_enter Tryz.func105, Tryz.ntmps105
  go_wp2
  go_ret
  exact ⟨rfl, bl_alloc (Below.refl _ _) _⟩
theorem has_any (i : Nat) (n : Int) (h0 : 0 ≤ n) (h1 : n ≤ 1099511627776) (w : World) : Calls Tryz.prog 70 #[.int .i64 i, .int .i64 n] w fun e w' => e = .returned (.int .i64 (hasB i n)) ∧ w = w' := by
  have q0 : 0 ≤ n % 256 := by omega
  have q1 : ¬ (n % 256 < 0) := by omega
  unfold hasB
  by_cases c1 : n / 256 < (i : Int)
  · rw [if_pos c1]
    go_enter Tryz.func70, Tryz.ntmps70
    go_wp2
    go_ret
    exact ⟨rfl, rfl⟩
  · rw [if_neg c1]
    by_cases c2 : n / 256 = (i : Int)
    · rw [if_pos c2]
      have c3 : ((i : Int) == n / 256) = true := by rw [beq_iff_eq]; exact c2.symm
      clear c2
      go_enter Tryz.func70, Tryz.ntmps70
      go_wp2
      go_ret
      exact ⟨rfl, rfl⟩
    · rw [if_neg c2]
      have c3 : ((i : Int) == n / 256) = false := by rw [beq_eq_false_iff_ne]; exact fun e => c2 e.symm
      clear c2
      go_enter Tryz.func70, Tryz.ntmps70
      go_wp2
      go_ret
      exact ⟨rfl, rfl⟩
theorem whole_any (i f t : Nat) (n : Int) (h0 : 0 ≤ n) (h1 : n ≤ 1099511627776) (w : World) : Calls Tryz.prog 40 #[.agg #[.int .i64 i, .int .i64 f, .int .i64 t], .int .i64 n] w fun e w' => e = .returned (.bool (wholeP (i, f, t) n)) ∧ Below w.heap.size w w' := by
  have H0 := Lib.hid (And.intro h0 h1)
  generalize hP : (fun (e : Ending) (w' : World) => e = .returned (.bool (wholeP (i, f, t) n)) ∧ Below w.heap.size w w') = Post
  have HP := Lib.hid hP
  obtain ⟨w1, hw1⟩ : ∃ w1, w1 = w.alloc (.cells #[.int .i64 i, .int .i64 f, .int .i64 t] 83) := ⟨_, rfl⟩
  obtain ⟨C, hC⟩ : ∃ C, w.heap.size = C := ⟨_, rfl⟩
  have HB1 : Hid (Below w.heap.size w w1) := Lib.hid (by rw [hw1]; exact bl_alloc (Below.refl _ _) _)
  have HR : Hid (Row w1 C 83 [.int .i64 i, .int .i64 f, .int .i64 t]) := Lib.hid (by rw [hw1, ← hC]; exact Row.new _ _ _)
  have hwh : wholeP (i, f, t) n = (((f : Int) == 0) && decide (hasB i n ≤ (t : Int))) := by
    unfold wholeP
    simp only
    congr 1
    rw [Bool.eq_iff_iff]
    simp
  rw [hwh] at HP
  have K : ∀ w', Below w1.heap.size w1 w' → w'.cell? ⟨C, 0, none⟩ = some (.int .i64 i) ∧ w'.cell? ⟨C, 1, none⟩ = some (.int .i64 f) ∧ w'.cell? ⟨C, 2, none⟩ = some (.int .i64 t) := fun w' hb => by
    have r := HR.out.keep (hb.block _ HR.out.lt)
    exact ⟨r.cell 0, r.cell 1, r.cell 2⟩
  have HK := Lib.hid K
  clear h0 h1 hP hwh K
  cases hf0 : ((f : Int) == 0)
  all_goals
    rw [hf0] at HP
    go_enter Tryz.func40, Tryz.ntmps40
    go_wp2_with fail
    rw [← hw1]
    clear hw1
    have S := HK.out
    apply wp_region_rel _ (by kernel_rfl) (by kernel_rfl) (fun w' => Below w1.heap.size w1 w') (fun w' w'' => Below w'.heap.size w' w'') (fun w' w'' h1 h2 => bl_trans h1 h2) (Below.refl _ _).drew
    repeat (first
      | (apply wpRel_skip (by rfl)
         simp only [Act.put, List.setIfInBounds_toArray, List.set_cons_zero, List.set_cons_succ])
      | (apply wpRel_fix (by rfl)
         · intro w' hC hf R hR
           have hS := S w' hC
           go_simp
           exact hR _ (Below.refl _ _)
         simp only [Act.put, List.setIfInBounds_toArray, List.set_cons_zero, List.set_cons_succ])
      | (apply wpRel_fix (by rfl)
         · intro w' hC hf R hR
           have hS := S w' hC
           go_simp
           refine (has_any i n H0.out.1 H0.out.2 _).mono ?_
           rintro e w'' ⟨rfl, rfl⟩
           exact ⟨_, rfl, hR _ (Below.refl _ _)⟩
         simp only [Act.put, List.setIfInBounds_toArray, List.set_cons_zero, List.set_cons_succ]))
    refine wpRel_nil (fun w2 hC2 hf => ?_)
    go_wp2
    rw [← HP.out]
    exact ⟨rfl, HB1.out.trans (hC2.mono HB1.out.size)⟩
set_option maxHeartbeats 1000000 in
theorem lay_any {w : World} {sp spb : Option Addr} {capo capb : Nat} {lo b : List Int} (i f : Nat) (hlo : lo.length ≤ 256) (hino : SlIn w sp lo) (hb0 : 0 < b.length) (hfb : f + b.length ≤ 256) (hinb : SlIn w spb b) :
    Calls Tryz.prog 73 #[.slice sp lo.length capo, .agg #[.int .i64 i, .int .i64 f, .int .i64 (f + b.length : Nat)], .slice spb b.length capb] w fun e w' =>
      (∃ h, e = .returned (.slice (some ⟨h, 0, none⟩) 256 256) ∧ w.heap.size ≤ h ∧ Row w' h 5 ((laidB (pad lo) f b).map (Value.int .u8))) ∧ Below w.heap.size w w' := by
  generalize hP : (fun (e : Ending) (w' : World) => (∃ h, e = .returned (.slice (some ⟨h, 0, none⟩) 256 256) ∧ w.heap.size ≤ h ∧ Row w' h 5 ((laidB (pad lo) f b).map (Value.int .u8))) ∧ Below w.heap.size w w') = Post
  have HP := Lib.hid hP
  obtain ⟨t, ht⟩ : ∃ t, f + b.length = t := ⟨_, rfl⟩
  rw [ht]
  obtain ⟨nb, hnb⟩ : ∃ nb, b.length = nb := ⟨_, rfl⟩
  have HNB := Lib.hid hnb
  have HLO := Lib.hid hlo
  have HT := Lib.hid ht
  have HINO := fun w2 (hb2 : Below w.heap.size w w2) (h0 : 0 < lo.length) => slIn_below hino hb2 h0
  have HINB := fun w2 (hb2 : Below w.heap.size w w2) (h0 : 0 < b.length) => slIn_below hinb hb2 h0
  have HI1 := Lib.hid HINO
  have HI2 := Lib.hid HINB
  have HC1 : Hid (∀ u ∈ lo.map (Value.int .u8), u.oneCell' = true) := Lib.hid fun u hu => by
    obtain ⟨x, _, rfl⟩ := List.mem_map.1 hu
    rfl
  have HC2 : Hid (∀ u ∈ b.map (Value.int .u8), u.oneCell' = true) := Lib.hid fun u hu => by
    obtain ⟨x, _, rfl⟩ := List.mem_map.1 hu
    rfl
  have U8SZ : Hid ((Tryz.prog.info? 5).map (·.size) = some 1) := Lib.hid (by kernel_rfl)
  have q1 : (t : Int) ≤ 256 := by omega
  have q2 : (f : Int) ≤ (t : Int) := by omega
  rw [hnb] at hb0 ⊢
  obtain ⟨w0, hw0⟩ : ∃ w0, w0 = w.alloc (.cells #[.int .i64 i, .int .i64 f, .int .i64 t] 83) := ⟨_, rfl⟩
  have HB0 : Hid (Below w.heap.size w w0) := Lib.hid (by rw [hw0]; exact bl_alloc (Below.refl _ _) _)
  have HZ0 : Hid (w0.heap.size = w.heap.size + 1) := Lib.hid (by rw [hw0]; simp)
  have HR0 : Hid (Row w0 w.heap.size 83 [.int .i64 i, .int .i64 f, .int .i64 t]) := Lib.hid (by rw [hw0]; exact Row.new _ _ _)
  clear hP hlo hino hfb hinb ht hnb HINO HINB
  go_enter Tryz.func73, Tryz.ntmps73
  go_wp2_with (first
    | (at_make; rw [← hw0]; refine wpList_mk _ rfl _ _ _ rfl 5 (.int .u8 0) 1 Tryz.underlying32 u8_info rfl 256 rfl rfl (by omega) (by unfold maxLen; omega) ?_; intro w2 hr hb2; rw [HZ0.out] at hr hb2; have HR := Lib.hid hr; have HB2 := Lib.hid hb2; clear hr hb2)
    | (refine wpList_copy_splice (o := ⟨some 11, _, _, _, _, _⟩) (hgd := rfl) (.tmp 9) (.tmp 10) 32 32 (ho := rfl) 5 (hu := Tryz.underlying32) (hsz := U8SZ.out) (dp := some ⟨w.heap.size + 1, 0, none⟩) (sp := sp) (dLen := 256) (dCap := 256) (sLen := lo.length) (sCap := capo) (hd := rfl) (hs := rfl) (g := w.heap.size + 1) (off := 0) (cur := List.replicate 256 (.int .u8 0)) (t := 5) (hg := HR.out) (cs := lo.map (Value.int .u8)) (hn := by rw [List.length_map]; exact (Nat.min_eq_left HLO.out).symm) (hpos := fun h0 => ⟨rfl, HI1.out _ (HB0.out.trans (HB2.out.mono (by omega))) (by simpa using h0)⟩) (hfit := by simp; exact HLO.out) (h1 := HC1.out) (B := w.heap.size + 1) (w0 := w0) (hb := HB2.out) (hBg := Nat.le_refl _) ?_; intro w3 hg3 hb3; have HB3 := Lib.hid hb3; have r3 := HR0.out.keep (hb3.block _ (by omega)); have x0 := r3.cell' (i := 0) rfl; have x1 := r3.cell' (i := 1) rfl; have x2 := r3.cell' (i := 2) rfl; have R3 := Lib.hid r3; clear hb3 r3))
  refine (is_any i f t (by have := HT.out; omega) (by omega) _).mono ?_
  rintro e w4 ⟨rfl, hb4⟩
  have HB4 := Lib.hid hb4
  have hbb := HB3.out
  have hz3 : w.heap.size + 1 ≤ w3.heap.size := by have := HB2.out.size; have := HZ0.out; have := HB3.out.size; omega
  have r4 := R3.out.keep (hb4.block _ (by omega))
  have x0 := r4.cell' (i := 0) rfl
  have x1 := r4.cell' (i := 1) rfl
  have x2 := r4.cell' (i := 2) rfl
  have HG4 : Hid (w4.heap[w.heap.size + 1]? = some (.cells ((pad lo).map (Value.int .u8)).toArray 5 (0, 0))) := Lib.hid (by
    rw [hb4.block _ (by have := HB3.out.size; have := R3.out.lt; have := (Array.getElem?_eq_some_iff.1 hg3.out).1; omega)]
    have := hg3.out
    rw [splice_pad] at this
    exact this)
  have HB34 : Hid (Below (w.heap.size + 1) w0 w4) := Lib.hid (HB3.out.trans (hb4.mono hz3))
  have q5 : (f : Int) < 256 := by have := HT.out; have := HNB.out; omega
  have q6 : ¬ ((256 : Int) = (f : Int)) := by omega
  have HCS : Hid ((b.map (Value.int .u8)).length = min nb (t - f)) := Lib.hid (by have := HT.out; have := HNB.out; rw [List.length_map]; omega)
  clear r4 hb4 hbb hg3
  go_wp2_with (refine wpList_copy_splice (o := ⟨some 21, _, _, _, _, _⟩) (hgd := rfl) (.tmp 19) (.tmp 20) 32 32 (ho := rfl) 5 (hu := Tryz.underlying32) (hsz := U8SZ.out) (dp := some ⟨w.heap.size + 1, f, none⟩) (sp := spb) (dLen := t - f) (dCap := 256 - f) (sLen := nb) (sCap := capb) (hd := rfl) (hs := rfl) (g := w.heap.size + 1) (off := f) (cur := (pad lo).map (Value.int .u8)) (t := 5) (hg := HG4.out) (cs := b.map (Value.int .u8)) (hn := HCS.out) (hpos := fun h0 => ⟨rfl, HI2.out _ (HB0.out.trans (HB34.out.mono (by omega))) (by simpa using h0)⟩) (hfit := by rw [List.length_map, List.length_map, pad_len HLO.out]; have := HT.out; omega) (h1 := HC2.out) (B := w.heap.size + 1) (w0 := w0) (hb := HB34.out) (hBg := Nat.le_refl _) ?_; intro w5 hg5 hb5; have HB5 := Lib.hid hb5; clear hb5)
  rw [← HP.out]
  have hz0 := HZ0.out
  refine ⟨⟨w.heap.size + 1, rfl, by omega, ?_⟩, HB0.out.trans (HB5.out.mono (by omega))⟩
  have h5 := hg5.out
  have he : splice ((pad lo).map (Value.int .u8)) f (b.map (Value.int .u8)) = (laidB (pad lo) f b).map (Value.int .u8) := by
    unfold splice laidB
    simp only [List.map_append, List.map_take, List.map_drop, List.length_map, List.append_assoc]
  rw [he] at h5
  exact h5
end Go.Proofs.YthhipeceeagpnaaGreatDoor
end

section
/- What VolFull asks, step by step, in plain words. No program in sight. -/
namespace Go.Proofs.YthhipeceeagpnaaGreatDoor
set_option linter.unusedSimpArgs false
set_option linter.unusedVariables false
/-- A file whose first so many blocks are there, none lost. -/
structure FullS (g : Nat → FBlk) (i : Nat) : Prop where
  pre : PreB g i
  lost : ∀ k, g k ≠ some none
  wf : Wf g
abbrev zs256 : List Int := List.replicate 256 0
end Go.Proofs.YthhipeceeagpnaaGreatDoor
end

section
/- What VolLinks asks, step by step, in plain words. No program in sight. -/
namespace Go.Proofs.YthhipeceeagpnaaGreatDoor
set_option linter.unusedSimpArgs false
set_option linter.unusedVariables false
variable {g : Nat → FBlk} {sz pos P : Int}
/-- The law's volume with a tree. -/
def lkV (st : St) (g : Nat → FBlk) (pos : Int) : V := ⟨st, fun k => if k = 2 then g else fun _ => none, fun k => if k = 0 then some ⟨2, pos⟩ else none, 100⟩
theorem lkV_file : fileV nmF g sz pos 100 = lkV (fileV nmF g sz pos 100).st g pos := rfl
theorem lkV_charge {st : St} (h1 : st.ns.length ≤ 4) (h2 : 0 ≤ st.count ∧ st.count ≤ 4) (h3 : (st.ns.map fun r => nBlk ((lkV st g pos).g r.nd.id)).sum ≤ 64) : (lkV st g pos).charge ≤ 100 := by
  unfold V.charge V.nodes V.blocks
  have e1 : (lkV st g pos).st = st := rfl
  rw [e1]
  omega
theorem lk_tried {st st' : St} (h1 : st'.ns.length ≤ 4) (h2 : 0 ≤ st'.count ∧ st'.count ≤ 4) (h3 : (st'.ns.map fun r => nBlk ((lkV st' g pos).g r.nd.id)).sum ≤ 64) {act : V → Int × V} (ha : act (lkV st g pos) = (0, lkV st' g pos)) :
    triedV (lkV st g pos) act = (0, lkV st' g pos) := by
  have hc := lkV_charge (pos := pos) h1 h2 h3
  have hq : (lkV st g pos).quota = 100 := rfl
  unfold triedV
  simp only [ha]
  rw [if_neg (by simp), if_neg (by rw [hq]; omega)]
theorem lk_sum1 : ((lkS1 sz).ns.map fun r => nBlk ((lkV (lkS1 sz) g pos).g r.nd.id)).sum ≤ 64 := by
  have := nBlk_le g
  simp [lkS1, lkV, nBlk_none]
  exact this
theorem lk_sum2 : ((lkS2 sz).ns.map fun r => nBlk ((lkV (lkS2 sz) g pos).g r.nd.id)).sum ≤ 64 := by
  have := nBlk_le g
  simp [lkS2, lkV, nBlk_none]
  exact this
theorem lk_sum3 : ((lkS3 sz).ns.map fun r => nBlk ((lkV (lkS3 sz) g pos).g r.nd.id)).sum ≤ 64 := by
  have := nBlk_le g
  simp [lkS3, lkV, nBlk_none]
  exact this
theorem lkv_link : linkV (fileV nmF g sz pos 100) pF pG = (0, lkV (lkS1 sz) g pos) := by
  rw [lkV_file]
  unfold linkV
  refine lk_tried (by simp [lkS1]) (by simp [lkS1, St.count]) lk_sum1 ?_
  show ((hardT (fileV nmF g sz pos 100).st pF pG).1, ({ lkV (fileV nmF g sz pos 100).st g pos with st := (hardT (fileV nmF g sz pos 100).st pF pG).2 } : V)) = _
  rw [lk_hard]
  rfl
theorem lkv_sym1 : symlinkV (lkV (lkS1 sz) g pos) pG pL = (0, lkV (lkS2 sz) g pos) := by
  unfold symlinkV madeV
  refine lk_tried (by simp [lkS2]) (by simp [lkS2, St.count]) lk_sum2 ?_
  show ((makeT (lkS1 sz) pL 3 pG).1, ({ lkV (lkS1 sz) g pos with st := (makeT (lkS1 sz) pL 3 pG).2.2 } : V)) = _
  rw [lk_sym1]
  rfl
theorem lkv_sym2 : symlinkV (lkV (lkS2 sz) g pos) txNone pM = (0, lkV (lkS3 sz) g pos) := by
  unfold symlinkV madeV
  refine lk_tried (by simp [lkS3]) (by simp [lkS3, St.count]) lk_sum3 ?_
  show ((makeT (lkS2 sz) pM 3 txNone).1, ({ lkV (lkS2 sz) g pos with st := (makeT (lkS2 sz) pM 3 txNone).2.2 } : V)) = _
  rw [lk_sym2]
  rfl
/-- With a second number for it, at a place. -/
def lkO (sz : Int) (g : Nat → FBlk) (pos P : Int) : V := { lkV (lkS3 sz) g pos with fs := fun j => if j = 1 then some ⟨2, P⟩ else (lkV (lkS3 sz) g pos).fs j }
theorem lk_fd : fdOf (lkV (lkS3 sz) g pos).fs = some 1 := by rfl
theorem lkO_at : atV (lkO sz g pos P) 1 = some (⟨2, P⟩, ⟨2, 1, 2, sz, noText, 0⟩) := by rfl
theorem links_write {b : List Int} (hb : b.length ≤ 700) : ∃ g, writeV (fileV nmF (fun _ => none) 0 0 100) 0 b = (0, (b.length : Int), fileV nmF g b.length b.length 100) ∧ (∀ i, g i ≠ some none) ∧ Wf g ∧ readAt g 0 b.length = b := by
  by_cases h0 : b = []
  · subst h0
    exact ⟨fun _ => none, file_none, fun i h => (by cases h), none_wf, rfl⟩
  · have hn : 0 < b.length := List.length_pos_iff.2 h0
    refine ⟨layAt (fun _ => none) 0 b, ?_, laid_lost (fun i h => by cases h) _ _, layAt_wf none_wf _ _, ?_⟩
    · rw [file_write (b := b) (by omega) (by omega) h0 (by omega) (fun i h => by cases h) (by
        have := nBlk_le (layAt (fun _ => none) (0 : Int).toNat b)
        omega)]
      simp only [Int.toNat_zero, Int.zero_add]
      rw [Int.max_eq_right (by omega)]
    · rw [readAt_eq (layAt_wf none_wf _ _)]
      refine List.ext_getElem (by rw [List.length_map, List.length_range]) fun i h1 h2 => ?_
      rw [List.getElem_map, List.getElem_range, hole_byte, if_pos (by omega), Nat.zero_add, Nat.sub_zero, List.getD_eq_getElem?_getD, List.getElem?_eq_getElem h2]
      rfl
theorem links_read {b : List Int} (hb : b.length ≤ 700) (hl : ∀ i, g i ≠ some none) (hr : readAt g 0 b.length = b) : ∃ P, readV (lkO b.length g pos 0) 1 1000 = (0, b, lkO b.length g pos P) := by
  have ha : ∀ l : List (Nat × Nat × Nat), l.any (fun p => lostB ((lkO b.length g pos 0).g 2 p.1)) = false := by
    intro l
    rw [List.any_eq_false]
    intro p _
    show ¬ lostB (g p.1) = true
    rw [lostB_no (hl p.1)]
    simp
  by_cases h0 : b = []
  · subst h0
    refine ⟨0, ?_⟩
    unfold readV
    rw [lkO_at]
    simp
  · have hn : 0 < b.length := List.length_pos_iff.2 h0
    have hk : (min (min (1000 : Int) 1024) ((b.length : Int) - 0)).toNat = b.length := by omega
    refine ⟨b.length, ?_⟩
    unfold readV
    rw [lkO_at]
    simp only
    rw [if_neg (by omega), if_neg (by omega), hk, ha, if_neg (by simp)]
    have hs := seekV_ok (v := lkO b.length g pos 0) (fd := 1) (h := ⟨2, 0⟩) rfl (p := (0 : Int) + (b.length : Int)) (by omega) (by omega)
    rw [hs]
    have e1 : readAt ((lkO b.length g pos 0).g 2) (0 : Int).toNat b.length = b := hr
    rw [e1, Int.zero_add]
    simp only [Prod.mk.injEq, true_and]
    unfold lkO
    simp only [V.mk.injEq, true_and, and_true]
    funext j
    by_cases hj : j = 1 <;> simp [hj]
end Go.Proofs.YthhipeceeagpnaaGreatDoor
end
