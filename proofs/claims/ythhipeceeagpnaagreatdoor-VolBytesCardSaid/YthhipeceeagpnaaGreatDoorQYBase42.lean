/- Merged texts: QVolWf QVolKeep QSpan QVolBytesP. -/
import Derived.Test.YthhipeceeagpnaaGreatDoorQYBase22
import Derived.Test.YthhipeceeagpnaaGreatDoorQYBase02
import Derived.Test.YthhipeceeagpnaaGreatDoorQYBase14
import Derived.Test.YthhipeceeagpnaaGreatDoorQYBase04
import Derived.Test.YthhipeceeagpnaaGreatDoorQYBase10
import Derived.Deep.QuietTactic
import Derived.BigQuiet
import Derived.Deep.DeepMust
section
/- A volume in plain words: what holds of it: blocks are of files that are there, what is open is a file. No program in sight. -/
namespace Go.Proofs.YthhipeceeagpnaaGreatDoor
set_option linter.unusedSimpArgs false
set_option linter.unusedVariables false
structure VWf (s : V) : Prop where
  full : Full s.st
  blk : ∀ k i, s.g k i ≠ none → i < 64 ∧ ∃ r, s.st.get k = some r ∧ r.nd.kind = 1
  wf : ∀ k, Wf (s.g k)
  fs : ∀ fd h, s.fs fd = some h → fd < 16 ∧ 0 ≤ h.pos ∧ h.pos ≤ 1099511627776 ∧ ∃ r, s.st.get h.node = some r ∧ r.nd.kind = 1
theorem valid_size {n : Nd} (h : validB n = true) : 0 ≤ n.size ∧ n.size ≤ 16384 := by
  simp only [validB, Bool.and_eq_true, decide_eq_true_eq] at h
  exact ⟨h.2.2.2.2.1, h.2.2.2.2.2.1⟩
theorem valid_sized {n : Nd} (h : validB n = true) (hk : n.kind = 1) {z : Int} (h0 : 0 ≤ z) (h1 : z ≤ 16384) : validB ⟨n.id, n.kind, n.links, z, n.target, n.parent⟩ = true := by
  simp only [validB, Bool.and_eq_true, decide_eq_true_eq, hk] at h ⊢
  obtain ⟨a1, a2, a3, a4, a5, a6, a7, a8⟩ := h
  exact ⟨a1, a2, a3, a4, h0, h1, by simp, a8⟩
/-- A file of another size. -/
def sized (n : Nd) (z : Int) : Nd := ⟨n.id, n.kind, n.links, z, n.target, n.parent⟩
theorem get_sized {st : St} (f : Full st) {k : Int} {r : NR} (hr : st.get k = some r) (hk : r.nd.kind = 1) (z : Int) (i : Int) : (st.put (sized r.nd z)).get i = if i = k then some ⟨sized r.nd z, []⟩ else st.get i := by
  have hid := findN_id hr
  rw [get_put f.rise]
  show (if i = r.nd.id then _ else _) = _
  rw [hid]
  split
  · rw [show st.get (sized r.nd z).id = some r by rw [show (sized r.nd z).id = k from hid]; exact hr]
    simp [keepE, sized, hk]
  · rfl
theorem sized_full {st : St} (f : Full st) {k : Int} {r : NR} (hr : st.get k = some r) (hk : r.nd.kind = 1) {z : Int} (h0 : 0 ≤ z) (h1 : z ≤ 16384) : Full (st.put (sized r.nd z)) := by
  have hid := findN_id hr
  have hv := f.val r (findN_mem hr)
  have hkk : ∀ x, st.get (sized r.nd z).id = some x → x.nd.kind = (sized r.nd z).kind := fun x hx => by
    rw [show (sized r.nd z).id = k from hid, hr] at hx
    injection hx with hx
    rw [hx]
    rfl
  have hroot : k ≠ 1 := fun e => by
    obtain ⟨x, h2, h3, _⟩ := f.root
    rw [e, h2] at hr
    injection hr with hr
    rw [hr, hk] at h3
    exact absurd h3 (by decide)
  have g2 : Good (st.put (sized r.nd z)) := f.toGood.put (valid_sized hv hk h0 h1) hkk (fun h => by rw [show (sized r.nd z).id = k from hid, hr] at h; cases h) (fun h => by rw [show (sized r.nd z).id = k from hid] at h; exact absurd h hroot)
  have hnm : ∀ i, (st.put (sized r.nd z)).names i = st.names i := names_put f.toGood hkk
  have hold : ∀ i x, (st.put (sized r.nd z)).get i = some x → ∃ y, st.get i = some y ∧ x.nd.kind = y.nd.kind ∧ x.nd.links = y.nd.links ∧ x.nd.parent = y.nd.parent ∧ (∀ e ∈ x.ents, e ∈ y.ents) := fun i x hx => by
    rw [get_sized f hr hk] at hx
    split at hx
    · rename_i he
      injection hx with hx
      subst hx
      exact ⟨r, by rw [he]; exact hr, rfl, rfl, rfl, fun e he => by cases he⟩
    · exact ⟨x, hx, rfl, rfl, rfl, fun e he => he⟩
  refine { g2 with cnt := ?_, par := ?_, one := ?_ }
  · intro i x hx
    obtain ⟨y, h2, h3, h4, h5, h6⟩ := hold i x hx
    rw [h4, hnm]
    exact f.cnt i y h2
  · intro d x hx e he y hy hy2
    obtain ⟨x', h2, h3, h4, h5, h6⟩ := hold d x hx
    obtain ⟨y', h7, h8, h9, h10, h11⟩ := hold _ y hy
    rw [h10]
    exact f.par d x' h2 e (h6 e he) y' h7 (by rw [← h8]; exact hy2)
  · intro i x hx h2k
    obtain ⟨y, h2, h3, h4, h5, h6⟩ := hold i x hx
    rw [h4]
    exact f.one i y h2 (by rw [← h3]; exact h2k)
theorem newV_wf (q : Int) : VWf (newV q) := ⟨newSt_full, fun k i h => absurd rfl h, fun k i l h => (by cases h), fun fd h hf => (by cases hf)⟩
/-! ### layAt and truncG within a file's blocks -/
theorem truncG_some {g : Nat → FBlk} {sz size : Int} {i : Nat} (h : truncG g sz size i ≠ none) : g i ≠ none := by
  unfold truncG at h
  split at h
  · exact absurd rfl h
  · split at h
    · rename_i hc
      rw [hc.2]
      intro e
      rw [e] at hc
      simp at hc
    · exact h
/-- Behind a turn of one file's blocks, and its size, and a place. -/
theorem VWf.laid {s : V} (h : VWf s) {k : Int} {r : NR} (hr : s.st.get k = some r) (hk : r.nd.kind = 1) {z : Int} (h0 : 0 ≤ z) (h1 : z ≤ 16384) {g' : Nat → FBlk} (hg : ∀ i, g' i ≠ none → i < 64) (hw : Wf g') {fs' : Nat → Option Hdl}
    (hf : ∀ fd h, fs' fd = some h → fd < 16 ∧ 0 ≤ h.pos ∧ h.pos ≤ 1099511627776 ∧ ∃ h0, s.fs fd = some h0 ∧ h0.node = h.node) : VWf ⟨s.st.put (sized r.nd z), fun i => if i = k then g' else s.g i, fs', s.quota⟩ := by
  have hget : ∀ i y, s.st.get i = some y → y.nd.kind = 1 → ∃ x, (s.st.put (sized r.nd z)).get i = some x ∧ x.nd.kind = 1 := fun i y hy hyk => by
    rw [get_sized h.full hr hk]
    split
    · exact ⟨_, rfl, hk⟩
    · exact ⟨y, hy, hyk⟩
  refine ⟨sized_full h.full hr hk h0 h1, fun i j hij => ?_, fun i => ?_, fun fd x hx => ?_⟩
  · simp only at hij
    split at hij
    · rename_i he
      obtain ⟨x, hx⟩ := hget k r hr hk
      exact ⟨hg j hij, x, by rw [he]; exact hx⟩
    · obtain ⟨h2, y, h3, h4⟩ := h.blk i j hij
      exact ⟨h2, hget i y h3 h4⟩
  · simp only
    split
    · exact hw
    · exact h.wf i
  · obtain ⟨h2, h3, h4, y, h5, h6⟩ := hf fd x hx
    obtain ⟨_, _, _, z, h7, h8⟩ := h.fs fd y h5
    refine ⟨h2, h3, h4, ?_⟩
    rw [← h6]
    exact hget _ z h7 h8
end Go.Proofs.YthhipeceeagpnaaGreatDoor
end

section
/- The tree's calls keep files: what is a volume stays one. No program in sight. -/
namespace Go.Proofs.YthhipeceeagpnaaGreatDoor
set_option linter.unusedSimpArgs false
set_option linter.unusedVariables false
/-- Each file is there still, as a file. -/
def KeepF (a b : St) : Prop := ∀ k r, a.get k = some r → r.nd.kind = 1 → ∃ r', b.get k = some r' ∧ r'.nd.kind = 1
theorem KeepF.refl (a : St) : KeepF a a := fun k r h1 h2 => ⟨r, h1, h2⟩
theorem KeepF.trans {a b c : St} (h : KeepF a b) (k : KeepF b c) : KeepF a c := fun i r h1 h2 => by
  obtain ⟨r', h3, h4⟩ := h i r h1 h2
  exact k i r' h3 h4
theorem KeepF.addE (a : St) (d : Int) (e : En) : KeepF a (a.addE d e) := fun k r h1 h2 => by
  rw [get_addE, h1]
  refine ⟨_, rfl, ?_⟩
  simp only
  split <;> exact h2
theorem KeepF.put {a : St} (hr : RiseN a.ns) (n : Nd) (h : ∀ r, a.get n.id = some r → r.nd.kind = 1 → n.kind = 1) : KeepF a (a.put n) := fun k r h1 h2 => by
  rw [get_put hr]
  split
  · rename_i he
    exact ⟨_, rfl, h r (by rw [← he]; exact h1) h2⟩
  · exact ⟨r, h1, h2⟩
theorem VWf.tree {s : V} (h : VWf s) {st' : St} (f : Full st') (k : KeepF s.st st') : VWf { s with st := st' } :=
  ⟨f, fun i j hij => by
    obtain ⟨h1, r, h2, h3⟩ := h.blk i j hij
    exact ⟨h1, k i r h2 h3⟩, h.wf, fun fd x hx => by
    obtain ⟨h1, h2, h3, r, h4, h5⟩ := h.fs fd x hx
    exact ⟨h1, h2, h3, k _ r h4 h5⟩⟩
theorem makeT_keep {s : St} (f : Full s) (a : ByteArray) (kind : Int) (to : ByteArray) : KeepF s (makeT s a kind to).2.2 := by
  unfold makeT
  simp only
  split
  · exact KeepF.refl _
  · split
    · exact KeepF.refl _
    · split
      · exact KeepF.refl _
      · split
        · exact KeepF.refl _
        · split
          · exact KeepF.refl _
          · refine (KeepF.put f.rise _ fun r hr hk => ?_).trans (KeepF.addE _ _ _)
            have h1 := f.ids r (findN_mem hr)
            have h2 := findN_id hr
            simp only at h2
            omega
end Go.Proofs.YthhipeceeagpnaaGreatDoor
end

section
/- The walks of package span: Pieces, is, has, Whole, Blocks. -/
namespace Go.Proofs.YthhipeceeagpnaaGreatDoor
open Go Go.RowKit
set_option maxRecDepth 100000
set_option linter.unusedSimpArgs false
set_option linter.unusedVariables false
attribute [local go_sem] giv
def encPc (p : Nat × Nat × Nat) : List Value := [.int .i64 p.1, .int .i64 p.2.1, .int .i64 p.2.2]
theorem pc_inf : (Tryz.prog.info? 83).map (fun i => (i.zero, i.size, i.bytes)) = some (some (.agg #[.int .i64 0, .int .i64 0, .int .i64 0]), 3, 24) := by kernel_rfl
theorem pcT : ElemT Tryz.prog 80 83 3 24 encPc :=
  ⟨Tryz.underlying80, ⟨.agg #[.int .i64 0, .int .i64 0, .int .i64 0], rfl, pc_inf⟩, fun _ => rfl, fun x u hu => by simp [encPc] at hu; rcases hu with rfl | rfl | rfl <;> rfl, by omega⟩
theorem RdE.pc1 {w : World} {h : Nat} {a b c : Nat} (r : Row w h 83 [.int .i64 a, .int .i64 b, .int .i64 c]) : RdE w 3 encPc (.slice (some ⟨h, 0, none⟩) 1 1) [(a, b, c)] := by
  refine ⟨_, _, rfl, by simp, (fun h => by cases h), fun _ => ⟨_, _, rfl, r.lt, fun i j hi hj => ?_⟩⟩
  obtain rfl : i = 0 := by simpa using hi
  rw [Nat.zero_mul, Nat.add_zero, Nat.zero_add, r.cell]
  rfl
theorem spanF_fuel : ∀ (f f' a n : Nat), n ≤ f → n ≤ f' → spanF f a n = spanF f' a n
  | 0, f', a, n, h, h' => by
    obtain rfl : n = 0 := by omega
    cases f' <;> simp [spanF]
  | f + 1, 0, a, n, h, h' => by
    obtain rfl : n = 0 := by omega
    simp [spanF]
  | f + 1, f' + 1, a, n, h, h' => by
    unfold spanF
    by_cases hn : n = 0
    · rw [if_pos hn, if_pos hn]
    · rw [if_neg hn, if_neg hn]
      have hm := Nat.mod_lt a (show 256 > 0 by decide)
      simp only
      rw [spanF_fuel f f' _ _ (by omega) (by omega)]
theorem spanP_zero (a : Nat) : spanP a 0 = [] := rfl
theorem spanP_cons (a : Nat) {n : Nat} (hn : 0 < n) : spanP a n = (a / 256, a % 256, a % 256 + min n (256 - a % 256)) :: spanP (a + min n (256 - a % 256)) (n - min n (256 - a % 256)) := by
  obtain ⟨k, rfl⟩ : ∃ k, n = k + 1 := ⟨n - 1, by omega⟩
  have hm := Nat.mod_lt a (show 256 > 0 by decide)
  unfold spanP
  rw [spanF, if_neg (by omega)]
  simp only
  rw [spanF_fuel k _ _ _ (by omega) (Nat.le_refl _)]
theorem spanP_len : ∀ (n a : Nat), (spanP a n).length ≤ n := by
  intro n
  induction n using Nat.strongRecOn with
  | ind n ih =>
    intro a
    by_cases h : n = 0
    · subst h; simp [spanP_zero]
    · rw [spanP_cons a (by omega), List.length_cons]
      have hm := Nat.mod_lt a (show 256 > 0 by decide)
      have := ih (n - min n (256 - a % 256)) (by omega) (a + min n (256 - a % 256))
      omega
set_option maxHeartbeats 1000000 in
theorem spanP_any (a n : Nat) (ha : a ≤ 1099511627776) (h1 : 1 ≤ n) (h2 : n ≤ 1048576) (w : World) :
    Calls Tryz.prog 38 #[.int .i64 a, .int .i64 n] w fun e w' => (∃ v, e = .returned v ∧ SlE w' w.heap.size 83 3 encPc v (spanP a n)) ∧ Below w.heap.size w w' := by
  generalize hP : (fun (e : Ending) (w' : World) => (∃ v, e = .returned v ∧ SlE w' w.heap.size 83 3 encPc v (spanP a n)) ∧ Below w.heap.size w w') = Post
  have HP := Lib.hid hP
  clear hP
  have q1 : ¬ ((a : Int) < 0) := by omega
  have q2 : ¬ (1099511627776 < (a : Int)) := by omega
  have q3 : ¬ ((n : Int) < 1) := by omega
  have q4 : ¬ (1048576 < (n : Int)) := by omega
  go_enter Tryz.func38, Tryz.ntmps38
  go_wp2
  go_loopw [0, 1, 5, 6, 7] (fun v0 v1 v5 _ _ wr => ∃ (done : List (Nat × Nat × Nat)) (a' n' : Nat), v0 = .int .i64 a' ∧ v1 = .int .i64 n' ∧ done ++ spanP a' n' = spanP a n ∧ a' + n' = a + n ∧ done.length + n' ≤ n ∧ SlE wr w.heap.size 83 3 encPc v5 done ∧ Below w.heap.size w wr) (fun _ v1 _ _ _ _ => (intOf v1).toNat)
  case atStart => exact ⟨[], a, n, rfl, rfl, rfl, rfl, by simp, SlE.nil _ _ _ _ _, Below.refl _ _⟩
  case round =>
    obtain ⟨done, a', n', rfl, rfl, hp, hs, hl, hsl, hb⟩ := hrel
    have HPC := Lib.hid hp
    have HS := Lib.hid hsl
    have HB := Lib.hid hb
    have HL := Lib.hid hl
    have HSM := Lib.hid hs
    clear hp hsl hb hl hs q1 q2 q3 q4
    by_cases hn : n' = 0
    · subst hn
      go_wp2
      rw [← HP.out]
      have h := HPC.out
      rw [spanP_zero, List.append_nil] at h
      rw [← h]
      have hfin : (∃ v, (Ending.returned u5 : Ending) = .returned v ∧ SlE wr w.heap.size 83 3 encPc v done) ∧ Below w.heap.size w wr := ⟨⟨_, rfl, HS.out⟩, HB.out⟩
      first
        | exact hfin
        | (go_ret2; exact hfin)
    · have hn0 : (0 : Int) < (n' : Int) := by omega
      have hm := Nat.mod_lt a' (show 256 > 0 by decide)
      have hab : a' ≤ 1099512676352 := by have := HSM.out; omega
      have e1 : (a' : Int).tmod 256 = ((a' % 256 : Nat) : Int) := rfl
      have e2 : (a' : Int).tdiv 256 = ((a' / 256 : Nat) : Int) := rfl
      obtain ⟨q, hq⟩ : ∃ q, a' / 256 = q := ⟨_, rfl⟩
      obtain ⟨f, hf⟩ : ∃ f, a' % 256 = f := ⟨_, rfl⟩
      have hf2 : (a' : Int) % 256 = (f : Int) := by omega
      have hq2 : (a' : Int) / 256 = (q : Int) := by omega
      have hf3 : f < 256 := by omega
      obtain ⟨m, hmm⟩ : ∃ m, min n' (256 - f) = m := ⟨_, rfl⟩
      have hm2 : min (n' : Int) (256 - (f : Int)) = (m : Int) := by omega
      have hm3 : f + m ≤ 256 ∧ 1 ≤ m ∧ m ≤ n' := by omega
      have hPC := HPC.out
      rw [spanP_cons a' (by omega), hq, hf, hmm] at hPC
      have HPC2 := Lib.hid hPC
      have HNUM : Hid (f + m ≤ 256 ∧ 1 ≤ m ∧ m ≤ n' ∧ f < 256) := Lib.hid ⟨hm3.1, hm3.2.1, hm3.2.2, hf3⟩
      have hE1 : (n' : Int) ≤ 1048576 := by have := HL.out; omega
      have hE2 : (a' : Int) ≤ 1099512676352 := by omega
      have hE3 : (f : Int) < 256 := by omega
      have hE4 : (m : Int) ≤ 256 := by omega
      have hE5 : (m : Int) ≤ (n' : Int) := by omega
      have HOWN : Hid (SlE (wr.alloc (.cells #[.int .i64 q, .int .i64 f, .int .i64 ((f : Int) + (m : Int))] 83)) w.heap.size 83 3 encPc u5 done) := Lib.hid (HS.out.below (bl_alloc (Below.refl _ _) _))
      have RNEW : Hid (RdE (wr.alloc (.cells #[.int .i64 q, .int .i64 f, .int .i64 ((f : Int) + (m : Int))] 83)) 3 encPc (.slice (some ⟨wr.heap.size, 0, none⟩) 1 1) [(q, f, f + m)]) := Lib.hid (by
        have r := Row.new wr 83 [.int .i64 q, .int .i64 f, .int .i64 ((f : Int) + (m : Int))]
        exact RdE.pc1 (c := f + m) (by rw [show ((f + m : Nat) : Int) = (f : Int) + (m : Int) by omega]; exact r))
      have HBS : Hid (w.heap.size ≤ (wr.alloc (.cells #[.int .i64 q, .int .i64 f, .int .i64 ((f : Int) + (m : Int))] 83)).heap.size) := Lib.hid (by have := HB.out.size; simp; omega)
      have hdl : done.length ≤ 1048576 := by have := HL.out; omega
      have HDL := Lib.hid hdl
      clear hq hf hmm hPC hm3 hdl e1 e2 hm hab hn
      go_wp2_with (at_builtin; refine wpList_app pcT rfl _ _ rfl rfl HOWN.out rfl RNEW.out (by have := HDL.out; unfold maxLen; simp; omega) (by have := HDL.out; simp; omega) HBS.out ?_; intro v' w' hs' ht'; have HS' := Lib.hid hs'; have HT' := Lib.hid ht'; clear hs' ht')
      have hbt := HT'.out.below HBS.out (fun x hx => (HOWN.out.lt x hx).1)
      have HBT := Lib.hid (HB.out.trans (((Below.refl w.heap.size wr).alloc HB.out.size _).trans hbt))
      clear hbt
      go_roundw
      case rel =>
        have hn4 := HNUM.out
        have hs4 := HSM.out
        have hl4 := HL.out
        refine ⟨done ++ [(q, f, f + m)], a' + m, n' - m, by go_num, by go_num, ?_, by omega, by simp; omega, HS'.out, HBT.out⟩
        rw [List.append_assoc]
        exact HPC2.out
      case measure => simp [intOf]; have := HNUM.out; omega
theorem is_any (i f t : Nat) (h1 : f ≤ t) (h2 : t ≤ 256) (w : World) : Calls Tryz.prog 105 #[.agg #[.int .i64 i, .int .i64 f, .int .i64 t]] w fun e w' => e = .returned (.bool true) ∧ Below w.heap.size w w' := by
  have q1 : (0 : Int) ≤ (f : Int) := by omega
  have q2 : (t : Int) ≤ 256 := by omega
  have q3 : (f : Int) ≤ (t : Int) := by omega
  go_enter Tryz.func105, Tryz.ntmps105
  go_wp2
  go_ret
  exact ⟨rfl, bl_alloc (Below.refl _ _) _⟩
theorem has_any (i : Nat) (n : Int) (h0 : 0 ≤ n) (h1 : n ≤ 1099511627776) (w : World) : Calls Tryz.prog 70 #[.int .i64 i, .int .i64 n] w fun e w' => e = .returned (.int .i64 (hasB i n)) ∧ w = w' := by
  have q0 : 0 ≤ n % 256 := by omega
  have q1 : ¬ (n % 256 < 0) := by omega
  unfold hasB
  by_cases c1 : n / 256 < (i : Int)
  · rw [if_pos c1]
    go_enter Tryz.func70, Tryz.ntmps70
    go_wp2
    go_ret
    exact ⟨rfl, rfl⟩
  · rw [if_neg c1]
    by_cases c2 : n / 256 = (i : Int)
    · rw [if_pos c2]
      have c3 : ((i : Int) == n / 256) = true := by rw [beq_iff_eq]; exact c2.symm
      clear c2
      go_enter Tryz.func70, Tryz.ntmps70
      go_wp2
      go_ret
      exact ⟨rfl, rfl⟩
    · rw [if_neg c2]
      have c3 : ((i : Int) == n / 256) = false := by rw [beq_eq_false_iff_ne]; exact fun e => c2 e.symm
      clear c2
      go_enter Tryz.func70, Tryz.ntmps70
      go_wp2
      go_ret
      exact ⟨rfl, rfl⟩
theorem whole_any (i f t : Nat) (n : Int) (h0 : 0 ≤ n) (h1 : n ≤ 1099511627776) (w : World) : Calls Tryz.prog 40 #[.agg #[.int .i64 i, .int .i64 f, .int .i64 t], .int .i64 n] w fun e w' => e = .returned (.bool (wholeP (i, f, t) n)) ∧ Below w.heap.size w w' := by
  have H0 := Lib.hid (And.intro h0 h1)
  generalize hP : (fun (e : Ending) (w' : World) => e = .returned (.bool (wholeP (i, f, t) n)) ∧ Below w.heap.size w w') = Post
  have HP := Lib.hid hP
  obtain ⟨w1, hw1⟩ : ∃ w1, w1 = w.alloc (.cells #[.int .i64 i, .int .i64 f, .int .i64 t] 83) := ⟨_, rfl⟩
  obtain ⟨C, hC⟩ : ∃ C, w.heap.size = C := ⟨_, rfl⟩
  have HB1 : Hid (Below w.heap.size w w1) := Lib.hid (by rw [hw1]; exact bl_alloc (Below.refl _ _) _)
  have HR : Hid (Row w1 C 83 [.int .i64 i, .int .i64 f, .int .i64 t]) := Lib.hid (by rw [hw1, ← hC]; exact Row.new _ _ _)
  have hwh : wholeP (i, f, t) n = (((f : Int) == 0) && decide (hasB i n ≤ (t : Int))) := by
    unfold wholeP
    simp only
    congr 1
    rw [Bool.eq_iff_iff]
    simp
  rw [hwh] at HP
  have K : ∀ w', Below w1.heap.size w1 w' → w'.cell? ⟨C, 0, none⟩ = some (.int .i64 i) ∧ w'.cell? ⟨C, 1, none⟩ = some (.int .i64 f) ∧ w'.cell? ⟨C, 2, none⟩ = some (.int .i64 t) := fun w' hb => by
    have r := HR.out.keep (hb.block _ HR.out.lt)
    exact ⟨r.cell 0, r.cell 1, r.cell 2⟩
  have HK := Lib.hid K
  clear h0 h1 hP hwh K
  cases hf0 : ((f : Int) == 0)
  all_goals
    rw [hf0] at HP
    go_enter Tryz.func40, Tryz.ntmps40
    go_wp2_with fail
    rw [← hw1]
    clear hw1
    have S := HK.out
    apply wp_region_rel _ (by kernel_rfl) (by kernel_rfl) (fun w' => Below w1.heap.size w1 w') (fun w' w'' => Below w'.heap.size w' w'') (fun w' w'' h1 h2 => bl_trans h1 h2) (Below.refl _ _).drew
    repeat (first
      | (apply wpRel_skip (by rfl)
         simp only [Act.put, List.setIfInBounds_toArray, List.set_cons_zero, List.set_cons_succ])
      | (apply wpRel_fix (by rfl)
         · intro w' hC hf R hR
           have hS := S w' hC
           go_simp
           exact hR _ (Below.refl _ _)
         simp only [Act.put, List.setIfInBounds_toArray, List.set_cons_zero, List.set_cons_succ])
      | (apply wpRel_fix (by rfl)
         · intro w' hC hf R hR
           have hS := S w' hC
           go_simp
           refine (has_any i n H0.out.1 H0.out.2 _).mono ?_
           rintro e w'' ⟨rfl, rfl⟩
           exact ⟨_, rfl, hR _ (Below.refl _ _)⟩
         simp only [Act.put, List.setIfInBounds_toArray, List.set_cons_zero, List.set_cons_succ]))
    refine wpRel_nil (fun w2 hC2 hf => ?_)
    go_wp2
    rw [← HP.out]
    exact ⟨rfl, HB1.out.trans (hC2.mono HB1.out.size)⟩
theorem blocks_any (n : Int) (h1 : n ≤ 1099511627776) (w : World) : Calls Tryz.prog 56 #[.int .i64 n] w fun e w' => e = .returned (.int .i64 (blocksOf n)) ∧ w = w' := by
  unfold blocksOf
  by_cases c : n ≤ 0
  · rw [if_pos c]
    go_enter Tryz.func56, Tryz.ntmps56
    go_wp2
    go_ret
    exact ⟨rfl, rfl⟩
  · rw [if_neg c]
    have q0 : 0 ≤ n - 1 := by omega
    go_enter Tryz.func56, Tryz.ntmps56
    go_wp2
    go_ret
    exact ⟨rfl, rfl⟩
set_option maxHeartbeats 1000000 in
theorem lay_any {w : World} {sp spb : Option Addr} {capo capb : Nat} {lo b : List Int} (i f : Nat) (hlo : lo.length ≤ 256) (hino : SlIn w sp lo) (hb0 : 0 < b.length) (hfb : f + b.length ≤ 256) (hinb : SlIn w spb b) :
    Calls Tryz.prog 73 #[.slice sp lo.length capo, .agg #[.int .i64 i, .int .i64 f, .int .i64 (f + b.length : Nat)], .slice spb b.length capb] w fun e w' =>
      (∃ h, e = .returned (.slice (some ⟨h, 0, none⟩) 256 256) ∧ w.heap.size ≤ h ∧ Row w' h 5 ((laidB (pad lo) f b).map (Value.int .u8))) ∧ Below w.heap.size w w' := by
  generalize hP : (fun (e : Ending) (w' : World) => (∃ h, e = .returned (.slice (some ⟨h, 0, none⟩) 256 256) ∧ w.heap.size ≤ h ∧ Row w' h 5 ((laidB (pad lo) f b).map (Value.int .u8))) ∧ Below w.heap.size w w') = Post
  have HP := Lib.hid hP
  obtain ⟨t, ht⟩ : ∃ t, f + b.length = t := ⟨_, rfl⟩
  rw [ht]
  obtain ⟨nb, hnb⟩ : ∃ nb, b.length = nb := ⟨_, rfl⟩
  have HNB := Lib.hid hnb
  have HLO := Lib.hid hlo
  have HT := Lib.hid ht
  have HINO := fun w2 (hb2 : Below w.heap.size w w2) (h0 : 0 < lo.length) => slIn_below hino hb2 h0
  have HINB := fun w2 (hb2 : Below w.heap.size w w2) (h0 : 0 < b.length) => slIn_below hinb hb2 h0
  have HI1 := Lib.hid HINO
  have HI2 := Lib.hid HINB
  have HC1 : Hid (∀ u ∈ lo.map (Value.int .u8), u.oneCell' = true) := Lib.hid fun u hu => by
    obtain ⟨x, _, rfl⟩ := List.mem_map.1 hu
    rfl
  have HC2 : Hid (∀ u ∈ b.map (Value.int .u8), u.oneCell' = true) := Lib.hid fun u hu => by
    obtain ⟨x, _, rfl⟩ := List.mem_map.1 hu
    rfl
  have U8SZ : Hid ((Tryz.prog.info? 5).map (·.size) = some 1) := Lib.hid (by kernel_rfl)
  have q1 : (t : Int) ≤ 256 := by omega
  have q2 : (f : Int) ≤ (t : Int) := by omega
  rw [hnb] at hb0 ⊢
  obtain ⟨w0, hw0⟩ : ∃ w0, w0 = w.alloc (.cells #[.int .i64 i, .int .i64 f, .int .i64 t] 83) := ⟨_, rfl⟩
  have HB0 : Hid (Below w.heap.size w w0) := Lib.hid (by rw [hw0]; exact bl_alloc (Below.refl _ _) _)
  have HZ0 : Hid (w0.heap.size = w.heap.size + 1) := Lib.hid (by rw [hw0]; simp)
  have HR0 : Hid (Row w0 w.heap.size 83 [.int .i64 i, .int .i64 f, .int .i64 t]) := Lib.hid (by rw [hw0]; exact Row.new _ _ _)
  clear hP hlo hino hfb hinb ht hnb HINO HINB
  go_enter Tryz.func73, Tryz.ntmps73
  go_wp2_with (first
    | (at_make; rw [← hw0]; refine wpList_mk _ rfl _ _ _ rfl 5 (.int .u8 0) 1 Tryz.underlying32 u8_info rfl 256 rfl rfl (by omega) (by unfold maxLen; omega) ?_; intro w2 hr hb2; rw [HZ0.out] at hr hb2; have HR := Lib.hid hr; have HB2 := Lib.hid hb2; clear hr hb2)
    | (refine wpList_copy_splice (o := ⟨some 11, _, _, _, _, _⟩) (hgd := rfl) (.tmp 9) (.tmp 10) 32 32 (ho := rfl) 5 (hu := Tryz.underlying32) (hsz := U8SZ.out) (dp := some ⟨w.heap.size + 1, 0, none⟩) (sp := sp) (dLen := 256) (dCap := 256) (sLen := lo.length) (sCap := capo) (hd := rfl) (hs := rfl) (g := w.heap.size + 1) (off := 0) (cur := List.replicate 256 (.int .u8 0)) (t := 5) (hg := HR.out) (cs := lo.map (Value.int .u8)) (hn := by rw [List.length_map]; exact (Nat.min_eq_left HLO.out).symm) (hpos := fun h0 => ⟨rfl, HI1.out _ (HB0.out.trans (HB2.out.mono (by omega))) (by simpa using h0)⟩) (hfit := by simp; exact HLO.out) (h1 := HC1.out) (B := w.heap.size + 1) (w0 := w0) (hb := HB2.out) (hBg := Nat.le_refl _) ?_; intro w3 hg3 hb3; have HB3 := Lib.hid hb3; have r3 := HR0.out.keep (hb3.block _ (by omega)); have x0 := r3.cell' (i := 0) rfl; have x1 := r3.cell' (i := 1) rfl; have x2 := r3.cell' (i := 2) rfl; have R3 := Lib.hid r3; clear hb3 r3))
  refine (is_any i f t (by have := HT.out; omega) (by omega) _).mono ?_
  rintro e w4 ⟨rfl, hb4⟩
  have HB4 := Lib.hid hb4
  have hbb := HB3.out
  have hz3 : w.heap.size + 1 ≤ w3.heap.size := by have := HB2.out.size; have := HZ0.out; have := HB3.out.size; omega
  have r4 := R3.out.keep (hb4.block _ (by omega))
  have x0 := r4.cell' (i := 0) rfl
  have x1 := r4.cell' (i := 1) rfl
  have x2 := r4.cell' (i := 2) rfl
  have HG4 : Hid (w4.heap[w.heap.size + 1]? = some (.cells ((pad lo).map (Value.int .u8)).toArray 5 (0, 0))) := Lib.hid (by
    rw [hb4.block _ (by have := HB3.out.size; have := R3.out.lt; have := (Array.getElem?_eq_some_iff.1 hg3.out).1; omega)]
    have := hg3.out
    rw [splice_pad] at this
    exact this)
  have HB34 : Hid (Below (w.heap.size + 1) w0 w4) := Lib.hid (HB3.out.trans (hb4.mono hz3))
  have q5 : (f : Int) < 256 := by have := HT.out; have := HNB.out; omega
  have q6 : ¬ ((256 : Int) = (f : Int)) := by omega
  have HCS : Hid ((b.map (Value.int .u8)).length = min nb (t - f)) := Lib.hid (by have := HT.out; have := HNB.out; rw [List.length_map]; omega)
  clear r4 hb4 hbb hg3
  go_wp2_with (refine wpList_copy_splice (o := ⟨some 21, _, _, _, _, _⟩) (hgd := rfl) (.tmp 19) (.tmp 20) 32 32 (ho := rfl) 5 (hu := Tryz.underlying32) (hsz := U8SZ.out) (dp := some ⟨w.heap.size + 1, f, none⟩) (sp := spb) (dLen := t - f) (dCap := 256 - f) (sLen := nb) (sCap := capb) (hd := rfl) (hs := rfl) (g := w.heap.size + 1) (off := f) (cur := (pad lo).map (Value.int .u8)) (t := 5) (hg := HG4.out) (cs := b.map (Value.int .u8)) (hn := HCS.out) (hpos := fun h0 => ⟨rfl, HI2.out _ (HB0.out.trans (HB34.out.mono (by omega))) (by simpa using h0)⟩) (hfit := by rw [List.length_map, List.length_map, pad_len HLO.out]; have := HT.out; omega) (h1 := HC2.out) (B := w.heap.size + 1) (w0 := w0) (hb := HB34.out) (hBg := Nat.le_refl _) ?_; intro w5 hg5 hb5; have HB5 := Lib.hid hb5; clear hb5)
  rw [← HP.out]
  have hz0 := HZ0.out
  refine ⟨⟨w.heap.size + 1, rfl, by omega, ?_⟩, HB0.out.trans (HB5.out.mono (by omega))⟩
  have h5 := hg5.out
  have he : splice ((pad lo).map (Value.int .u8)) f (b.map (Value.int .u8)) = (laidB (pad lo) f b).map (Value.int .u8) := by
    unfold splice laidB
    simp only [List.map_append, List.map_take, List.map_drop, List.length_map, List.append_assoc]
  rw [he] at h5
  exact h5
end Go.Proofs.YthhipeceeagpnaaGreatDoor
end

section
/- What VolBytes asks, in plain words: the bytes that a file has to have, as a list. No program in sight. -/
namespace Go.Proofs.YthhipeceeagpnaaGreatDoor
set_option linter.unusedSimpArgs false
set_option linter.unusedVariables false
/-- A list with some bytes put at a place. -/
def spl (H : List Int) (p : Nat) (l : List Int) : List Int := H.take p ++ l ++ H.drop (p + l.length)
theorem spl_nil (H : List Int) (p : Nat) : spl H p [] = H := by
  unfold spl
  rw [List.append_nil, List.length_nil, Nat.add_zero, List.take_append_drop]
theorem spl_len {H : List Int} {p : Nat} {l : List Int} (h : p + l.length ≤ H.length) : (spl H p l).length = H.length := by
  unfold spl
  simp only [List.length_append, List.length_take, List.length_drop]
  omega
theorem spl_get {H : List Int} {p : Nat} {l : List Int} (h : p + l.length ≤ H.length) (k : Nat) : (spl H p l).getD k 0 = if p ≤ k ∧ k < p + l.length then l.getD (k - p) 0 else H.getD k 0 := by
  unfold spl
  have h1 : (H.take p).length = p := by rw [List.length_take]; omega
  by_cases hk : p ≤ k ∧ k < p + l.length
  · rw [if_pos hk, List.append_assoc, List.getD_eq_getElem?_getD, List.getElem?_append_right (by omega), h1, List.getElem?_append_left (by omega), ← List.getD_eq_getElem?_getD]
  · rw [if_neg hk]
    by_cases h2 : k < p
    · rw [List.append_assoc, List.getD_eq_getElem?_getD, List.getElem?_append_left (by omega), List.getElem?_take, if_pos h2, ← List.getD_eq_getElem?_getD]
    · have h3 : p + l.length ≤ k := by omega
      rw [List.getD_eq_getElem?_getD, List.getElem?_append_right (by rw [List.length_append]; omega), List.getElem?_drop, List.length_append, h1, show p + l.length + (k - (p + l.length)) = k by omega, ← List.getD_eq_getElem?_getD]
theorem list_ext {l m : List Int} (h : l.length = m.length) (h2 : ∀ k, k < l.length → l.getD k 0 = m.getD k 0) : l = m := by
  refine List.ext_getElem h fun k h3 h4 => ?_
  have := h2 k h3
  rwa [List.getD_eq_getElem?_getD, List.getElem?_eq_getElem h3, List.getD_eq_getElem?_getD, List.getElem?_eq_getElem h4] at this
theorem getD_set (l : List Int) (i k : Nat) (x : Int) (hi : i < l.length) : (l.set i x).getD k 0 = if k = i then x else l.getD k 0 := by
  rw [List.getD_eq_getElem?_getD, List.getElem?_set]
  by_cases h : i = k
  · rw [if_pos h, if_pos h.symm, if_pos hi]
    rfl
  · rw [if_neg h, if_neg (fun e => h e.symm), List.getD_eq_getElem?_getD]
theorem getD_take (l : List Int) (n k : Nat) : (l.take n).getD k 0 = if k < n then l.getD k 0 else 0 := by
  rw [List.getD_eq_getElem?_getD, List.getElem?_take]
  split
  · rw [List.getD_eq_getElem?_getD]
  · rfl
theorem spl_set {H : List Int} {p : Nat} {b : List Int} {j : Nat} (hj : j < b.length) (h : p + b.length ≤ H.length) : (spl H p (b.take j)).set (p + j) (b.getD j 0) = spl H p (b.take (j + 1)) := by
  have l1 : (b.take j).length = j := by rw [List.length_take]; omega
  have l2 : (b.take (j + 1)).length = j + 1 := by rw [List.length_take]; omega
  have s1 : (spl H p (b.take j)).length = H.length := spl_len (by omega)
  have s2 : (spl H p (b.take (j + 1))).length = H.length := spl_len (by omega)
  refine list_ext (by rw [List.length_set, s1, s2]) fun k hk => ?_
  rw [getD_set _ _ _ _ (by omega), spl_get (by omega), spl_get (by omega), l1, l2]
  by_cases hkj : k = p + j
  · subst hkj
    rw [if_pos rfl, if_pos ⟨by omega, by omega⟩, getD_take, if_pos (by omega), show p + j - p = j by omega]
  · rw [if_neg hkj]
    by_cases h3 : p ≤ k ∧ k < p + j
    · rw [if_pos h3, if_pos ⟨h3.1, by omega⟩, getD_take, getD_take, if_pos (by omega), if_pos (by omega)]
    · rw [if_neg h3, if_neg (by omega)]
/-- The list of what a file's bytes have to be, and the file's blocks. -/
structure Has (H : List Int) (g : Nat → FBlk) (sz : Int) : Prop where
  len : H.length = 20000
  wf : Wf g
  lost : ∀ i, g i ≠ some none
  lt : ∀ i, g i ≠ none → i < 64
  at' : ∀ p, p < 20000 → H.getD p 0 = byteAt g p
  z : ∀ p : Nat, sz ≤ p → byteAt g p = 0
  s0 : 0 ≤ sz
  s1 : sz ≤ 16384
theorem Has.start : Has (List.replicate 20000 0) (fun _ => none) 0 := by
  refine ⟨List.length_replicate, none_wf, fun i h => (by cases h), fun i h => absurd rfl h, fun p hp => ?_, fun p _ => none_byte p, (by decide), (by decide)⟩
  rw [none_byte, List.getD_eq_getElem?_getD, List.getElem?_replicate]
  split <;> rfl
theorem lay_lt' {g : Nat → FBlk} (hg : ∀ i, g i ≠ none → i < 64) (a : Nat) (b : List Int) (h : a + b.length ≤ 16384) : ∀ i, layAt g a b i ≠ none → i < 64 := fun i hi => by
  by_cases he : layF b.length g a b i = g i
  · exact hg i (by unfold layAt at hi; rw [he] at hi; exact hi)
  · have := (layF_blocks b.length g a b (Nat.le_refl _) i).1 he
    omega
theorem Has.laid {H : List Int} {g : Nat → FBlk} {sz : Int} (h : Has H g sz) {p : Nat} {b : List Int} (hp : p + b.length ≤ 16384) : Has (spl H p b) (layAt g p b) (max sz ((p : Int) + b.length)) := by
  have hl := h.len
  refine ⟨by rw [spl_len (by omega)]; exact hl, layAt_wf h.wf _ _, laid_lost h.lost _ _, lay_lt' h.lt _ _ hp, fun k hk => ?_, fun k hk => ?_, by have := h.s0; omega, by have := h.s1; omega⟩
  · rw [spl_get (by omega), layAt_byte h.wf, h.at' k hk]
  · rw [layAt_byte h.wf, if_neg (by omega)]
    exact h.z k (by omega)
theorem Has.trunc {H : List Int} {g : Nat → FBlk} {sz : Int} (h : Has H g sz) {n : Nat} (hn : n ≤ 16384) : Has (spl H n (List.replicate (20000 - n) 0)) (truncG g sz n) n := by
  have hl := h.len
  refine ⟨by rw [spl_len (by rw [List.length_replicate]; omega)]; exact hl, truncG_wf h.wf _, truncG_lost h.lost _, fun i hi => h.lt i (truncG_some hi), fun k hk => ?_, fun k hk => ?_, by omega, by omega⟩
  · rw [spl_get (by rw [List.length_replicate]; omega), truncG_byte h.wf (by omega) h.z, List.length_replicate]
    by_cases hkn : k < n
    · rw [if_neg (by omega), if_pos (by omega)]
      exact h.at' k hk
    · rw [if_pos (by omega), if_neg (by omega), List.getD_eq_getElem?_getD, List.getElem?_replicate]
      split <;> rfl
  · rw [truncG_byte h.wf (by omega) h.z, if_neg (by omega)]
/-- Cut longer: the bytes are as they were. -/
theorem Has.longer {H : List Int} {g : Nat → FBlk} {sz : Int} (h : Has H g sz) {n : Int} (h1 : sz ≤ n) (hn : n ≤ 16384) : Has H (truncG g sz n) n := by
  have h0 := h.s0
  refine ⟨h.len, truncG_wf h.wf _, truncG_lost h.lost _, fun i hi => h.lt i (truncG_some hi), fun k hk => ?_, fun k hk => ?_, by omega, hn⟩
  · rw [truncG_byte h.wf (by omega) h.z]
    split
    · exact h.at' k hk
    · rw [h.at' k hk]
      exact h.z k (by omega)
  · rw [truncG_byte h.wf (by omega) h.z, if_neg (by omega)]
theorem Has.read {H : List Int} {g : Nat → FBlk} {sz : Int} (h : Has H g sz) {p n : Nat} (hp : p + n ≤ 20000) : readAt g p n = (H.drop p).take n := by
  refine list_ext (by rw [readAt_eq h.wf, List.length_map, List.length_range, List.length_take, List.length_drop, h.len]; omega) fun k hk => ?_
  rw [readAt_eq h.wf, List.length_map, List.length_range] at hk
  rw [readAt_eq h.wf, List.getD_eq_getElem?_getD, List.getElem?_map, List.getElem?_range hk, getD_take, if_pos hk, List.getD_eq_getElem?_getD, List.getElem?_drop, ← List.getD_eq_getElem?_getD, h.at' _ (by omega)]
  rfl
end Go.Proofs.YthhipeceeagpnaaGreatDoor
end
