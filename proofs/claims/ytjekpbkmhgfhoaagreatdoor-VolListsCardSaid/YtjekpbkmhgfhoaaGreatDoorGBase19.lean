/- Merged texts: DirList DirLaw. -/
import Derived.Test.YtjekpbkmhgfhoaaGreatDoorGBase12
import Derived.Test.YtjekpbkmhgfhoaaGreatDoorGBase16
import Derived.Test.YtjekpbkmhgfhoaaGreatDoorGBase11
import Derived.Test.YtjekpbkmhgfhoaaGreatDoorGBase18
section
/- The walk of package dir: All. -/
namespace Go.Proofs.YtjekpbkmhgfhoaaGreatDoor
open Go Go.RowKit
set_option maxRecDepth 100000
set_option linter.unusedSimpArgs false
attribute [local go_sem] giv
variable {E : Nat → Addr} {B : Nat}

/-- The entries of names. -/
def entsOf (g : ByteArray → Option En) (ks : List ByteArray) : List En := ks.map fun k => (g k).getD noEn
theorem entsOf_len (g : ByteArray → Option En) (ks : List ByteArray) : (entsOf g ks).length = ks.length := by simp [entsOf]
theorem entsOf_succ (g : ByteArray → Option En) {ks : List ByteArray} {j : Nat} (h : j < ks.length) : entsOf g (ks.take (j + 1)) = entsOf g (ks.take j) ++ [(g ks[j]).getD noEn] := by
  rw [entsOf, List.take_succ_eq_append_getElem h, List.map_append]; rfl

theorem dir_look1 {w : World} {b n : Nat} {m : Option Nat} {g : ByteArray → Option En} (h : DirAt w b m g n) {k : ByteArray} (hk : k.size ≤ maxLen) :
    (Instr.lookup 188 (.map m) (.string k) false).run Tryz.prog w = .ok (encE ((g k).getD noEn)) w := by
  obtain ⟨_, _, _, h4⟩ := h
  obtain ⟨l, hl⟩ := keyS hk
  cases m with
  | none =>
    obtain ⟨_, hg⟩ := h4
    rw [hg k]
    exact Maps.look_nil false kdStr Tryz.underlying188 (zeroE w) hl
  | some r =>
    obtain ⟨_, hm⟩ := h4
    cases hg : g k with
    | none => exact hm.look_none kdStr Tryz.underlying188 str_inj (zeroE w) hl hg false
    | some h => exact hm.look_some kdStr Tryz.underlying188 str_inj hl hg false

theorem wrap_next {j : Nat} (h : j < 1000000) : wrap64 ((j : Int) + 1) = ((j + 1 : Nat) : Int) := by unfold wrap64; omega

theorem app_max {j : Nat} (h : j < 1000000) : j + 1 ≤ maxLen := by unfold maxLen; omega
theorem app_bytes {j k : Nat} (hk : k ≤ 1000) (h : j < 1000000) : (j + 1) * k ≤ 140737488355328 := by
  have : (j + 1) * k ≤ 1000000 * 1000 := Nat.mul_le_mul (by omega) hk
  omega

theorem dall_any {w : World} {b n : Nat} {m : Option Nat} {g : ByteArray → Option En} (h : DirAt w b m g n) (hn : n ≤ 1000000) (hs : ∀ k, (g k).isSome = true → k.size ≤ maxLen) :
    Calls Tryz.prog 92 #[.pointer (some ⟨b, 0, none⟩)] w fun e w' =>
      (∃ v ks, e = .returned v ∧ SlEn w' w.heap.size v (entsOf g ks) ∧ SortedNames g ks ∧ ks.length = n) ∧ Below w.heap.size w w' := by
  have hc := h.1
  have hlt := h.2.2.1
  have H := Lib.hid h
  have HSZ := Lib.hid hs
  clear h hs
  generalize hP : (fun (e : Ending) (w' : World) => (∃ v ks, e = .returned v ∧ SlEn w' w.heap.size v (entsOf g ks) ∧ SortedNames g ks ∧ ks.length = n) ∧ Below w.heap.size w w') = Post
  have HP := Lib.hid hP
  clear hP
  have hsorted : ∃ Pst, Pst = fun (e : Ending) (w' : World) => (∃ v ks, e = .returned v ∧ SlE w' w.heap.size 9 1 encS v ks ∧ SortedNames g ks ∧ ks.length = n) ∧ Below w.heap.size w w' := ⟨_, rfl⟩
  obtain ⟨Pst, hPst⟩ := hsorted
  have HPST := Lib.hid hPst
  have hsrt : Calls Tryz.prog 130 #[.func (.func 163) #[] #[.pointer (some ⟨w.heap.size, 0, none⟩)]] (w.alloc (.cells #[.map m] 188)) Pst := by
    rw [hPst]
    cases m with
    | none =>
      refine (sorted_en_nil w).mono ?_
      rintro e w' ⟨rfl, hb⟩
      obtain ⟨h1, h2⟩ := H.out.2.2.2
      exact ⟨⟨_, [], rfl, SlE.nil _ _ _ _ _, ⟨List.Pairwise.nil, fun k => by simp [h2]⟩, by simp [h1]⟩, hb⟩
    | some r => exact sorted_en H.out.2.2.2.2 (by omega)
  clear hPst
  go_enter Tryz.func92, Tryz.ntmps92
  go_wp2_with fail
  refine (keys_en _ _).mono ?_
  rintro e w' ⟨rfl, rfl⟩
  go_wp2_with fail
  refine hsrt.mono ?_
  intro e w2 he
  rw [HPST.out] at he
  obtain ⟨⟨v, ks, rfl, h1, h2, h3⟩, hb⟩ := he
  have H1 := Lib.hid h1
  have H2 := Lib.hid h2
  have H3 := Lib.hid h3
  have HB := Lib.hid hb
  have hv := h1.cases
  clear h1 h2 h3 hb hsrt HPST
  obtain ⟨sp, cap, rfl⟩ : ∃ sp cap, v = .slice sp ks.length cap := by
    rcases hv with ⟨rfl, rfl⟩ | ⟨g', cap, rfl, _⟩
    · exact ⟨_, _, rfl⟩
    · exact ⟨_, _, rfl⟩
  go_wp2_with fail
  go_loopw [3, 5, 13] (fun v _ i wr => ∃ j : Nat, j ≤ ks.length ∧ i = .int .i64 j ∧ Hid (SlEn wr w2.heap.size v (entsOf g (ks.take j)) ∧ Below w2.heap.size w2 wr)) (fun _ _ i _ => ks.length - (intOf i).toNat)
  case atStart => exact ⟨0, Nat.zero_le _, rfl, Lib.hid ⟨SlE.nil _ _ _ _ _, Below.refl _ _⟩⟩
  case round =>
    obtain ⟨j, hj, rfl, HI⟩ := hrel
    by_cases hlt : j < ks.length
    · rcases hv with ⟨_, rfl⟩ | ⟨gb, cap', he, hgb, hgl, hcap, -⟩
      · simp at hlt
      injection he with he1 he2 he3
      subst he1
      have hmem : ks[j] ∈ ks := List.getElem_mem _
      have hsz : ks[j].size ≤ maxLen := HSZ.out _ ((H2.out.mem _).1 hmem)
      have c0 : wr.cell? ⟨gb, j, none⟩ = some (.string ks[j]) := by
        rw [HI.out.2.cell (p := ⟨gb, j, none⟩) hgl]
        obtain ⟨sp', cap', he', _, _, h3⟩ := H1.out.rd (fun _ => rfl)
        obtain ⟨h', off', h4, _, h6⟩ := h3 (by rintro rfl; simp at hlt)
        injection he' with he1 he2 he3
        subst he1
        injection h4 with h4
        injection h4 with h4 h5
        subst h4 h5
        have := h6 j 0 hlt (by omega)
        simpa [encS, hlt] using this
      have hbm := (HB.out.trans (HI.out.2.mono HB.out.size))
      have HDIR := Lib.hid (H.out.below hbm)
      have hcr := HDIR.out.1
      have hltr := HDIR.out.2.2.1
      have HES := Lib.hid (entsOf_succ g hlt)
      generalize ks[j] = sj at *
      generalize hq : (g sj).getD noEn = q at *
      have HQ := Lib.hid hq
      obtain ⟨q1, q2, q3⟩ := q
      have hj0 : (0 : Int) ≤ (j : Int) := by omega
      have hj1 : (j : Int) < (ks.length : Int) := by omega
      have HSZ := Lib.hid hsz
      have HBM := Lib.hid hbm
      have HOWN : Hid (SlEn (wr.alloc (.cells #[.string q1, .int .i64 q2, .int .i64 q3] 51)) w2.heap.size u3 (entsOf g (ks.take j))) := Lib.hid (HI.out.1.below (bl_alloc (Below.refl _ _) _))
      have RNEW : Hid (RdEn (wr.alloc (.cells #[.string q1, .int .i64 q2, .int .i64 q3] 51)) (.slice (some ⟨wr.heap.size, 0, none⟩) 1 1) [⟨q1, q2, q3⟩]) := Lib.hid (RdE.one (x := (⟨q1, q2, q3⟩ : En)) (Row.new wr 51 (encEl ⟨q1, q2, q3⟩)))
      have LE : Hid ((entsOf g (ks.take j)).length = j) := Lib.hid (by rw [entsOf_len, List.length_take]; omega)
      have KN : Hid (ks.length ≤ 1000000) := Lib.hid (by rw [H3.out]; exact hn)
      have HW : Hid (wrap64 ((j : Int) + 1) = ((j + 1 : Nat) : Int)) := Lib.hid (wrap_next (Nat.lt_of_lt_of_le hlt KN.out))
      have JM : Hid (j + 1 ≤ maxLen) := Lib.hid (app_max (Nat.lt_of_lt_of_le hlt KN.out))
      have JB : Hid ((j + 1) * 32 ≤ 140737488355328) := Lib.hid (app_bytes (by omega) (Nat.lt_of_lt_of_le hlt KN.out))
      have BS : Hid (w2.heap.size ≤ (wr.alloc (.cells #[.string q1, .int .i64 q2, .int .i64 q3] 51)).heap.size) := Lib.hid (Nat.le_trans HI.out.2.size (by simp))
      clear hq hmem hsz hbm
      go_wp2_with (first
        | (at_lookup; refine wpList_look rfl _ _ _ _ rfl (dir_look1 HDIR.out HSZ.out) ?_; rw [HQ.out]; unfold encE)
        | (at_builtin; refine wpList_app entT rfl _ _ rfl rfl HOWN.out rfl RNEW.out (by rw [LE.out]; exact JM.out) (by rw [LE.out]; exact JB.out) BS.out ?_; intro v' w' hs' ht'; have HS' := Lib.hid hs'; have HT' := Lib.hid ht'; clear hs' ht'))
      go_roundw
      case rel =>
        refine ⟨_, _, _, ⟨j + 1, by omega, rfl, Lib.hid ⟨?_, ?_⟩⟩, rfl, rfl, congrArg (Value.int .i64) HW.out⟩
        · rw [HES.out]; exact HS'.out
        · have hb := HT'.out.below (B := w2.heap.size) BS.out (fun x hx => (HOWN.out.lt x hx).1)
          exact (bl_alloc HI.out.2 _).trans hb
      case measure =>
        have hw := HW.out
        generalize wrap64 ((j : Int) + 1) = wv at hw ⊢
        subst hw
        simp only [intOf]
        omega
    · obtain rfl : j = ks.length := by omega
      go_wp2
      rw [← HP.out]
      have := HI.out.1
      rw [List.take_length] at this
      exact ⟨⟨_, ks, rfl, this.mono HB.out.size, H2.out, H3.out⟩, HB.out.trans (HI.out.2.mono HB.out.size)⟩
end Go.Proofs.YtjekpbkmhgfhoaaGreatDoor
end

section
/- A law's own directory beside its own blocks; the law's first. -/
namespace Go.Proofs.YtjekpbkmhgfhoaaGreatDoor
open Go Go.RowKit
set_option maxRecDepth 100000
set_option linter.unusedSimpArgs false
attribute [local go_sem] giv
variable {E : Nat → Addr} {B : Nat}

/-- A law's own directory: its blocks are from B on and not among L. -/
def DB (B : Nat) (L : List Nat) (w : World) (b : Nat) (g : ByteArray → Option En) (n : Nat) : Prop :=
  B ≤ w.heap.size ∧ (∀ x ∈ L, x < w.heap.size) ∧ ∃ m, DirAt w b m g n ∧ ∀ x, OwnD b m x → B ≤ x ∧ x ∉ L

section
variable {L : List Nat} {w w' : World} {b n : Nat} {g : ByteArray → Option En}
end

theorem nmSpecial_eq (s : ByteArray) : nmSpecial s = (s.data.toList == [46] || s.data.toList == [46, 46]) := by
  unfold nmSpecial
  rw [ByteArray.toList_eq]

end Go.Proofs.YtjekpbkmhgfhoaaGreatDoor
end
