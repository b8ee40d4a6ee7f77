/- The walk of the law DirOwn. -/
import Derived.Test.YthominkfjfnkbaaDoorDirLaw
namespace Go.Proofs.YthominkfjfnkbaaDoor
open Go Go.RowKit
set_option maxRecDepth 100000
set_option linter.unusedSimpArgs false
attribute [local go_sem] giv
variable {E : Nat → Addr} {B : Nat}

abbrev tA : ByteArray := { data := #[97] }
abbrev tB : ByteArray := { data := #[98] }
abbrev tC : ByteArray := { data := #[99] }
abbrev tO : ByteArray := { data := #[111, 116, 104, 101, 114] }
theorem szB : tB.size ≤ maxLen := by unfold maxLen; decide
theorem szC : tC.size ≤ maxLen := by unfold maxLen; decide
theorem szO : tO.size ≤ maxLen := by unfold maxLen; decide
theorem names_ab {V : Type} {g : ByteArray → Option V} {ks : List ByteArray} (h : SortedNames g ks) (hl : ks.length = 2) (hg : ∀ k, (g k).isSome = true → k = tA ∨ k = tB) : ks = [tA, tB] := by
  match ks, hl with
  | [x, y], _ =>
    have hx := hg x ((h.mem x).1 (by simp))
    have hy := hg y ((h.mem y).1 (by simp))
    have hr : nmLt x y := by have := h.rise; simpa using this
    rcases hx with rfl | rfl <;> rcases hy with rfl | rfl
    · exact absurd hr (by unfold nmLt; decide)
    · rfl
    · exact absurd hr (by unfold nmLt; decide)
    · exact absurd hr (by unfold nmLt; decide)

/-- The directory of the law: first, then with b set. -/
def gAB (n m k : Int) : ByteArray → Option En := fun s => if s = tA then some ⟨tA, n, 1⟩ else if s = tB then some ⟨tB, m, k⟩ else none
theorem ne_BA : tB ≠ tA := by intro h; have := congrArg ByteArray.data h; simp at this
theorem ne_CA : tC ≠ tA := by intro h; have := congrArg ByteArray.data h; simp at this
theorem ne_CB : tC ≠ tB := by intro h; have := congrArg ByteArray.data h; simp at this
theorem ne_OA : tO ≠ tA := by intro h; have := congrArg ByteArray.data h; simp at this
theorem ne_OB : tO ≠ tB := by intro h; have := congrArg ByteArray.data h; simp at this
theorem gAB_made (n : Int) : upd (upd (fun _ => none) tB (⟨tB, n, 1⟩ : En)) tA ⟨tA, n, 1⟩ = gAB n n 1 := by
  funext s
  simp only [upd, gAB]
theorem gAB_set (n m k m' k' : Int) : upd (gAB n m k) tB ⟨tB, m', k'⟩ = gAB n m' k' := by
  funext s
  simp only [upd, gAB]
  by_cases h : s = tB
  · subst h
    rw [if_pos rfl, if_neg ne_BA, if_pos rfl]
  · rw [if_neg h]
    by_cases h2 : s = tA
    · rw [if_pos h2, if_pos h2]
    · rw [if_neg h2, if_neg h2, if_neg h, if_neg h]
theorem gAB_a (n m k : Int) : gAB n m k tA = some ⟨tA, n, 1⟩ := by simp [gAB]
theorem gAB_b (n m k : Int) : gAB n m k tB = some ⟨tB, m, k⟩ := by unfold gAB; rw [if_neg ne_BA, if_pos rfl]
theorem gAB_no (n m k : Int) {s : ByteArray} (h1 : s ≠ tA) (h2 : s ≠ tB) : gAB n m k s = none := by simp only [gAB]; rw [if_neg h1, if_neg h2]
theorem gAB_mem (n m k : Int) (s : ByteArray) (h : (gAB n m k s).isSome = true) : s = tA ∨ s = tB := by
  by_cases h1 : s = tA
  · exact .inl h1
  · by_cases h2 : s = tB
    · exact .inr h2
    · rw [gAB_no _ _ _ h1 h2] at h; cases h
theorem gAB_ents (n m k : Int) : entsOf (gAB n m k) [tA, tB] = [⟨tA, n, 1⟩, ⟨tB, m, k⟩] := by
  simp only [entsOf, List.map_cons, List.map_nil, gAB_a, gAB_b, Option.getD_some]
theorem gAB_size (n m k : Int) (s : ByteArray) (h : (gAB n m k s).isSome = true) : s.size ≤ maxLen := by
  rcases gAB_mem n m k s h with rfl | rfl
  · unfold maxLen; decide
  · unfold maxLen; decide
theorem add_b (n : Int) (h : 1 ≤ n ∧ n ≤ 900) : addCode (fun _ => none) ⟨tB, n, 1⟩ = 0 := by
  have h1 : mayB ⟨tB, n, 1⟩ = true := by simp [mayB]; omega
  have h0 : nmCode tB = 0 := by decide
  simp [addCode, nmSpecial_eq, h1, h0]
theorem add_a (n : Int) (h : 1 ≤ n ∧ n ≤ 900) : addCode (upd (fun _ => none) tB (⟨tB, n, 1⟩ : En)) ⟨tA, n, 1⟩ = 0 := by
  have h1 : mayB ⟨tA, n, 1⟩ = true := by simp [mayB]; omega
  have h2 : upd (fun _ => none) tB (⟨tB, n, 1⟩ : En) tA = none := by simp only [upd]; rw [if_neg (Ne.symm ne_BA)]
  have h0 : nmCode tA = 0 := by decide
  simp [addCode, nmSpecial_eq, h1, h2, h0]
theorem add_b2 (n m : Int) (h : 1 ≤ m ∧ m ≤ 900) : addCode (gAB n n 1) ⟨tB, m, 1⟩ = 110 := by
  have h1 : mayB ⟨tB, m, 1⟩ = true := by simp [mayB]; omega
  have h0 : nmCode tB = 0 := by decide
  simp [addCode, nmSpecial_eq, h1, gAB_b, h0]

set_option maxHeartbeats 2000000 in
theorem dirown_any (n m kind : Int) (w : World) (hE : Env E B w) :
    Calls Tryd.prog 10 #[.int .i64 n, .int .i64 m, .int .i64 kind] w fun e w' => e = .returned (.bool true) ∧ Below B w w' := by
  have hB := hE.size
  have HE := Lib.hid hE
  clear hE
  go_enter Tryd.func10, Tryd.ntmps10
  go_wp2_with fail
  refine (first14 _ HE.out).mono ?_
  rintro e w1 ⟨rfl, hb1⟩
  have HE1 := Lib.hid (HE.out.below hb1)
  have HB1 := Lib.hid (hb1.mono hB)
  clear hb1 HE
  go_wp2_with fail
  refine (number_any n 900 (by omega) _).mono ?_
  rintro e w2 ⟨rfl, rfl⟩
  obtain ⟨N, hN⟩ : ∃ N : Int, n % 900 = N - 1 ∧ 1 ≤ N ∧ N ≤ 900 := ⟨n % 900 + 1, by omega, by omega, by omega⟩
  rw [hN.1]
  have hN1 := hN.2
  clear hN
  go_wp2_with fail
  refine (number_any m 900 (by omega) _).mono ?_
  rintro e w2 ⟨rfl, rfl⟩
  obtain ⟨M, hM⟩ : ∃ N : Int, m % 900 = N - 1 ∧ 1 ≤ N ∧ N ≤ 900 := ⟨m % 900 + 1, by omega, by omega, by omega⟩
  rw [hM.1]
  have hM1 := hM.2
  clear hM
  go_wp2_with fail
  refine (number_any kind 3 (by omega) _).mono ?_
  rintro e w2 ⟨rfl, rfl⟩
  obtain ⟨K, hK⟩ : ∃ N : Int, kind % 3 = N - 1 ∧ 1 ≤ N ∧ N ≤ 3 := ⟨kind % 3 + 1, by omega, by omega, by omega⟩
  rw [hK.1]
  have hK1 := hK.2
  clear hK
  go_wp2_with fail
  have HD0 := Lib.hid (DB.new (L := []) w1 HE1.out.size (by simp))
  have HE2 := Lib.hid (HE1.out.alloc (.cells #[.map none] 81))
  have HB2 := Lib.hid (HB1.out.trans ((bl_alloc (Below.refl w1.heap.size w1) (.cells #[.map none] 81)).mono HE1.out.size))
  clear HE1 HB1
  generalize w1.heap.size = bt at *
  generalize w1.alloc (.cells #[.map none] 81) = w2 at *
  have hz : ∀ {e : En}, encE e = .agg #[.string e.name, .int .i64 e.node, .int .i64 e.kind] := rfl
  refine (db_add HD0.out ⟨tB, N, 1⟩ (add_b N hN1) HE2.out).mono ?_
  rintro e w3 ⟨rfl, hd, kp⟩
  have HD3 := Lib.hid hd
  have HE3 := Lib.hid (HE2.out.keep kp.below)
  have HB3 := Lib.hid (HB2.out.trans kp.below)
  clear hd kp HD0 HE2 HB2
  go_wp2_with fail
  refine (db_add HD3.out ⟨tA, N, 1⟩ (add_a N hN1) HE3.out).mono ?_
  rintro e w4 ⟨rfl, hd, kp⟩
  rw [gAB_made] at hd
  have HD4 := Lib.hid hd
  have HE4 := Lib.hid (HE3.out.keep kp.below)
  have HB4 := Lib.hid (HB3.out.trans kp.below)
  clear hd kp HD3 HE3 HB3
  go_wp2_with fail
  refine (db_add_no HD4.out ⟨tB, M, 1⟩ szB (by rw [add_b2 N M hM1]; decide) HE4.out).mono ?_
  rintro e w5 ⟨rfl, hd, kp⟩
  rw [add_b2 N M hM1]
  have HD5 := Lib.hid hd
  have HE5 := Lib.hid (HE4.out.keep kp.below)
  have HB5 := Lib.hid (HB4.out.trans kp.below)
  clear hd kp HD4 HE4 HB4
  generalize her : errOf E 110 = er
  have HER := Lib.hid her
  clear her
  go_wp2_with fail
  refine (db_all HD5.out (by simp) (gAB_size N N 1)).mono ?_
  rintro e w6 ⟨⟨v, ks, rfl, hs, hk, hkl⟩, hx, hd, kp⟩
  obtain rfl := names_ab hk hkl (gAB_mem N N 1)
  rw [gAB_ents] at hs
  have hes := Lib.hid hs
  rcases hs.cases with ⟨rfl, h0⟩ | ⟨gb, cap, rfl, hg1, hg2, hc1, hc2⟩
  · cases h0
  have hd6 := hx gb hg1 hg2
  have HD6 := Lib.hid hd6
  have HE6 := Lib.hid (HE5.out.keep kp.below)
  have HB6 := Lib.hid (HB5.out.trans kp.below)
  obtain ⟨sp', cap', he', _, _, h3⟩ := hes.out.rd encEl_len
  obtain ⟨h', off', h4, _, h6⟩ := h3 (by simp)
  injection he' with he1 he2 he3
  subst he1
  injection h4 with h4
  injection h4 with h4 h5
  subst h4 h5
  have q0 : w6.cell? ⟨gb, 0, none⟩ = some (.string tA) := by have := h6 0 0 (by simp) (by omega); simpa [encEl] using this
  have q1 : w6.cell? ⟨gb, 4, none⟩ = some (.int .i64 N) := by have := h6 1 1 (by simp) (by omega); simpa [encEl] using this
  have f0 := hes.out.froz rfl 0
  have f1 := hes.out.froz rfl 4
  have HGB : Hid (B ≤ gb) := Lib.hid (Nat.le_trans HE5.out.size hg1)
  clear hx hd kp HD5 HE5 HB5 hs hk hkl hd6 h6 h3 hes he2 he3 hc1 hc2
  simp only [List.length_cons, List.length_nil, Nat.zero_add, Nat.reduceAdd]
  go_wp2_with fail
  have hb7 : Below B w6 ((w6.setCell ⟨gb, 0, none⟩ (.string { data := #[122] })).setCell ⟨gb, 4, none⟩ (.int .i64 7)) := ((Below.refl B w6).setCell (p := ⟨gb, 0, none⟩) HGB.out _).setCell (p := ⟨gb, 4, none⟩) HGB.out _
  have HD7 := Lib.hid ((HD6.out.set (p := ⟨gb, 0, none⟩) (by simp) (.string { data := #[122] })).set (p := ⟨gb, 4, none⟩) (by simp) (.int .i64 7))
  have HE7 := Lib.hid (HE6.out.keep hb7)
  have HB7 := Lib.hid (HB6.out.trans hb7)
  clear hb7 HD6 HE6 HB6 q0 q1 f0 f1 hg1 hg2
  generalize (w6.setCell ⟨gb, 0, none⟩ (.string { data := #[122] })).setCell ⟨gb, 4, none⟩ (.int .i64 7) = w7 at *
  refine (db_set HD7.out szB ⟨tO, M, K⟩ (by rw [gAB_b]; rfl) (by simp [mayB]; omega)).mono ?_
  rintro e w8 ⟨rfl, hd, kp⟩
  rw [gAB_set] at hd
  have HD8 := Lib.hid hd
  have HE8 := Lib.hid (HE7.out.keep kp.below)
  have HB8 := Lib.hid (HB7.out.trans kp.below)
  clear hd kp HD7 HE7 HB7
  go_wp2_with fail
  refine (db_set_no HD8.out szC ⟨tC, M, K⟩ (.inl (gAB_no _ _ _ ne_CA ne_CB))).mono ?_
  rintro e w9 ⟨rfl, hd, kp⟩
  have HD9 := Lib.hid hd
  have HE9 := Lib.hid (HE8.out.keep kp.below)
  have HB9 := Lib.hid (HB8.out.trans kp.below)
  clear hd kp HD8 HE8 HB8
  go_wp2_with fail
  refine (db_get HD9.out szB).mono ?_
  rintro e w10 ⟨rfl, hd, kp⟩
  rw [gAB_b]
  simp only [Option.getD_some, Option.isSome_some, encE]
  have HD10 := Lib.hid (hd.loc (.cells #[.string tB, .int .i64 M, .int .i64 K] 84))
  have HE10 := Lib.hid ((HE9.out.keep kp.below).alloc (.cells #[.string tB, .int .i64 M, .int .i64 K] 84))
  have HB10 := Lib.hid ((HB9.out.trans kp.below).trans ((bl_alloc (Below.refl w10.heap.size w10) (.cells #[.string tB, .int .i64 M, .int .i64 K] 84)).mono hd.1))
  have x0 : (w10.alloc (.cells #[.string tB, .int .i64 M, .int .i64 K] 84)).cell? ⟨w10.heap.size, 0, none⟩ = some (.string tB) := by simp
  have x1 : (w10.alloc (.cells #[.string tB, .int .i64 M, .int .i64 K] 84)).cell? ⟨w10.heap.size, 1, none⟩ = some (.int .i64 M) := by simp
  have x2 : (w10.alloc (.cells #[.string tB, .int .i64 M, .int .i64 K] 84)).cell? ⟨w10.heap.size, 2, none⟩ = some (.int .i64 K) := by simp
  have LX : Hid (w10.heap.size < (w10.alloc (.cells #[.string tB, .int .i64 M, .int .i64 K] 84)).heap.size) := Lib.hid (by simp)
  have X := Lib.hid (And.intro x0 (And.intro x1 x2))
  clear hd kp HD9 HE9 HB9 x0 x1 x2
  go_wp2_with fail
  generalize w10.heap.size = bx at *
  generalize w10.alloc (.cells #[.string tB, .int .i64 M, .int .i64 K] 84) = w11 at *
  refine (db_get HD10.out szO).mono ?_
  rintro e w12 ⟨rfl, hd, kp⟩
  rw [gAB_no _ _ _ ne_OA ne_OB]
  simp only [Option.getD_none, Option.isSome_none, encE, noEn]
  have HD12 := Lib.hid hd
  have HE12 := Lib.hid (HE10.out.keep kp.below)
  have HB12 := Lib.hid (HB10.out.trans kp.below)
  have x0 := (kp.cell (x := bx) (by simp) 0).trans X.out.1
  have x1 := (kp.cell (x := bx) (by simp) 1).trans X.out.2.1
  have x2 := (kp.cell (x := bx) (by simp) 2).trans X.out.2.2
  have X12 := Lib.hid (And.intro x0 (And.intro x1 x2))
  have LX12 : Hid (bx < w12.heap.size) := Lib.hid (Nat.lt_of_lt_of_le LX.out kp.below.size)
  clear hd kp HD10 HE10 HB10 x0 x1 x2 X LX
  have HD13 := Lib.hid (HD12.out.below (bl_alloc (Below.refl _ _) (.cells #[.string { data := #[] }, .int .i64 0, .int .i64 0] 84))).1
  have HE13 := Lib.hid (HE12.out.alloc (.cells #[.string { data := #[] }, .int .i64 0, .int .i64 0] 84))
  have HB13 := Lib.hid (HB12.out.trans ((bl_alloc (Below.refl w12.heap.size w12) (.cells #[.string { data := #[] }, .int .i64 0, .int .i64 0] 84)).mono HE12.out.size))
  go_wp2_with fail
  rw [← HER.out]
  refine (is_of 110 110 (by omega) _ HE13.out).mono ?_
  rintro e w14 ⟨rfl, hb⟩
  have hbw := (bl_alloc (Below.refl w12.heap.size w12) (.cells #[.string { data := #[] }, .int .i64 0, .int .i64 0] 84)).trans (hb.mono (by simp))
  have HD14 := Lib.hid (HD12.out.below hbw).1
  have HB14 := Lib.hid (HB12.out.trans (hbw.mono HE12.out.size))
  have HBB : Hid (B ≤ w14.heap.size) := Lib.hid (Nat.le_trans HE12.out.size hbw.size)
  obtain ⟨hc, _⟩ := bcell hbw
  have y0 := (hc _ 0 LX12.out).trans X12.out.1
  have y1 := (hc _ 1 LX12.out).trans X12.out.2.1
  have y2 := (hc _ 2 LX12.out).trans X12.out.2.2
  have hlx : bx < w14.heap.size := Nat.lt_of_lt_of_le LX12.out hbw.size
  clear hb hbw hc HD12 HE12 HB12 HD13 HE13 HB13 X12 LX12 HER
  simp only [BEq.rfl]
  go_wp2_with fail
  refine (db_len HD14.out).mono ?_
  rintro e w15 ⟨rfl, rfl⟩
  go_wp2_with fail
  refine (db_all HD14.out (by simp) (gAB_size N M K)).mono ?_
  rintro e w15 ⟨⟨v, ks, rfl, hs, hk, hkl⟩, hx, hd, kp⟩
  obtain rfl := names_ab hk hkl (gAB_mem N M K)
  rw [gAB_ents] at hs
  have HV := Lib.hid (hs.rd encEl_len)
  have HB15 := Lib.hid (HB14.out.trans kp.below)
  have HBC : Hid (B ≤ w15.heap.size) := Lib.hid (Nat.le_trans HBB.out kp.below.size)
  clear hs hk hkl hx hd kp HD14 HB14 HBB y0 y1 y2
  go_wp2_with fail
  have HR := Lib.hid (RdE.ofRow (k := 3) (xs := [(⟨tA, N, 1⟩ : En), ⟨tB, M, K⟩]) (Row.new w15 84 (flat encEl [(⟨tA, N, 1⟩ : En), ⟨tB, M, K⟩])) encEl_len)
  have HW := Lib.hid (HV.out.below (bl_alloc (Below.refl _ _) (.cells (flat encEl [(⟨tA, N, 1⟩ : En), ⟨tB, M, K⟩]).toArray 84)))
  refine (sameentrys_any HW.out HR.out (by simp)).mono ?_
  rintro e w16 ⟨rfl, hb⟩
  have HB16 := Lib.hid (HB15.out.trans ((bl_alloc (Below.refl w15.heap.size w15) (.cells (flat encEl [(⟨tA, N, 1⟩ : En), ⟨tB, M, K⟩]).toArray 84)).mono HBC.out |>.trans (hb.mono (by have := HBC.out; simp; omega))))
  clear hb HR HW HV
  simp only [decide_true]
  go_wp2
  go_ret
  exact ⟨by simp, HB16.out⟩
end Go.Proofs.YthominkfjfnkbaaDoor
