/- The walk of the law DirTurns. -/
import Derived.Test.YthominkfjfnkbaaDoorTurn
import Derived.Test.YthominkfjfnkbaaDoorItoaS
namespace Go.Proofs.YthominkfjfnkbaaDoor
open Go Go.RowKit
set_option maxRecDepth 100000
set_option linter.unusedSimpArgs false
attribute [local go_sem] giv tx_leq
variable {E : Nat → Addr} {B : Nat}

theorem num_any {j : Nat} (hj : j < 100) (w : World) : Calls Tryd.prog 74 #[.int .i64 j] w fun e w' => e = .returned (.string ⟨(Lib.decDigits j).toArray⟩) ∧ w = w' := by
  go_enter Tryd.func74, Tryd.ntmps74
  go_wp2_with fail
  refine (Tryd.strconv_Itoa_small j hj w).mono ?_
  rintro e w2 ⟨rfl, rfl⟩
  go_wp2
  go_ret
  exact ⟨rfl, rfl⟩

theorem db_from {L : List Nat} {w : World} {b n : Nat} {g : ByteArray → Option En} (h : DB B L w b g n) (hn : n ≤ 1000000) (hs : ∀ k, (g k).isSome = true → k.size ≤ maxLen) (hnm : ∀ k e, g k = some e → e.name = k) (after : ByteArray) (num : Int) :
    Calls Tryd.prog 72 #[.pointer (some ⟨b, 0, none⟩), .string after, .int .i64 num] w fun e w' =>
      (∃ v ks, e = .returned (.tuple #[v, .bool (fromL (entsOf g ks) after num).2]) ∧ SlEn w' w.heap.size v (fromL (entsOf g ks) after num).1 ∧ SortedNames g ks ∧ ks.length = n) ∧ DB B L w' b g n ∧ Kept B L w w' := by
  have h' := h
  obtain ⟨h1, h2, m, h3, h4⟩ := h
  exact (dfrom_any h3 hn hs hnm after num).mono fun e w' ⟨he, hb⟩ => ⟨he, h'.below hb⟩

/-- Numbers of the first i turns. -/
def stepP (S i : Nat) (j : Nat) : Prop := ∃ i', i' < i ∧ j = i' * S % 31
theorem stepP_new {S i : Nat} (hS : S = 1 ∨ S = 7 ∨ S = 11 ∨ S = 13) (hi : i < 30) : ¬ stepP S i (i * S % 31) := by
  rintro ⟨i', h1, h2⟩
  rcases hS with rfl | rfl | rfl | rfl <;> omega

theorem num_anyB {j : Nat} (hj : j < 100) (w : World) : Calls Tryd.prog 74 #[.int .i64 j] w fun e w' => e = .returned (.string ⟨(Lib.decDigits j).toArray⟩) ∧ Below w.heap.size w w' :=
  (num_any hj w).mono fun _ _ ⟨h1, h2⟩ => ⟨h1, h2 ▸ Below.refl _ _⟩
theorem any_val {g : ByteArray → Option En} {p : Nat → Prop} (h : TurnG g p) {ks : List ByteArray} (hk : SortedNames g ks) {n : Nat} (hl : ks.length = n) : (fromL (entsOf g ks) ⟨#[]⟩ 0).2 = decide (0 < n) := by
  have hs := seen_new h n ks hk hl
  unfold fromL
  by_cases h0 : (((entsOf g ks).filter (behB ⟨#[]⟩)).length : Int) ≤ max 0 0
  · rw [if_pos h0]
    exact (decide_eq_false (by omega)).symm
  · rw [if_neg h0]
    exact (decide_eq_true (by omega)).symm
theorem rde_cells {α : Type} {w : World} {k : Nat} {enc : α → List Value} {xs : List α} {sp : Option Addr} {n cap : Nat} (r : RdE w k enc (.slice sp n cap) xs) {j : Nat} (hj : j < xs.length) :
    ∃ h off, sp = some ⟨h, off, none⟩ ∧ h < w.heap.size ∧ ∀ i, i < k → w.cell? ⟨h, off + j * k + i, none⟩ = (enc xs[j])[i]? := by
  obtain ⟨sp', cap', he, _, _, h3⟩ := r
  injection he with e1 e2 e3
  subst e1
  obtain ⟨h, off, h4, h5, h6⟩ := h3 (by rintro rfl; simp at hj)
  refine ⟨h, off, h4, h5, fun i hi => ?_⟩
  rw [h6 j i hj hi, List.getElem?_eq_getElem hj]; rfl
theorem num_fit {j : Nat} (hj : j < 100) : ¬ 9223372036854775807 < 1 + (Lib.decDigits j).length := by
  rw [decDigits_dig hj]
  unfold dig
  split <;> simp
theorem step_val {S i : Nat} (hS : S = 1 ∨ S = 7 ∨ S = 11 ∨ S = 13) (hi : i < 30) : (wrap64 ((i : Int) * (S : Int))).tmod 31 = ((i * S % 31 : Nat) : Int) := by
  have h : wrap64 ((i : Int) * (S : Int)) = ((i * S : Nat) : Int) := by
    rcases hS with rfl | rfl | rfl | rfl <;> · unfold wrap64; omega
  rw [h, Int.tmod_eq_emod_of_nonneg (by omega)]
  rfl

set_option maxHeartbeats 2000000 in
theorem dirturns_any (n step size : Int) (w : World) (hE : Env E B w) :
    Calls Tryd.prog 14 #[.int .i64 n, .int .i64 step, .int .i64 size] w fun e w' => e = .returned (.bool true) ∧ Below B w w' := by
  have hB := hE.size
  have HE := Lib.hid hE
  clear hE
  go_enter Tryd.func14, Tryd.ntmps14
  go_wp2_with fail
  refine (first14 _ HE.out).mono ?_
  rintro e w1 ⟨rfl, hb1⟩
  have HE1 := Lib.hid (HE.out.below hb1)
  have HB1 := Lib.hid (hb1.mono hB)
  clear hb1 HE
  go_wp2_with fail
  refine (number_any n 30 (by omega) _).mono ?_
  rintro e w2 ⟨rfl, rfl⟩
  obtain ⟨N, hN⟩ : ∃ N : Nat, n % 30 = N := ⟨(n % 30).toNat, by omega⟩
  have hN30 : N < 30 := by omega
  rw [hN]
  clear hN
  go_wp2_with fail
  refine (number_any size 7 (by omega) _).mono ?_
  rintro e w2 ⟨rfl, rfl⟩
  obtain ⟨Z, hZ⟩ : ∃ N : Int, size % 7 = N - 1 ∧ 1 ≤ N ∧ N ≤ 7 := ⟨size % 7 + 1, by omega, by omega, by omega⟩
  rw [hZ.1]
  have hZ1 := hZ.2
  clear hZ
  go_wp2_with fail
  have HEA := Lib.hid (HE1.out.alloc (.cells #[.int .i64 1, .int .i64 7, .int .i64 11, .int .i64 13] 3))
  refine (number_any step 4 (by omega) _).mono ?_
  rintro e w2 ⟨rfl, rfl⟩
  obtain ⟨q, hq⟩ : ∃ q : Nat, step % 4 = q := ⟨(step % 4).toNat, by omega⟩
  have hq4 : q < 4 := by omega
  rw [hq]
  clear hq
  go_wp2_with fail
  obtain ⟨S, hS, hSv⟩ : ∃ S : Nat, (S = 1 ∨ S = 7 ∨ S = 11 ∨ S = 13) ∧ ∀ h, ([Value.int .i64 1, Value.int .i64 7, Value.int .i64 11, Value.int .i64 13] : List Value)[q]'h = .int .i64 (S : Nat) := by
    match q, hq4 with
    | 0, _ => exact ⟨1, by simp, fun _ => rfl⟩
    | 1, _ => exact ⟨7, by simp, fun _ => rfl⟩
    | 2, _ => exact ⟨11, by simp, fun _ => rfl⟩
    | 3, _ => exact ⟨13, by simp, fun _ => rfl⟩
  rw [hSv]
  have HS := Lib.hid hS
  clear hS hSv
  have hD0 := DB.new (L := []) (w1.alloc (.cells #[.int .i64 1, .int .i64 7, .int .i64 11, .int .i64 13] 3)) HEA.out.size (by simp)
  rw [show (w1.alloc (.cells #[.int .i64 1, .int .i64 7, .int .i64 11, .int .i64 13] 3)).heap.size = w1.heap.size + 1 by simp] at hD0
  have HD0 := Lib.hid hD0
  have HE2 := Lib.hid (HEA.out.alloc (.cells #[.map none] 81))
  have HB2 := Lib.hid ((HB1.out.trans ((bl_alloc (Below.refl w1.heap.size w1) (.cells #[.int .i64 1, .int .i64 7, .int .i64 11, .int .i64 13] 3)).mono HE1.out.size)).trans ((bl_alloc (Below.refl _ (w1.alloc (.cells #[.int .i64 1, .int .i64 7, .int .i64 11, .int .i64 13] 3))) (.cells #[.map none] 81)).mono HEA.out.size))
  clear hD0 HE1 HB1 HEA hq4
  generalize (w1.alloc (.cells #[.int .i64 1, .int .i64 7, .int .i64 11, .int .i64 13] 3)).alloc (.cells #[.map none] 81) = w2 at *
  generalize w1.heap.size + 1 = bt at *
  go_loopw [9, 10] (fun v _ wr => ∃ (i : Nat) (g : ByteArray → Option En), i ≤ N ∧ v = .int .i64 (i : Nat) ∧ Hid (TurnG g (stepP S i)) ∧ Hid (DB B [] wr bt g i) ∧ Hid (Env E B wr) ∧ Hid (Below B w wr)) (fun v _ _ => N - (intOf v).toNat)
  case atStart => exact ⟨0, _, Nat.zero_le _, rfl, Lib.hid TurnG.new, HD0, HE2, HB2⟩
  case round =>
    obtain ⟨i, g, hi, rfl, HG, HD, HEr, HBr⟩ := hrel
    clear HD0 HE2 HB2
    by_cases hiN : i < N
    · have hv := step_val HS.out (show i < 30 by omega)
      have hnew := stepP_new HS.out (show i < 30 by omega)
      obtain ⟨j, hj⟩ : ∃ j, j = i * S % 31 := ⟨_, rfl⟩
      have hjin : stepP S (i + 1) j := ⟨i, by omega, hj⟩
      have hup : ∀ k, stepP S i k → stepP S (i + 1) k := fun k ⟨a, h1, h2⟩ => ⟨a, by omega, h2⟩
      rw [← hj] at hv hnew
      have hj31 : j < 31 := by omega
      have hcode := HG.out.code hj31 hnew
      have HG' := Lib.hid (HG.out.add hj31 hjin hup)
      have HC := Lib.hid hcode
      clear hcode hj hjin hup hnew HG
      go_wp2_with fail
      refine (num_any (by omega) wr).mono ?_
      rintro e w3 ⟨rfl, rfl⟩
      have hnn := nmN_num (show j < 100 by omega)
      have hfit := num_fit (show j < 100 by omega)
      go_wp2_with fail
      refine (db_add HD.out ⟨nmN j, (j : Int) + 2, 1⟩ HC.out HEr.out).mono ?_
      rintro e w4 ⟨rfl, hd, kp⟩
      have HD4 := Lib.hid hd
      have HE4 := Lib.hid (HEr.out.keep kp.below)
      have HB4 := Lib.hid (HBr.out.trans kp.below)
      clear hd kp HD HEr HBr HC hnn hfit hv
      go_wp2
      go_roundw
      case rel => exact ⟨i + 1, _, by omega, by go_num, HG', HD4, HE4, HB4⟩
      case measure => simp [intOf]; omega
    · have hiN2 : N = i := by omega
      subst hiN2
      clear hiN hi HS
      have hnm := HG.out.name
      have hsz := HG.out.size
      have hseen := seen_new HG.out N
      have HSZ := Lib.hid hsz
      have HNM := Lib.hid hnm
      have HSEEN := Lib.hid hseen
      clear hnm hsz hseen
      go_wp2_with fail
      go_loopw [11, 12, 13, 14, 15, 16] (fun a s r _ _ _ wx => ∃ (rn sn : Nat) (af : ByteArray), a = .string af ∧ s = .int .i64 (sn : Nat) ∧ r = .int .i64 (rn : Nat) ∧ rn ≤ sn ∧ sn ≤ N ∧ Hid (Seen g N af sn) ∧ Hid (DB B [] wx bt g N) ∧ Hid (Below B w wx)) (fun _ _ r _ _ _ _ => 40 - (intOf r).toNat)
      case atStart => exact ⟨0, 0, ⟨#[]⟩, rfl, rfl, rfl, Nat.le_refl _, Nat.zero_le _, HSEEN, HD, HBr⟩
      case round =>
        obtain ⟨rn, sn, af, rfl, rfl, rfl, hrs, hsn, HSE, HDx, HBx⟩ := hrel
        have hr40 : rn < 40 := by omega
        clear HSEEN HD HBr HEr
        go_wp2_with fail
        refine (db_from HDx.out (by omega) HSZ.out HNM.out af Z).mono ?_
        rintro e w5 ⟨⟨v, ks, rfl, hs, hk, hkl⟩, hd, kp⟩
        generalize hfl : fromL (entsOf g ks) af Z = fl at *
        obtain ⟨L, b⟩ := fl
        obtain ⟨hA, hb, hle, hpos, hse⟩ := turn_law HNM.out hk hkl HSE.out hZ1.1 hfl
        have hA2 : ∀ (k : Nat) x, L[k]? = some x → nmLt (lastN af L k) x.name ∧ ∃ j, j < 31 ∧ x = ⟨nmN j, (j : Int) + 2, 1⟩ := fun k x hx => ⟨(hA k x hx).1, HG.out.ent hk (hA k x hx).2⟩
        obtain ⟨sq, cq, hu, hcq⟩ := RdE.shape (hs.rd encEl_len)
        subst hu
        have HRD := Lib.hid (hs.rd encEl_len)
        have HA := Lib.hid hA2
        have HBB := Lib.hid hb
        have HPOS := Lib.hid hpos
        have HSE5 := Lib.hid hse
        have HD5 := Lib.hid hd
        have HB5 := Lib.hid (HBx.out.trans kp.below)
        clear hs hk hkl hd kp hfl hA hA2 hb hpos hse HSE HDx HBx
        simp only
        go_wp2_with fail
        go_loopw [11, 12, 16] (fun a s i wx => ∃ k : Nat, k ≤ L.length ∧ a = .string (lastN af L k) ∧ s = .int .i64 ((sn + k : Nat) : Int) ∧ i = .int .i64 (k : Nat) ∧ Hid (Below w5.heap.size w5 wx)) (fun _ _ i _ => L.length - (intOf i).toNat)
        case atStart => exact ⟨0, Nat.zero_le _, rfl, rfl, rfl, Lib.hid (Below.refl _ _)⟩
        case round =>
          obtain ⟨k, hk, rfl, rfl, rfl, HI⟩ := hrel
          by_cases hlt : k < L.length
          · obtain ⟨h, off, hsp, hh, hcs⟩ := rde_cells HRD.out hlt
            subst hsp
            have hHA := HA.out k L[k] (List.getElem?_eq_getElem hlt)
            have hnext : lastN af L (k + 1) = L[k].name := by
              show (L[k]?.map En.name).getD af = L[k].name
              rw [List.getElem?_eq_getElem hlt]; rfl
            have d0 := hcs 0 (by omega)
            have d1 := hcs 1 (by omega)
            clear hcs
            generalize L[k] = x at *
            obtain ⟨hx1, j, hj, rfl⟩ := hHA
            simp only [encEl, List.getElem?_cons_zero, List.getElem?_cons_succ, Nat.add_zero] at d0 d1 hx1 hnext
            have hleq : (Op.bytesLess (nmN j).toList (lastN af L k).toList || (nmN j).toList == (lastN af L k).toList) = false := by
              rw [leq_val, decide_eq_true (show (lastN af L k).data.toList < (nmN j).data.toList from hx1)]; rfl
            clear hx1
            have HNX := Lib.hid hnext
            clear hnext
            obtain ⟨y, hy⟩ : ∃ y : Int, y = (j : Int) + 2 := ⟨_, rfl⟩
            rw [← hy] at d1
            have hsub : IntKind.i64.wrap (y - 2) = (j : Int) := by rw [IntWalk.i64_in _ (by omega)]; omega
            have hsub2 : wrap64 (y - 2) = (j : Int) := by unfold wrap64; omega
            have hnn := nmN_num (show j < 100 by omega)
            have hfit := num_fit (show j < 100 by omega)
            have hk0 : (0 : Int) ≤ (k : Int) := by omega
            have hk1 : (k : Int) < (L.length : Int) := by omega
            have c0 : wr.cell? ⟨h, off + k * 3, none⟩ = some (.string (nmN j)) := (HI.out.cell (p := ⟨h, off + k * 3, none⟩) hh).trans d0
            have c1 : wr.cell? ⟨h, off + k * 3 + 1, none⟩ = some (.int .i64 y) := (HI.out.cell (p := ⟨h, off + k * 3 + 1, none⟩) hh).trans d1
            generalize haf : lastN af L k = ak at *
            clear d0 d1 haf hy
            go_wp2_with fail
            have S : ∀ w', Below wr.heap.size wr w' → w'.cell? ⟨h, off + k * 3, none⟩ = some (.string (nmN j)) ∧ w'.cell? ⟨h, off + k * 3 + 1, none⟩ = some (.int .i64 y) := by
              intro w' hb
              have hs := HI.out.size
              obtain ⟨hc, _⟩ := bcell hb
              exact ⟨(hc _ _ (by omega)).trans c0, (hc _ _ (by omega)).trans c1⟩
            clear c0 c1
            apply wp_region_rel _ (by kernel_rfl) (by kernel_rfl) (fun w' => Below wr.heap.size wr w') (fun w' w'' => Below w'.heap.size w' w'') (fun w' w'' h1 h2 => bl_trans h1 h2) (Below.refl _ _).drew
            repeat (first
              | (apply wpRel_skip (by rfl)
                 simp only [Act.put, List.setIfInBounds_toArray, List.set_cons_zero, List.set_cons_succ])
              | (apply wpRel_fix (by rfl)
                 · intro w' hC hf R hR
                   have hS := S w' hC
                   go_simp
                   exact hR _ (Below.refl _ _)
                 simp only [Act.put, List.setIfInBounds_toArray, List.set_cons_zero, List.set_cons_succ]))
            apply wpRel_fix (by rfl)
            · intro w' hC hf R hR
              go_simp
              (with_reducible refine (num_anyB (by omega) w').mono ?_)
              rintro e w'' ⟨rfl, hb⟩
              exact ⟨_, rfl, hR _ hb⟩
            simp only [Act.put, List.setIfInBounds_toArray, List.set_cons_zero, List.set_cons_succ]
            repeat (first
              | (apply wpRel_skip (by rfl)
                 simp only [Act.put, List.setIfInBounds_toArray, List.set_cons_zero, List.set_cons_succ])
              | (apply wpRel_fix (by rfl)
                 · intro w' hC hf R hR
                   have hS := S w' hC
                   go_simp
                   exact hR _ (Below.refl _ _)
                 simp only [Act.put, List.setIfInBounds_toArray, List.set_cons_zero, List.set_cons_succ]))
            refine wpRel_nil (fun w4 hC hf => ?_)
            have HI4 := Lib.hid (HI.out.trans (hC.mono HI.out.size))
            have c0 := (S w4 hC).1
            clear hC hf S hsub hsub2 hnn hfit hleq
            go_wp2
            go_roundw
            case rel => exact ⟨k + 1, by omega, by rw [HNX.out], by go_num, by go_num, HI4⟩
            case measure => simp [intOf]; omega
          · have hkL : k = L.length := by omega
            subst hkL
            clear hlt hk
            have HDw := Lib.hid (HD5.out.below (HI.out.mono (Nat.le_refl _))).1
            have HBw := Lib.hid (HB5.out.trans (HI.out.mono HD5.out.1))
            obtain ⟨s2, hs2⟩ : ∃ s2, s2 = sn + L.length := ⟨_, rfl⟩
            rw [← hs2] at HBB HSE5 hle ⊢
            have HRN : Hid (b = true → rn + 1 ≤ s2) := Lib.hid fun h => by have := HPOS.out h; omega
            clear HRD HA HPOS HD5 HB5 HI hs2
            generalize lastN af L L.length = af2 at *
            by_cases hm : s2 < N
            · have hb : b = true := by rw [HBB.out, decide_eq_true hm]
              subst hb
              have hrn := HRN.out rfl
              have hlti : ((s2 : Int) < (N : Int)) := by omega
              go_wp2
              go_roundw
              case rel => exact ⟨rn + 1, s2, af2, rfl, rfl, by go_num, hrn, hle, HSE5, HDw, HBw⟩
              case measure => simp [intOf]; omega
            · have hb : b = false := by rw [HBB.out, decide_eq_false hm]
              subst hb
              have hs2 : s2 = N := by omega
              subst hs2
              clear hm hle HRN HBB HSE5 hsn hrs
              go_wp2_with fail
              refine (db_from HDw.out (by omega) HSZ.out HNM.out ⟨#[]⟩ 0).mono ?_
              rintro e w6 ⟨⟨v, ks2, rfl, _, hk2, hkl2⟩, _, kp⟩
              rw [any_val HG.out hk2 hkl2]
              have HB6 := Lib.hid (HBw.out.trans kp.below)
              clear kp hk2 hkl2 HG HDw HBw
              simp only
              have hd : decide ((0 : Int) < (s2 : Int)) = decide (0 < s2) := decide_eq_decide.2 (by omega)
              go_wp2
              go_ret
              exact ⟨by simp, HB6.out⟩
end Go.Proofs.YthominkfjfnkbaaDoor
