/- A body among other blocks of a law's own. -/
import Derived.Test.YtjmbilbkmcebeaaDoorBodyLaw
import Derived.Test.YtjmbilbkmcebeaaDoorBodyList
namespace Go.Proofs.YtjmbilbkmcebeaaDoor
open Go Go.RowKit
set_option maxRecDepth 100000
set_option linter.unusedSimpArgs false
variable {E : Nat → Addr} {B : Nat}

theorem MapAt.keys {P : Program} {kt : TypeId} {K V : Type} {eK : K → Value} {eV : V → Value} {w : World} {r n : Nat} {g : K → Option V} {t et : TypeId} (h : MapAt P kt eK eV w r g n) (ht : P.underlying t = some (.map kt et)) (hinj : ∀ a b, eK a = eK b → a = b) :
    ∃ ks : List K, KeysOf g ks n := by
  obtain ⟨w', ks, _, h1, h2, h3, _⟩ := h.range ht hinj
  obtain ⟨es, clock, since, seen, c0, _, _, _, _, _, _, _, _, h9, _⟩ := h1
  exact ⟨ks, h9, h2, h3⟩
theorem nodup_len {K : Type} [DecidableEq K] : ∀ {ks L : List K}, ks.Nodup → (∀ k ∈ ks, k ∈ L) → ks.length ≤ L.length
  | [], _, _, _ => Nat.zero_le _
  | k :: ks, L, hn, hs => by
    obtain ⟨h1, h2⟩ := List.nodup_cons.1 hn
    have hk := hs k (List.mem_cons_self ..)
    have h3 := nodup_len (L := L.erase k) h2 fun x hx => (List.mem_erase_of_ne (fun e : x = k => h1 (by rw [← e]; exact hx))).2 (hs x (List.mem_cons_of_mem _ hx))
    rw [List.length_erase_of_mem hk] at h3
    have := List.length_pos_of_mem hk
    simp
    omega
theorem KeysOf.le {K V : Type} [DecidableEq K] {g : K → Option V} {ks : List K} {n : Nat} (h : KeysOf g ks n) {L : List K} (hL : ∀ k, (g k).isSome = true → k ∈ L) : n ≤ L.length := by
  rw [← h.len]
  exact nodup_len h.nodup fun k hk => hL k ((h.mem k).1 hk)
theorem KeysOf.len_eq {K V : Type} {g : K → Option V} {ks : List K} {n : Nat} (h : KeysOf g ks n) {L : List K} (hd : L.Nodup) (hL : ∀ k, k ∈ L ↔ (g k).isSome = true) : ks.length = L.length :=
  ((List.perm_ext_iff_of_nodup h.nodup hd).2 fun k => (h.mem k).trans (hL k).symm).length_eq

theorem SlE.shape {α : Type} {w : World} {base : Nat} {e : TypeId} {k : Nat} {enc : α → List Value} {v : Value} {xs : List α} (h : SlE w base e k enc v xs) : ∃ sp cap, v = .slice sp xs.length cap := by
  rcases h.cases with ⟨rfl, rfl⟩ | ⟨g, cap, rfl, _⟩
  · exact ⟨_, _, rfl⟩
  · exact ⟨_, _, rfl⟩
theorem nodup_len_eq {K : Type} [DecidableEq K] {a b : List K} (ha : a.Nodup) (hb : b.Nodup) (h : ∀ k, k ∈ a ↔ k ∈ b) : a.length = b.length :=
  Nat.le_antisymm (nodup_len ha fun k hk => (h k).1 hk) (nodup_len hb fun k hk => (h k).2 hk)
/-- b is a body (its maps m, d) that has g, with gd dirty; its blocks lie from B on; they, and its blocks' bytes, are none of L. -/
structure BX (B : Nat) (L : List Nat) (w : World) (b m d : Nat) (g : Cl → Option (Option (List Int))) (gd : Cl → Option Int) : Prop where
  hB : B ≤ w.heap.size
  hL : ∀ x ∈ L, x < w.heap.size
  at' : ∃ n k, BodyAt w (fun x => x = b ∨ x = m ∨ x = d ∨ x ∈ L) b m d g gd n k
  own : ∀ x, x = b ∨ x = m ∨ x = d → B ≤ x ∧ x < w.heap.size ∧ x ∉ L

section
variable {L : List Nat} {w w' : World} {b m d : Nat} {g : Cl → Option (Option (List Int))} {gd : Cl → Option Int}
theorem BX.below (h : BX B L w b m d g gd) (hb : Below w.heap.size w w') : BX B L w' b m d g gd := by
  obtain ⟨h1, h2, ⟨n, k, h3⟩, h4⟩ := h
  exact ⟨Nat.le_trans h1 hb.size, fun x hx => Nat.lt_of_lt_of_le (h2 x hx) hb.size, ⟨n, k, h3.below hb⟩, fun x hx => ⟨(h4 x hx).1, Nat.lt_of_lt_of_le (h4 x hx).2.1 hb.size, (h4 x hx).2.2⟩⟩
/-- Where others of L turn. -/
theorem BX.touch {S : Nat → Prop} (h : BX B L w b m d g gd) (ht : Touch S w w') (hS : ∀ x, S x → x ∈ L) : BX B L w' b m d g gd := by
  obtain ⟨h1, h2, ⟨n, k, h3⟩, h4⟩ := h
  refine ⟨Nat.le_trans h1 ht.size, fun x hx => Nat.lt_of_lt_of_le (h2 x hx) ht.size, ⟨n, k, h3.touch ht fun x hx => ⟨.inr (.inr (.inr (hS x hx))), ?_, ?_, ?_⟩⟩, fun x hx => ⟨(h4 x hx).1, Nat.lt_of_lt_of_le (h4 x hx).2.1 ht.size, (h4 x hx).2.2⟩⟩
  · rintro rfl; exact (h4 x (.inl rfl)).2.2 (hS x hx)
  · rintro rfl; exact (h4 x (.inr (.inl rfl))).2.2 (hS x hx)
  · rintro rfl; exact (h4 x (.inr (.inr rfl))).2.2 (hS x hx)
/-- New blocks of the law's own. -/
theorem BX.add (h : BX B L w b m d g gd) (hb : Below w.heap.size w w') (L2 : List Nat) (h2 : ∀ x ∈ L2, w.heap.size ≤ x ∧ x < w'.heap.size) : BX B (L2 ++ L) w' b m d g gd := by
  obtain ⟨a1, a2, ⟨n, k, a3⟩, a4⟩ := h
  refine ⟨Nat.le_trans a1 hb.size, fun x hx => ?_, ⟨n, k, (a3.more (fun x hx => ?_) (fun x hx => ?_)).below hb⟩, fun x hx => ⟨(a4 x hx).1, Nat.lt_of_lt_of_le (a4 x hx).2.1 hb.size, fun hl => ?_⟩⟩
  · rcases List.mem_append.1 hx with hx | hx
    · exact (h2 x hx).2
    · exact Nat.lt_of_lt_of_le (a2 x hx) hb.size
  · rcases hx with hx | hx | hx | hx
    · exact .inl (.inl hx)
    · exact .inl (.inr (.inl hx))
    · exact .inl (.inr (.inr (.inl hx)))
    · rcases List.mem_append.1 hx with hx | hx
      · exact .inr (h2 x hx).1
      · exact .inl (.inr (.inr (.inr hx)))
  · rcases hx with hx | hx | hx | hx
    · exact .inl hx
    · exact .inr (.inl hx)
    · exact .inr (.inr (.inl hx))
    · exact .inr (.inr (.inr (List.mem_append_right _ hx)))
  · rcases List.mem_append.1 hl with hl | hl
    · have := (h2 x hl).1
      have := (a4 x hx).2.1
      omega
    · exact (a4 x hx).2.2 hl
theorem BX.less {L' : List Nat} (h : BX B L w b m d g gd) (hs : ∀ x ∈ L', x ∈ L) : BX B L' w b m d g gd := by
  obtain ⟨a1, a2, ⟨n, k, a3⟩, a4⟩ := h
  refine ⟨a1, fun x hx => a2 x (hs x hx), ⟨n, k, a3.less (fun x hx => ?_) (.inl rfl) (.inr (.inl rfl)) (.inr (.inr (.inl rfl)))⟩, fun x hx => ⟨(a4 x hx).1, (a4 x hx).2.1, fun hl => (a4 x hx).2.2 (hs x hl)⟩⟩
  rcases hx with hx | hx | hx | hx
  · exact .inl hx
  · exact .inr (.inl hx)
  · exact .inr (.inr (.inl hx))
  · exact .inr (.inr (.inr (hs x hx)))
theorem BX.mono {B' : Nat} (h : BX B L w b m d g gd) (hB : B' ≤ B) : BX B' L w b m d g gd := ⟨Nat.le_trans hB h.hB, h.hL, h.at', fun x hx => ⟨Nat.le_trans hB (h.own x hx).1, (h.own x hx).2⟩⟩

/-- What a turn of the body leaves. -/
def BXOut (B : Nat) (L : List Nat) (b m d : Nat) (g : Cl → Option (Option (List Int))) (gd : Cl → Option Int) (w w' : World) : Prop :=
  BX B L w' b m d g gd ∧ Touch (fun x => x = b ∨ x = m ∨ x = d) w w'
theorem BX.out {g' : Cl → Option (Option (List Int))} {gd' : Cl → Option Int} (h : BX B L w b m d g gd) (ho : BodyOut (fun x => x = b ∨ x = m ∨ x = d ∨ x ∈ L) b m d g' gd' w w') : BXOut B L b m d g' gd' w w' := by
  obtain ⟨h1, h2⟩ := ho
  have ht : Touch (fun x => x = b ∨ x = m ∨ x = d) w w' := h2.mono fun x hx _ => .inr hx
  exact ⟨⟨Nat.le_trans h.hB ht.size, fun x hx => Nat.lt_of_lt_of_le (h.hL x hx) ht.size, h1, fun x hx => ⟨(h.own x hx).1, Nat.lt_of_lt_of_le (h.own x hx).2.1 ht.size, (h.own x hx).2.2⟩⟩, ht⟩
theorem BXOut.kept (h : BX B L w b m d g gd) {g' : Cl → Option (Option (List Int))} {gd' : Cl → Option Int} (ho : BXOut B L b m d g' gd' w w') : Kept B L w w' :=
  Kept.of_touch ho.2 h.hB h.hL fun x hx => ⟨(h.own x hx).1, (h.own x hx).2.2⟩
theorem BX.kept (h : BX B L w b m d g gd) (hb : Below w.heap.size w w') : Kept B L w w' := Kept.of_below hb h.hB h.hL
theorem BX.olt (h : BX B L w b m d g gd) : ∀ x, (x = b ∨ x = m ∨ x = d ∨ x ∈ L) → x < w.heap.size := by
  rintro x (hx | hx | hx | hx)
  · exact (h.own x (.inl hx)).2.1
  · exact (h.own x (.inr (.inl hx))).2.1
  · exact (h.own x (.inr (.inr hx))).2.1
  · exact h.hL x hx

theorem bx_new (w : World) (L : List Nat) (hL : ∀ x ∈ L, x < w.heap.size) (hB : B ≤ w.heap.size) : Calls Tryd.prog 15 #[] w fun e w' =>
    (∃ b m d, e = .returned (.pointer (some ⟨b, 0, none⟩)) ∧ BX B L w' b m d (fun _ => none) (fun _ => none) ∧ w.heap.size ≤ b ∧ w.heap.size ≤ m ∧ w.heap.size ≤ d) ∧ Below w.heap.size w w' := by
  refine (bnew_any w (fun x => w.heap.size ≤ x ∨ x ∈ L) (fun _ h => .inl h)).mono ?_
  rintro e w' ⟨rfl, hb, hbel⟩
  refine ⟨⟨_, _, _, rfl, ⟨Nat.le_trans hB hbel.size, fun x hx => Nat.lt_of_lt_of_le (hL x hx) hbel.size, ⟨0, 0, hb.less (fun x hx => ?_) (.inl rfl) (.inr (.inl rfl)) (.inr (.inr (.inl rfl)))⟩, fun x hx => ⟨by omega, ?_, fun hl => by have := hL x hl; omega⟩⟩, by omega, by omega, by omega⟩, hbel⟩
  · rcases hx with hx | hx | hx | hx
    · exact .inl (by omega)
    · exact .inl (by omega)
    · exact .inl (by omega)
    · exact .inr hx
  · have := hb.lt; have := hb.ltm; have := hb.ltd; omega

variable {c : Cl}
theorem bx_has (h : BX B L w b m d g gd) (h1 : In64 c.1) (h2 : In64 c.2) : Calls Tryd.prog 19 #[.pointer (some ⟨b, 0, none⟩), .agg #[.int .i64 c.1, .int .i64 c.2]] w fun e w' => e = .returned (.bool (g c).isSome) ∧ Below w.heap.size w w' := by
  obtain ⟨n, k, h3⟩ := h.at'
  exact bhas_any h3 h1 h2
theorem bx_set (h : BX B L w b m d g gd) (hok : cellOk c) {sp : Option Addr} {cap : Nat} {l : List Int} (hl : l.length ≤ 256) (hin : SlIn w sp l) :
    Calls Tryd.prog 16 #[.pointer (some ⟨b, 0, none⟩), .agg #[.int .i64 c.1, .int .i64 c.2], .slice sp l.length cap] w fun e w' =>
      e = .returned .nilIface ∧ BXOut B L b m d (upd g c (some (pad l))) (upd gd c 1) w w' := by
  obtain ⟨n, k, h3⟩ := h.at'
  exact (bset_ok h3 hok hl hin h.olt).mono fun e w' ⟨he, ho⟩ => ⟨he, h.out ho⟩
theorem bx_lose_no (h : BX B L w b m d g gd) (h1 : In64 c.1) (h2 : In64 c.2) (hg : g c = none) :
    Calls Tryd.prog 18 #[.pointer (some ⟨b, 0, none⟩), .agg #[.int .i64 c.1, .int .i64 c.2]] w fun e w' => e = .returned (.bool false) ∧ Below w.heap.size w w' := by
  obtain ⟨n, k, h3⟩ := h.at'
  exact blose_no h3 h1 h2 hg
theorem bx_lose (h : BX B L w b m d g gd) (h1 : In64 c.1) (h2 : In64 c.2) {o : Option (List Int)} (hg : g c = some o) :
    Calls Tryd.prog 18 #[.pointer (some ⟨b, 0, none⟩), .agg #[.int .i64 c.1, .int .i64 c.2]] w fun e w' => e = .returned (.bool true) ∧ BXOut B L b m d (upd g c none) (del gd c) w w' := by
  obtain ⟨n, k, h3⟩ := h.at'
  exact (blose_ok h3 h1 h2 hg).mono fun e w' ⟨he, ho⟩ => ⟨he, h.out ho⟩
theorem bx_del_no (h : BX B L w b m d g gd) (h1 : In64 c.1) (h2 : In64 c.2) (hg : g c = none) :
    Calls Tryd.prog 24 #[.pointer (some ⟨b, 0, none⟩), .agg #[.int .i64 c.1, .int .i64 c.2]] w fun e w' => e = .returned (.bool false) ∧ Below w.heap.size w w' := by
  obtain ⟨n, k, h3⟩ := h.at'
  exact bdel_no h3 h1 h2 hg
theorem bx_del (h : BX B L w b m d g gd) (h1 : In64 c.1) (h2 : In64 c.2) {o : Option (List Int)} (hg : g c = some o) :
    Calls Tryd.prog 24 #[.pointer (some ⟨b, 0, none⟩), .agg #[.int .i64 c.1, .int .i64 c.2]] w fun e w' => e = .returned (.bool true) ∧ BXOut B L b m d (del g c) (upd gd c 1) w w' := by
  obtain ⟨n, k, h3⟩ := h.at'
  exact (bdel_ok h3 h1 h2 hg).mono fun e w' ⟨he, ho⟩ => ⟨he, h.out ho⟩
theorem bx_get_none (h : BX B L w b m d g gd) (h1 : In64 c.1) (h2 : In64 c.2) (hg : g c = none) :
    Calls Tryd.prog 25 #[.pointer (some ⟨b, 0, none⟩), .agg #[.int .i64 c.1, .int .i64 c.2]] w fun e w' =>
      (∃ v, e = .returned (.tuple #[v, .nilIface]) ∧ RdB w' v (pad [])) ∧ Below w.heap.size w w' := by
  obtain ⟨n, k, h3⟩ := h.at'
  refine (bget_none h3 h1 h2 hg).mono ?_
  rintro e w' ⟨⟨h', cap, rfl, _, hb⟩, hbel⟩
  exact ⟨⟨_, rfl, by rw [pad_nil]; exact RdB.of_buf' hb (by rw [List.length_replicate])⟩, hbel⟩
theorem bx_get_some (h : BX B L w b m d g gd) (h1 : In64 c.1) (h2 : In64 c.2) {l : List Int} (hg : g c = some (some l)) (hl : l.length = 256) :
    Calls Tryd.prog 25 #[.pointer (some ⟨b, 0, none⟩), .agg #[.int .i64 c.1, .int .i64 c.2]] w fun e w' =>
      (∃ v, e = .returned (.tuple #[v, .nilIface]) ∧ RdB w' v l) ∧ Below w.heap.size w w' := by
  obtain ⟨n, k, h3⟩ := h.at'
  refine (bget_some h3 h1 h2 hg).mono ?_
  rintro e w' ⟨⟨h', cap, rfl, _, hb⟩, hbel⟩
  exact ⟨⟨_, rfl, RdB.of_buf' hb hl⟩, hbel⟩
theorem bx_get_lost (h : BX B L w b m d g gd) (h1 : In64 c.1) (h2 : In64 c.2) (hg : g c = some none) (hE : Env E B w) :
    Calls Tryd.prog 25 #[.pointer (some ⟨b, 0, none⟩), .agg #[.int .i64 c.1, .int .i64 c.2]] w fun e w' => e = .returned (.tuple #[.slice none 0 0, errV E 5]) ∧ Below w.heap.size w w' := by
  obtain ⟨n, k, h3⟩ := h.at'
  exact bget_lost h3 h1 h2 hg hE
theorem bx_clean (h : BX B L w b m d g gd) :
    Calls Tryd.prog 20 #[.pointer (some ⟨b, 0, none⟩)] w fun e w' => e = .returned (.tuple #[]) ∧ ∃ d', BX B L w' b m d' g (fun _ => none) ∧ w.heap.size ≤ d' ∧ Touch (fun x => x = b) w w' := by
  obtain ⟨n, k, h3⟩ := h.at'
  refine (bclean_any h3 h.olt).mono ?_
  rintro e w' ⟨rfl, hb, ht⟩
  refine ⟨rfl, w.heap.size, ⟨Nat.le_trans h.hB ht.size, fun x hx => Nat.lt_of_lt_of_le (h.hL x hx) ht.size, ⟨n, 0, hb.less (fun x hx => ?_) (.inl rfl) (.inr (.inl rfl)) (.inr (.inr (.inl rfl)))⟩, fun x hx => ?_⟩, Nat.le_refl _, ht⟩
  · rcases hx with hx | hx | hx | hx
    · exact .inl (.inl hx)
    · exact .inl (.inr (.inl hx))
    · exact .inr hx
    · exact .inl (.inr (.inr (.inr hx)))
  · have h1 := hb.lt; have h2 := hb.ltm; have h3 := hb.ltd
    rcases hx with rfl | rfl | rfl
    · exact ⟨(h.own x (.inl rfl)).1, h1, (h.own x (.inl rfl)).2.2⟩
    · exact ⟨(h.own x (.inr (.inl rfl))).1, h2, (h.own x (.inr (.inl rfl))).2.2⟩
    · exact ⟨h.hB, h3, fun hl => absurd (h.hL _ hl) (Nat.lt_irrefl _)⟩
theorem bx_clone (h : BX B L w b m d g gd) :
    Calls Tryd.prog 28 #[.pointer (some ⟨b, 0, none⟩)] w fun e w' =>
      (∃ b' m' d', e = .returned (.pointer (some ⟨b', 0, none⟩)) ∧ BX B (b :: m :: d :: L) w' b' m' d' g gd ∧ w.heap.size ≤ b' ∧ w.heap.size ≤ m' ∧ w.heap.size ≤ d') ∧ Below w.heap.size w w' := by
  obtain ⟨n, k, h3⟩ := h.at'
  refine (bclone_any h3).mono ?_
  rintro e w' ⟨⟨b', m', d', rfl, e1, e2, e3, hb⟩, hbel⟩
  refine ⟨⟨b', m', d', rfl, ⟨Nat.le_trans h.hB hbel.size, fun x hx => ?_, ⟨n, k, hb.less (fun x hx => ?_) (.inl rfl) (.inr (.inl rfl)) (.inr (.inr (.inl rfl)))⟩, fun x hx => ?_⟩, e1, e2, e3⟩, hbel⟩
  · refine Nat.lt_of_lt_of_le (h.olt x ?_) hbel.size
    simpa [List.mem_cons] using hx
  · rcases hx with hx | hx | hx | hx
    · exact .inr (by omega)
    · exact .inr (by omega)
    · exact .inr (by omega)
    · exact .inl (by simpa [List.mem_cons] using hx)
  · have h4 : w.heap.size ≤ x := by omega
    refine ⟨Nat.le_trans h.hB h4, ?_, fun hl => ?_⟩
    · have := hb.lt; have := hb.ltm; have := hb.ltd; omega
    · have := h.olt x (by simpa [List.mem_cons] using hl); omega
theorem bx_dirty (h : BX B L w b m d g gd) {S : List Cl} (hS : ∀ c, (gd c).isSome = true → c ∈ S) (hl : S.length ≤ 1000000) :
    Calls Tryd.prog 17 #[.pointer (some ⟨b, 0, none⟩)] w fun e w' =>
      (∃ v zs, e = .returned v ∧ zs.Nodup ∧ (∀ c, c ∈ zs ↔ (gd c).isSome = true) ∧ zs.Pairwise cLt ∧ SlE w' w.heap.size 39 2 encK v zs ∧ zs.length ≤ S.length) ∧ Below w.heap.size w w' := by
  obtain ⟨n, k, h3⟩ := h.at'
  obtain ⟨ks, hk⟩ := h3.dirty.keys Tryd.underlying105 encC_inj
  have hk2 := hk.le hS
  refine (bdirty_any h3 (by omega)).mono ?_
  rintro e w' ⟨⟨v, zs, rfl, h4, h5, h6⟩, hb⟩
  exact ⟨⟨v, zs, rfl, h4.nodup, h4.mem, h5, h6, by rw [h4.len]; exact hk2⟩, hb⟩
theorem BX.hasN (h : BX B L w b m d g gd) {S : List Cl} (hS : ∀ c, (g c).isSome = true → c ∈ S) : ∃ n k, BodyAt w (fun x => x = b ∨ x = m ∨ x = d ∨ x ∈ L) b m d g gd n k ∧ n ≤ S.length := by
  obtain ⟨n, k, h3⟩ := h.at'
  obtain ⟨gv, h4, h5⟩ := h3.has
  obtain ⟨ks, hk⟩ := h4.keys Tryd.underlying104 encC_inj
  refine ⟨n, k, h3, hk.le fun c hc => hS c ?_⟩
  rcases h5 c with ⟨e1, _⟩ | ⟨v, o, e1, e2, _⟩
  · rw [e1] at hc; cases hc
  · rw [e2]; rfl
theorem bx_lost (h : BX B L w b m d g gd) {S : List Cl} (hS : ∀ c, (g c).isSome = true → c ∈ S) (hl : S.length ≤ 1000000) :
    Calls Tryd.prog 21 #[.pointer (some ⟨b, 0, none⟩)] w fun e w' =>
      (∃ v zs, e = .returned v ∧ zs.Nodup ∧ (∀ c, c ∈ zs ↔ isLost g c = true) ∧ zs.Pairwise cLt ∧ SlE w' w.heap.size 39 2 encK v zs ∧ zs.length ≤ S.length) ∧ Below w.heap.size w w' := by
  obtain ⟨n, k, h3, h4⟩ := h.hasN hS
  refine (blost_any h3 (by omega)).mono ?_
  rintro e w' ⟨⟨v, zs, rfl, h5, h6, h7, h8, h9⟩, hb⟩
  exact ⟨⟨v, zs, rfl, h5, h6, h7, h8, Nat.le_trans h9 h4⟩, hb⟩
theorem bx_of (h : BX B L w b m d g gd) {S : List Cl} (hS : ∀ c, (g c).isSome = true → c ∈ S) (hl : S.length ≤ 1000000) (nd : Int) :
    Calls Tryd.prog 23 #[.pointer (some ⟨b, 0, none⟩), .int .i64 nd] w fun e w' =>
      (∃ v zs, e = .returned v ∧ (∀ i, i ∈ zs ↔ (g (nd, i)).isSome = true) ∧ zs.Pairwise (· < ·) ∧ SlE w' w.heap.size 3 1 encI1 v zs ∧ zs.length ≤ S.length) ∧ Below w.heap.size w w' := by
  obtain ⟨n, k, h3, h4⟩ := h.hasN hS
  refine (bof_any h3 (by omega) nd).mono ?_
  rintro e w' ⟨⟨v, zs, rfl, h5, h6, h7, h8⟩, hb⟩
  exact ⟨⟨v, zs, rfl, h5, h6, h7, Nat.le_trans h8 h4⟩, hb⟩
end

set_option maxHeartbeats 1000000 in
theorem samecell_any (x y : Cl) (w : World) : Calls Tryd.prog 22 #[.agg #[.int .i64 x.1, .int .i64 x.2], .agg #[.int .i64 y.1, .int .i64 y.2]] w fun e w' => e = .returned (.bool (decide (x = y))) ∧ Below w.heap.size w w' := by
  obtain ⟨x1, x2⟩ := x
  obtain ⟨y1, y2⟩ := y
  have hfin : decide (((x1, x2) : Cl) = (y1, y2)) = (x1 == y1 && x2 == y2) := by
    rw [Bool.eq_iff_iff]
    simp [Prod.ext_iff]
  rw [hfin]
  clear hfin
  have hbel : Below w.heap.size w ((w.alloc (.cells #[.int .i64 x1, .int .i64 x2] 39)).alloc (.cells #[.int .i64 y1, .int .i64 y2] 39)) := bl_alloc (bl_alloc (Below.refl _ _) _) _
  have HB := Lib.hid hbel
  clear hbel
  cases h1 : (x1 == y1)
  · go_enter Tryd.func22, Tryd.ntmps22
    go_wp2
    go_ret
    exact ⟨rfl, HB.out⟩
  · go_enter Tryd.func22, Tryd.ntmps22
    go_wp2
    go_ret
    exact ⟨rfl, HB.out⟩
end Go.Proofs.YtjmbilbkmcebeaaDoor
