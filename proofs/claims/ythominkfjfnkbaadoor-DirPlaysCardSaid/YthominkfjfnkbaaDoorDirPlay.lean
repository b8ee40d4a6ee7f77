/- What the law DirPlays keeps between its rounds: the directory, the list beside it, a copy. -/
import Derived.Test.YthominkfjfnkbaaDoorDirHave
import Derived.Test.YthominkfjfnkbaaDoorDirRef
import Derived.Test.YthominkfjfnkbaaDoorNameRef
import Derived.Test.YthominkfjfnkbaaDoorNodePlay
namespace Go.Proofs.YthominkfjfnkbaaDoor
open Go Go.RowKit
set_option maxRecDepth 100000
set_option linter.unusedSimpArgs false
variable {E : Nat → Addr} {B : Nat}

/-- A thing that a directory is told. -/
structure Do14 where
  kind : Int
  e : En
instance : Inhabited Do14 := ⟨⟨0, noEn⟩⟩
def encDo14 (d : Do14) : List Value := [.int .i64 d.kind, .string d.e.name, .int .i64 d.e.node, .int .i64 d.e.kind]
def okDo14 (_ : Do14) : Prop := True

theorem DB.sub {L L' : List Nat} {w : World} {b n : Nat} {g : ByteArray → Option En} (h : DB B L w b g n) (hs : ∀ x ∈ L', x ∈ L) : DB B L' w b g n := by
  obtain ⟨h1, h2, m, h3, h4⟩ := h
  exact ⟨h1, fun x hx => h2 x (hs x hx), m, h3, fun x hx => ⟨(h4 x hx).1, fun hl => (h4 x hx).2 (hs x hl)⟩⟩
theorem DB.add {L : List Nat} {w w' : World} {b n : Nat} {g : ByteArray → Option En} (h : DB B L w b g n) (hb : Below w.heap.size w w') (L2 : List Nat) (h2 : ∀ x ∈ L2, w.heap.size ≤ x ∧ x < w'.heap.size) : DB B (L2 ++ L) w' b g n := by
  obtain ⟨a1, a2, m, a3, a4⟩ := h
  refine ⟨Nat.le_trans a1 hb.size, fun x hx => ?_, m, a3.below hb, fun x hx => ⟨(a4 x hx).1, fun hl => ?_⟩⟩
  · rcases List.mem_append.1 hx with hx | hx
    · exact (h2 x hx).2
    · exact Nat.lt_of_lt_of_le (a2 x hx) hb.size
  · rcases List.mem_append.1 hl with hl | hl
    · have := (h2 x hl).1
      have := a3.own_lt x hx
      omega
    · exact (a4 x hx).2 hl
theorem DirAt.keepB {w w' : World} {b : Nat} {m : Option Nat} {g : ByteArray → Option En} {n : Nat} (h : DirAt w b m g n) (hs : w.heap.size ≤ w'.heap.size) (hk : ∀ x, OwnD b m x → w'.heap[x]? = w.heap[x]?) : DirAt w' b m g n := by
  obtain ⟨h1, h2, h3, h4⟩ := h
  have hb := hk b (.inl rfl)
  refine ⟨(World.cell?_of_block (a := ⟨b, 0, none⟩) hb).trans h1, (World.frozen?_of_block (a := ⟨b, 0, none⟩) hb).trans h2, Nat.lt_of_lt_of_le h3 hs, ?_⟩
  cases m with
  | none => exact h4
  | some r => exact ⟨h4.1, h4.2.keep (hk r (.inr rfl))⟩
theorem ownD_mem {b : Nat} {m : Option Nat} {x : Nat} : x ∈ ownL b m ↔ OwnD b m x := by
  unfold ownL OwnD
  cases m with
  | none => simp
  | some r => simp [eq_comm]

/-- Between two rounds. -/
structure PlayD (E : Nat → Addr) (B : Nat) (w0 w : World) (v : Value) (bt : Nat) (j : Nat) (hv : List En) (g : ByteArray → Option En) : Prop where
  db : DB w0.heap.size v.ownBlock.toList w bt g hv.length
  sl : SlEn w w0.heap.size v hv
  have' : HaveD hv g
  len : hv.length ≤ j
  sz : ∀ k, (g k).isSome = true → k.size ≤ maxLen
  env : Env E B w
  bel : Below w0.heap.size w0 w
  bl : B ≤ w0.heap.size

theorem PlayD.start {w0 w : World} {bt : Nat} (h : DB w0.heap.size [] w bt (fun _ => none) 0) (hE : Env E B w) (hb : Below w0.heap.size w0 w) (hB : B ≤ w0.heap.size) : PlayD E B w0 w (.slice none 0 0) bt 0 [] (fun _ => none) :=
  ⟨h, SlE.nil _ _ _ _ _, HaveD.nil, Nat.le_refl _, fun _ h => (by cases h), hE, hb, hB⟩

section
variable {w0 w w1 w2 w' : World} {v : Value} {bt : Nat} {j : Nat} {hv : List En} {g : ByteArray → Option En}
theorem PlayD.below (h : PlayD E B w0 w v bt j hv g) (hb : Below w.heap.size w w') : PlayD E B w0 w' v bt j hv g :=
  ⟨(h.db.below hb).1, h.sl.below hb, h.have', h.len, h.sz, h.env.below hb, h.bel.trans (hb.mono h.bel.size), h.bl⟩
theorem PlayD.next (h : PlayD E B w0 w v bt j hv g) : PlayD E B w0 w v bt (j + 1) hv g :=
  ⟨h.db, h.sl, h.have', Nat.le_succ_of_le h.len, h.sz, h.env, h.bel, h.bl⟩
/-- The directory has turned; the list has not. -/
theorem PlayD.turn {L : List Nat} (h : PlayD E B w0 w v bt j hv g) (hL : ∀ x ∈ v.ownBlock.toList, x ∈ L) {g' : ByteArray → Option En} {n' : Nat} (hn : DB w0.heap.size L w1 bt g' n') (hk : Kept w0.heap.size L w w1) :
    DB w0.heap.size v.ownBlock.toList w1 bt g' n' ∧ SlEn w1 w0.heap.size v hv ∧ Env E B w1 ∧ Below w0.heap.size w0 w1 := by
  exact ⟨hn.sub hL, h.sl.keepB fun x hx => hk.loc x (hL x (ownB_mem.2 hx)), h.env.keep (hk.below.mono h.bl), h.bel.trans hk.below⟩
theorem PlayD.stay {L : List Nat} (h : PlayD E B w0 w v bt j hv g) (hL : ∀ x ∈ v.ownBlock.toList, x ∈ L) (hn : DB w0.heap.size L w1 bt g hv.length) (hk : Kept w0.heap.size L w w1) : PlayD E B w0 w1 v bt j hv g := by
  obtain ⟨h1, h2, h3, h4⟩ := h.turn hL hn hk
  exact ⟨h1, h2, h.have', h.len, h.sz, h3, h4, h.bl⟩
/-- The directory has turned; a list made anew. -/
theorem PlayD.set {L : List Nat} (h : PlayD E B w0 w v bt j hv g) (hL : ∀ x ∈ v.ownBlock.toList, x ∈ L) {g' : ByteArray → Option En} {n' : Nat} (hn : DB w0.heap.size L w1 bt g' n') (hk : Kept w0.heap.size L w w1)
    (hb : Below w1.heap.size w1 w2) {u : Value} {hv' : List En} (hu : SlEn w2 w1.heap.size u hv') (hh : HaveD hv' g') (hlen : hv'.length = n') (hj : hv'.length ≤ j + 1) (hsz : ∀ k, (g' k).isSome = true → k.size ≤ maxLen) :
    PlayD E B w0 w2 u bt (j + 1) hv' g' := by
  obtain ⟨h1, h2, h3, h4⟩ := h.turn hL hn hk
  have hlt := hu.lt
  have h5 := (hn.add hb u.ownBlock.toList (fun x hx => hlt x (ownB_mem.1 hx))).sub (L' := u.ownBlock.toList) (fun x hx => List.mem_append_left _ hx)
  subst hlen
  exact ⟨h5, hu.mono h4.size, hh, hj, hsz, h3.below hb, h4.trans (hb.mono h4.size), h.bl⟩
theorem mem_upd_sz {g : ByteArray → Option En} {s : ByteArray} {e : En} (h : ∀ k, (g k).isSome = true → k.size ≤ maxLen) (hs : s.size ≤ maxLen) : ∀ k, (upd g s e k).isSome = true → k.size ≤ maxLen := by
  intro k hk
  unfold upd at hk
  by_cases hks : k = s
  · rw [hks]; exact hs
  · rw [if_neg hks] at hk; exact h k hk
theorem mem_del_sz {g : ByteArray → Option En} {s : ByteArray} (h : ∀ k, (g k).isSome = true → k.size ≤ maxLen) : ∀ k, (del g s k).isSome = true → k.size ≤ maxLen := by
  intro k hk
  unfold del at hk
  by_cases hks : k = s
  · rw [if_pos hks] at hk; cases hk
  · rw [if_neg hks] at hk; exact h k hk
/-- The directory has turned; an element of the list written where it is. -/
theorem PlayD.write {L : List Nat} (h : PlayD E B w0 w v bt j hv g) (hL : ∀ x ∈ v.ownBlock.toList, x ∈ L) {s : ByteArray} {a b : Int} (hn : DB w0.heap.size L w1 bt (upd g s ⟨s, a, b⟩) hv.length) (hk : Kept w0.heap.size L w w1)
    {gb : Nat} (hg : v.ownBlock = some gb) {i : Nat} {x : En} (hi : hv[i]? = some x) (hx : x.name = s) (hs : s.size ≤ maxLen) :
    PlayD E B w0 ((w1.setCell ⟨gb, i * 3 + 1, none⟩ (.int .i64 a)).setCell ⟨gb, i * 3 + 2, none⟩ (.int .i64 b)) v bt (j + 1) (hv.set i ⟨s, a, b⟩) (upd g s ⟨s, a, b⟩) := by
  obtain ⟨h1, h2, h3, h4⟩ := h.turn hL hn hk
  subst hx
  have hil : i < hv.length := (List.getElem?_eq_some_iff.1 hi).1
  have hgl := h2.lt gb hg
  have s1 := h2.set encEl_len hg hi (j := 1) (y := ⟨x.name, a, x.kind⟩) (u := .int .i64 a) (by omega) rfl
  have s2 := s1.set encEl_len hg (List.getElem?_set_self hil) (j := 2) (y := ⟨x.name, a, b⟩) (u := .int .i64 b) (by omega) rfl
  rw [List.set_set] at s2
  have hm : gb ∈ v.ownBlock.toList := ownB_mem.2 hg
  have hb1 : Below w0.heap.size w1 ((w1.setCell ⟨gb, i * 3 + 1, none⟩ (.int .i64 a)).setCell ⟨gb, i * 3 + 2, none⟩ (.int .i64 b)) := ((Below.refl _ w1).setCell (p := ⟨gb, i * 3 + 1, none⟩) hgl.1 _).setCell (p := ⟨gb, i * 3 + 2, none⟩) hgl.1 _
  refine ⟨?_, s2, h.have'.set hi rfl a b, ?_, mem_upd_sz h.sz hs, h3.keep (hb1.mono h.bl), h4.trans hb1, h.bl⟩
  · rw [List.length_set]
    exact (h1.set (p := ⟨gb, i * 3 + 1, none⟩) hm _).set (p := ⟨gb, i * 3 + 2, none⟩) hm _
  · rw [List.length_set]
    exact Nat.le_succ_of_le h.len
/-- The copy stays. -/
theorem cop_keepD {L : List Nat} {b : Nat} {m : Option Nat} {n : Nat} (h : DirAt w b m g n) (hL : ∀ x ∈ ownL b m, x ∈ L) (hk : Kept w0.heap.size L w w1) : DirAt w1 b m g n :=
  h.keepB hk.below.size fun x hx => hk.loc x (hL x (ownD_mem.2 hx))
theorem cop_setD {b : Nat} {m : Option Nat} {n : Nat} (h : DirAt w b m g n) {p : Addr} (hp : ∀ x ∈ ownL b m, x ≠ p.block) (u : Value) : DirAt (w.setCell p u) b m g n :=
  h.keepB (by simp) fun x hx => Below.heap_setCell _ _ _ _ (hp x (ownD_mem.2 hx))

theorem db_clone {L : List Nat} {b n : Nat} (h : DB B L w b g n) :
    Calls Tryd.prog 66 #[.pointer (some ⟨b, 0, none⟩)] w fun e w' =>
      (∃ b' m', e = .returned (.pointer (some ⟨b', 0, none⟩)) ∧ DirAt w' b' m' g n ∧ ∀ x ∈ ownL b' m', w.heap.size ≤ x ∧ x < w'.heap.size) ∧ Below w.heap.size w w' := by
  obtain ⟨_, _, m, h3, _⟩ := h
  exact (dclone_any h3).mono fun e w' ⟨⟨b', m', he, h1, h2⟩, hb⟩ => ⟨⟨b', m', he, h1, fun x hx => ⟨h2 x (ownD_mem.1 hx), h1.own_lt x (ownD_mem.1 hx)⟩⟩, hb⟩
theorem db_all' {L : List Nat} {b n : Nat} (h : DB B L w b g n) (hn : n ≤ 1000000) (hs : ∀ k, (g k).isSome = true → k.size ≤ maxLen) :
    Calls Tryd.prog 55 #[.pointer (some ⟨b, 0, none⟩)] w fun e w' =>
      (∃ v ks, e = .returned v ∧ SlEn w' w.heap.size v (entsOf g ks) ∧ SortedNames g ks ∧ ks.length = n) ∧ Below w.heap.size w w' := by
  obtain ⟨_, _, m, h3, _⟩ := h
  exact dall_any h3 hn hs
theorem db_get' {L : List Nat} {b n : Nat} (h : DB B L w b g n) {k : ByteArray} (hk : k.size ≤ maxLen) :
    Calls Tryd.prog 57 #[.pointer (some ⟨b, 0, none⟩), .string k] w fun e w' => e = .returned (.tuple #[encE ((g k).getD noEn), .bool (g k).isSome]) ∧ Below w.heap.size w w' := by
  obtain ⟨_, _, m, h3, _⟩ := h
  exact dget_any h3 hk
theorem db_from' {L : List Nat} {b n : Nat} (h : DB B L w b g n) (hn : n ≤ 1000000) (hs : ∀ k, (g k).isSome = true → k.size ≤ maxLen) (hnm : ∀ k e, g k = some e → e.name = k) (after : ByteArray) (num : Int) :
    Calls Tryd.prog 72 #[.pointer (some ⟨b, 0, none⟩), .string after, .int .i64 num] w fun e w' =>
      (∃ v ks, e = .returned (.tuple #[v, .bool (fromL (entsOf g ks) after num).2]) ∧ SlEn w' w.heap.size v (fromL (entsOf g ks) after num).1 ∧ SortedNames g ks ∧ ks.length = n) ∧ Below w.heap.size w w' := by
  obtain ⟨_, _, m, h3, _⟩ := h
  exact dfrom_any h3 hn hs hnm after num
end
end Go.Proofs.YthominkfjfnkbaaDoor
