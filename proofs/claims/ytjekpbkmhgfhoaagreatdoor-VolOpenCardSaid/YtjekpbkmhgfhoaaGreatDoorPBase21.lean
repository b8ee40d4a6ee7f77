/- Merged texts: DirFrom DirMore DirHave Tree TreeActs TreeAt TreeStep TreeIo TreePut. -/
import Derived.Test.YtjekpbkmhgfhoaaGreatDoorPBase19
import Derived.Test.YtjekpbkmhgfhoaaGreatDoorPBase17
import Derived.Test.YtjekpbkmhgfhoaaGreatDoorPBase09
import Derived.Laws.CopyRow
import Derived.Test.YtjekpbkmhgfhoaaGreatDoorPBase13
import Derived.Shelf.SlMaps.Clone
import Derived.Test.YtjekpbkmhgfhoaaGreatDoorPBase18
import Derived.Test.YtjekpbkmhgfhoaaGreatDoorPBase20
import Derived.Test.YtjekpbkmhgfhoaaGreatDoorPBase08
section
/- The walks of package dir: From, by slices.DeleteFunc and slices.Clone at entries. -/
namespace Go.Proofs.YtjekpbkmhgfhoaaGreatDoor
open Go Go.RowKit
set_option maxRecDepth 100000
set_option linter.unusedSimpArgs false
theorem tx_leq (t : TypeId) (a b : ByteArray) : binOp .leq t (.string a) (.string b) = pure (.bool (Op.bytesLess a.toList b.toList || a.toList == b.toList)) := by simp [binOp, Op.stringOp]
attribute [local go_sem] giv tx_leq
variable {E : Nat → Addr} {B : Nat}

/-- Is an entry behind a name? -/
def behB (s : ByteArray) (e : En) : Bool := decide (s.data.toList < e.name.data.toList)
/-- The list in the midst of DeleteFunc: c are gone from its head. -/
def midL (l : List En) (c j : Nat) : List En := (l.drop c).take (j - c) ++ l.drop (j - c)
theorem SlE.ne {α : Type} {w : World} {base : Nat} {e : TypeId} {k : Nat} {enc : α → List Value} {v : Value} {xs : List α} (h : SlE w base e k enc v xs) (hx : xs ≠ []) : ∃ g cap, v = .slice (some ⟨g, 0, none⟩) xs.length cap ∧ base ≤ g ∧ g < w.heap.size ∧ xs.length ≤ cap := by
  rcases h.cases with ⟨_, h2⟩ | ⟨g, cap, h1, h2, h3, h4, _⟩
  · exact (hx h2).elim
  · exact ⟨g, cap, h1, h2, h3, h4⟩

/-- The first entries behind a name; are there more? -/
def fromL (l : List En) (after : ByteArray) (num : Int) : List En × Bool :=
  if ((l.filter (behB after)).length : Int) ≤ max num 0 then (l.filter (behB after), false) else ((l.filter (behB after)).take num.toNat, true)

end Go.Proofs.YtjekpbkmhgfhoaaGreatDoor
end

section
/- The walks that the law DirPlays needs: find, right, maps.Clone and Clone of package dir. -/
namespace Go.Proofs.YtjekpbkmhgfhoaaGreatDoor
open Go Go.RowKit
set_option maxRecDepth 100000
set_option linter.unusedSimpArgs false
attribute [local go_sem] giv tx_leq
variable {E : Nat → Addr} {B : Nat}

/-- A name's place among entries; -1. -/
def findI : List En → ByteArray → Nat → Int
  | [], _, _ => -1
  | x :: l, s, i => if x.name = s then (i : Int) else findI l s (i + 1)
theorem mclone_e {w : World} {r n : Nat} {g : ByteArray → Option En} (h : EMap w r g n) : Calls Tryz.prog 204 #[.map (some r)] w fun e w' =>
    e = .returned (.map (some w.heap.size)) ∧ EMap w' w.heap.size g n ∧ Below w.heap.size w w' ∧ w'.heap.size = w.heap.size + 1 := by
  obtain ⟨es, clk, _, hb, hc⟩ := h.copy
  have hq := fun w => run_eql_map_nil_sl (P := Tryz.prog) w 188 _ _ (some r) Tryz.underlying188
  clear h
  go_enter Tryz.func204, Tryz.ntmps204
  go_wp2
  rw [run_callFunc_extern Tryz.func170 (by kernel_rfl) (by kernel_rfl) (by kernel_rfl) (e := Extern.MapsClone.clone) (by kernel_rfl), run_maps_clone_sl w 188 hb]
  simp only [Result.andThen]
  rw [Oper.upon_value]
  go_wp2
  rw [run_typeAssert_map_sl _ 188 _ _ _ _ Tryz.underlying188]
  simp only [Result.andThen]
  rw [Oper.upon_value]
  go_wp2
  go_ret
  exact ⟨rfl, hc w, bl_alloc (Below.refl _ _) _, by simp⟩
theorem mclone_e0 (w : World) : Calls Tryz.prog 204 #[.map none] w fun e w' =>
    e = .returned (.map none) ∧ w = w' := by
  have hq := fun w => run_eql_map_nil_sl (P := Tryz.prog) w 188 _ _ none Tryz.underlying188
  go_enter Tryz.func204, Tryz.ntmps204
  go_wp2
  go_ret
  exact ⟨rfl, rfl⟩

/-- A directory of its own, which has the same. -/
theorem dclone_any {w : World} {b : Nat} {m : Option Nat} {g : ByteArray → Option En} {n : Nat} (h : DirAt w b m g n) :
    Calls Tryz.prog 169 #[.pointer (some ⟨b, 0, none⟩)] w fun e w' =>
      (∃ b' m', e = .returned (.pointer (some ⟨b', 0, none⟩)) ∧ DirAt w' b' m' g n ∧ ∀ x, OwnD b' m' x → w.heap.size ≤ x) ∧ Below w.heap.size w w' := by
  generalize hP : (fun (e : Ending) (w' : World) => (∃ b' m', e = .returned (.pointer (some ⟨b', 0, none⟩)) ∧ DirAt w' b' m' g n ∧ ∀ x, OwnD b' m' x → w.heap.size ≤ x) ∧ Below w.heap.size w w') = Post
  have HP := Lib.hid hP
  clear hP
  have H := Lib.hid h
  have s0 := H.out.1
  have hlt := H.out.2.2.1
  clear h
  cases m with
  | none =>
    go_enter Tryz.func169, Tryz.ntmps169
    go_wp2_with fail
    refine (mclone_e0 _).mono ?_
    rintro e w1 ⟨rfl, rfl⟩
    go_wp2
    rw [← HP.out]
    have r := Row.new w 190 [.map none]
    refine ⟨⟨w.heap.size, none, rfl, ⟨(r.cell 0 : _), (r.froz 0 : _), (r.lt : _), H.out.2.2.2⟩, ?_⟩, bl_alloc (Below.refl _ _) _⟩
    rintro x (rfl | h)
    · exact Nat.le_refl _
    · cases h
  | some r =>
    have HM := Lib.hid H.out.2.2.2.2
    go_enter Tryz.func169, Tryz.ntmps169
    go_wp2_with fail
    refine (mclone_e HM.out).mono ?_
    rintro e w1 ⟨rfl, hv1, hb1, hs1⟩
    have HV1 := Lib.hid hv1
    have HB1 := Lib.hid hb1
    have HS1 := Lib.hid hs1
    clear hv1 hb1 hs1
    go_wp2
    rw [← HP.out]
    have hs1 : w1.heap.size = w.heap.size + 1 := HS1.out
    have r := Row.new w1 190 [.map (some w.heap.size)]
    have hm1 : EMap w1 w.heap.size g n := HV1.out
    refine ⟨⟨_, some w.heap.size, rfl, ⟨(r.cell 0 : _), (r.froz 0 : _), (r.lt : _), by omega, hm1.alloc _⟩, ?_⟩, bl_alloc HB1.out _⟩
    rintro x (rfl | h)
    · omega
    · injection h with h
      omega
end Go.Proofs.YtjekpbkmhgfhoaaGreatDoor
end

section
/- A list of entries by their names, as law 14 keeps it, against a directory's function. -/
namespace Go.Proofs.YtjekpbkmhgfhoaaGreatDoor
open Go
set_option maxRecDepth 100000

/-- Law 14's list stands for a directory. -/
structure HaveD (l : List En) (g : ByteArray → Option En) : Prop where
  rise : l.Pairwise (fun a b => nmLt a.name b.name)
  get : ∀ k x, g k = some x ↔ x ∈ l ∧ x.name = k

section
variable {l : List En} {g : ByteArray → Option En} (h : HaveD l g)
include h
end
end Go.Proofs.YtjekpbkmhgfhoaaGreatDoor
end

section
/- Trees in plain words: paths, where they lead, the acts; what holds of every tree. No program in sight. -/
namespace Go.Proofs.YtjekpbkmhgfhoaaGreatDoor
set_option maxRecDepth 100000
set_option linter.unusedSimpArgs false
set_option linter.unusedVariables false

instance (a b : ByteArray) : Decidable (nmLt a b) := inferInstanceAs (Decidable (a.data.toList < b.data.toList))
theorem nmSpecial_eq' (s : ByteArray) : nmSpecial s = (s.data.toList == [46] || s.data.toList == [46, 46]) := nmSpecial_eq s
/-! ### paths -/
/-- A path: its parts; does a slash stand behind them? -/
structure Pth where
  parts : List ByteArray
  slash : Bool
def noPth : Pth := ⟨[], false⟩
/-- Cut at each slash. -/
def cuts : List UInt8 → List (List UInt8)
  | [] => [[]]
  | c :: l => if c = 47 then [] :: cuts l else match cuts l with
    | [] => [[c]]
    | x :: r => (c :: x) :: r
/-- The parts that are some; none: one is too long. -/
def partsOf : List (List UInt8) → Option (List ByteArray)
  | [] => some []
  | x :: l => if x = [] ∨ x = [46] then partsOf l else if 24 < x.length then none else (partsOf l).map (⟨x.toArray⟩ :: ·)
def lastSlash (l : List UInt8) : Bool := match l.getLast? with
  | some c => c == 47
  | none => false
def parseP (s : ByteArray) : Int × Pth :=
  if s.data.toList = [] then (109, noPth) else if 256 < s.size then (115, noPth) else
  if s.data.toList.head? ≠ some 47 ∨ s.data.toList.contains 0 then (114, noPth) else
  match partsOf (cuts s.data.toList) with
  | none => (115, noPth)
  | some ps => (0, ⟨ps, !ps.isEmpty && lastSlash s.data.toList⟩)
def dots : List UInt8 := [46, 46]
def isUp (p : ByteArray) : Bool := p.data.toList == dots
def splitP (p : Pth) : Int × List ByteArray × ByteArray := match p.parts.getLast? with
  | none => (114, [], noText)
  | some x => if isUp x then (114, [], noText) else (0, p.parts.dropLast, x)

/-! ### trees -/
structure NR where
  nd : Nd
  ents : List En
structure St where
  last : Int
  ns : List NR
def St.get (s : St) (id : Int) : Option NR := s.ns.find? fun x => x.nd.id == id
def St.isDir (s : St) (id : Int) : Bool := match s.get id with
  | some r => r.nd.kind == 2
  | none => false
def entOf (l : List En) (n : ByteArray) : Option En := l.find? fun e => e.name.data.toList == n.data.toList
def St.dirOf (s : St) (id : Int) : Option (List En) := match s.get id with
  | some r => if r.nd.kind = 2 then some r.ents else none
  | none => none
def St.entry (s : St) (id : Int) (n : ByteArray) : Option En := (s.dirOf id).bind fun l => entOf l n
def upOf (n : Nd) : Int := if n.id = 1 then 1 else n.parent

def goParts (s : St) (follow slash : Bool) (next : ByteArray → Int → List ByteArray → Int × Int) : List ByteArray → Int → Int × Int
  | [], at' => if slash && !s.isDir at' then (111, 0) else (0, at')
  | p :: ps, at' => match s.get at' with
    | none => (111, 0)
    | some d => if d.nd.kind ≠ 2 then (111, 0) else
      if isUp p then goParts s follow slash next ps (upOf d.nd) else
      match entOf d.ents p with
      | none => (109, 0)
      | some e => match s.get e.node with
        | none => (109, 0)
        | some x => if x.nd.kind ≠ 3 ∨ (ps = [] ∧ follow = false ∧ slash = false) then goParts s follow slash next ps e.node
          else next x.nd.target at' ps
def tgtOf (t : ByteArray) (at' : Int) : (Int × Pth) × Int :=
  if t.data.toList.head? = some 47 then (parseP t, 1) else (parseP ⟨(47 :: t.data.toList).toArray⟩, at')
def goH (s : St) (follow slash : Bool) : Nat → List ByteArray → Int → Int × Int
  | 0 => goParts s follow slash fun _ _ _ => (116, 0)
  | h + 1 => goParts s follow slash fun t at' ps =>
    let q := tgtOf t at'
    if q.1.1 ≠ 0 then (q.1.1, 0) else goH s follow slash h (q.1.2.parts ++ ps) q.2
def toP (s : St) (p : Pth) (follow : Bool) : Int × Int := goH s follow p.slash 4 p.parts 1
structure Fnd where
  dir : Int
  node : Int
  name : ByteArray
def noFnd : Fnd := ⟨0, 0, noText⟩
def lastP (s : St) (p : Pth) : Int × Fnd :=
  let q := splitP p
  if q.1 ≠ 0 then (q.1, noFnd) else
  let t := toP s ⟨q.2.1, false⟩ true
  if t.1 ≠ 0 then (t.1, noFnd) else
  match s.dirOf t.2 with
  | none => (111, noFnd)
  | some l => match entOf l q.2.2 with
    | none => (0, ⟨t.2, 0, q.2.2⟩)
    | some e => if p.slash && !s.isDir e.node then (111, noFnd) else (0, ⟨t.2, e.node, q.2.2⟩)

/-! ### what turns a tree -/
def putN (n : Nd) : List NR → List NR
  | [] => [⟨n, []⟩]
  | r :: l => if n.id < r.nd.id then ⟨n, []⟩ :: r :: l else if n.id = r.nd.id then ⟨n, if n.kind = 2 ∧ r.nd.kind = 2 then r.ents else []⟩ :: l else r :: putN n l
def St.put (s : St) (n : Nd) : St := ⟨max s.last n.id, putN n s.ns⟩
def insE (e : En) : List En → List En
  | [] => [e]
  | x :: l => if nmLt e.name x.name then e :: x :: l else x :: insE e l
def onR (id : Int) (f : List En → List En) (l : List NR) : List NR := l.map fun r => if r.nd.id = id then ⟨r.nd, f r.ents⟩ else r
def St.addE (s : St) (d : Int) (e : En) : St := ⟨s.last, onR d (insE e) s.ns⟩
def St.delE (s : St) (d : Int) (n : ByteArray) : St := ⟨s.last, onR d (fun l => l.filter fun e => !(e.name.data.toList == n.data.toList)) s.ns⟩
def St.drop (s : St) (id : Int) : St := ⟨s.last, s.ns.filter fun r => r.nd.id != id⟩
def newSt : St := ⟨1, [⟨⟨1, 2, 1, 0, noText, 1⟩, []⟩]⟩

def setLinks (n : Nd) (l : Int) : Nd := ⟨n.id, n.kind, l, n.size, n.target, n.parent⟩
def setPar (n : Nd) (p : Int) : Nd := ⟨n.id, n.kind, n.links, n.size, n.target, p⟩
theorem setLinks_id (n : Nd) (l : Int) : (setLinks n l).id = n.id := rfl
theorem setLinks_kind (n : Nd) (l : Int) : (setLinks n l).kind = n.kind := rfl
theorem setPar_id (n : Nd) (l : Int) : (setPar n l).id = n.id := rfl
theorem setPar_kind (n : Nd) (l : Int) : (setPar n l).kind = n.kind := rfl
/-! ### the acts: code, number, tree -/
def tgtCode (t : ByteArray) : Int := if t.data.toList = [] then 109 else if 88 < t.size then 115 else if t.data.toList.contains 0 then 114 else 0
def freshP (s : St) (p : Pth) (slash : Bool) : Int × Fnd :=
  let f := lastP s p
  if f.1 ≠ 0 then (f.1, noFnd) else if 0 < f.2.node then (110, noFnd) else if p.slash && !slash then (109, noFnd) else f
def makeT (s : St) (a : ByteArray) (kind : Int) (to : ByteArray) : Int × Int × St :=
  let p := parseP a
  if p.1 ≠ 0 then (p.1, 0, s) else
  if kind < 1 ∨ 3 < kind then (114, 0, s) else
  if kind = 3 ∧ tgtCode to ≠ 0 then (tgtCode to, 0, s) else
  let f := freshP s p.2 (kind == 2)
  if f.1 ≠ 0 then (f.1, 0, s) else
  if 512 ≤ s.ns.length ∨ 16777215 ≤ s.last then (104, 0, s) else
  let id := s.last + 1
  (0, id, (s.put ⟨id, kind, 1, 0, if kind = 3 then to else noText, if kind = 2 then f.2.dir else 0⟩).addE f.2.dir ⟨f.2.name, id, kind⟩)
def hardT (s : St) (a b : ByteArray) : Int × St :=
  let p := parseP a
  if p.1 ≠ 0 then (p.1, s) else
  let q := parseP b
  if q.1 ≠ 0 then (q.1, s) else
  let t := toP s p.2 false
  if t.1 ≠ 0 then (t.1, s) else
  match s.get t.2 with
  | none => (114, s)
  | some n => if n.nd.kind = 2 then (114, s) else
    let f := freshP s q.2 false
    if f.1 ≠ 0 then (f.1, s) else
    if 16 ≤ n.nd.links then (117, s) else
    (0, (s.put (setLinks n.nd (n.nd.links + 1))).addE f.2.dir ⟨f.2.name, t.2, n.nd.kind⟩)
def thereP (s : St) (p : Pth) : Int × Fnd × Nd :=
  let f := lastP s p
  if f.1 ≠ 0 then (f.1, noFnd, noNd) else match s.get f.2.node with
  | none => (109, noFnd, noNd)
  | some n => (0, f.2, n.nd)
def unlinkT (s : St) (a : ByteArray) : Int × Int × St :=
  let p := parseP a
  if p.1 ≠ 0 then (p.1, 0, s) else
  let f := thereP s p.2
  if f.1 ≠ 0 then (f.1, 0, s) else
  if f.2.2.kind = 2 then (112, 0, s) else
  (0, f.2.2.id, (s.delE f.2.1.dir f.2.1.name).put (setLinks f.2.2 (max (f.2.2.links - 1) 0)))
def St.full (s : St) (id : Int) : Bool := match s.dirOf id with
  | some l => !l.isEmpty
  | none => false
def rmdirT (s : St) (a : ByteArray) : Int × Int × St :=
  let p := parseP a
  if p.1 ≠ 0 then (p.1, 0, s) else
  let f := thereP s p.2
  if f.1 ≠ 0 then (f.1, 0, s) else
  if f.2.2.kind ≠ 2 then (111, 0, s) else
  if s.full f.2.2.id then (113, 0, s) else
  (0, f.2.2.id, (s.delE f.2.1.dir f.2.1.name).drop f.2.2.id)
def withinK (s : St) (tgt : Int) : Nat → Int → Bool
  | 0, _ => false
  | k + 1, id => match s.get id with
    | none => false
    | some n => if n.nd.kind ≠ 2 then false else if id = tgt then true else if id = 1 then false else withinK s tgt k n.nd.parent
def St.within (s : St) (id tgt : Int) : Bool := withinK s tgt (s.ns.length + 1) id
def ontoC (s : St) (n m : Nd) : Int :=
  if n.kind = 2 ∧ m.kind ≠ 2 then 111 else if n.kind ≠ 2 ∧ m.kind = 2 then 112 else if m.kind = 2 ∧ s.full m.id then 113 else 0
def ousted (s : St) (g : Fnd) : St := match s.get g.node with
  | none => s
  | some m => if m.nd.kind = 2 then (s.delE g.dir g.name).drop m.nd.id else (s.delE g.dir g.name).put (setLinks m.nd (max (m.nd.links - 1) 0))
/-- May a node be put at a place? -/
def renC (s : St) (g : Fnd) (slash : Bool) (n : Nd) : Int := match s.get g.node with
  | some m => ontoC s n m.nd
  | none => if slash && n.kind != 2 then 111 else 0
/-- A name moved from one directory to another (or another name in it). -/
def moveS (s : St) (d1 : Int) (nm1 : ByteArray) (d2 : Int) (nm2 : ByteArray) (n : Nd) : St :=
  (if n.kind = 2 then (s.delE d1 nm1).put (setPar n d2) else s.delE d1 nm1).addE d2 ⟨nm2, n.id, n.kind⟩
def renameT (s : St) (a b : ByteArray) : Int × Int × St :=
  let p := parseP a
  if p.1 ≠ 0 then (p.1, 0, s) else
  let q := parseP b
  if q.1 ≠ 0 then (q.1, 0, s) else
  let f := thereP s p.2
  if f.1 ≠ 0 then (f.1, 0, s) else
  let g := lastP s q.2
  if g.1 ≠ 0 then (g.1, 0, s) else
  if f.2.1.node = g.2.node then (0, 0, s) else
  if f.2.2.kind = 2 ∧ s.within g.2.dir f.2.2.id then (114, 0, s) else
  let c := renC s g.2 q.2.slash f.2.2
  if c ≠ 0 then (c, 0, s) else
  (0, g.2.node, moveS (ousted s g.2) f.2.1.dir f.2.1.name g.2.dir g.2.name f.2.2)
def lookT (s : St) (a : ByteArray) (follow : Bool) : Int × Nd :=
  let p := parseP a
  if p.1 ≠ 0 then (p.1, noNd) else
  let t := toP s p.2 follow
  if t.1 ≠ 0 then (t.1, noNd) else
  match s.get t.2 with
  | none => (109, noNd)
  | some n => (0, n.nd)
def St.count (s : St) : Int := (s.ns.map fun r => (r.ents.length : Int)).sum
def freeT (s : St) (id : Int) : Bool × St := match s.get id with
  | none => (false, s)
  | some n => if 0 < n.nd.links then (false, s) else (true, s.drop id)
/-! ### laws of the plain tree -/
def RiseN (l : List NR) : Prop := l.Pairwise fun a b => a.nd.id < b.nd.id
def findN (l : List NR) (k : Int) : Option NR := l.find? fun x => x.nd.id == k
theorem St.get_eq (s : St) (k : Int) : s.get k = findN s.ns k := rfl
theorem findN_nil (k : Int) : findN [] k = none := rfl
theorem findN_cons (r : NR) (l : List NR) (k : Int) : findN (r :: l) k = if r.nd.id = k then some r else findN l k := by
  unfold findN
  rw [List.find?_cons]
  by_cases h : r.nd.id = k
  · simp [h]
  · rw [if_neg h, beq_eq_false_iff_ne.2 h]
theorem findN_id {l : List NR} {k : Int} {r : NR} (h : findN l k = some r) : r.nd.id = k := by
  have := List.find?_some h
  simpa using this
theorem findN_mem {l : List NR} {k : Int} {r : NR} (h : findN l k = some r) : r ∈ l := List.mem_of_find?_eq_some h
theorem findN_of_mem {l : List NR} (hr : RiseN l) {r : NR} (h : r ∈ l) : findN l r.nd.id = some r := by
  induction l with
  | nil => cases h
  | cons x l ih =>
    rw [findN_cons]
    obtain ⟨h1, h2⟩ := List.pairwise_cons.1 hr
    rcases List.mem_cons.1 h with rfl | h
    · simp
    · have := h1 r h
      rw [if_neg (by omega)]
      exact ih h2 h
theorem findN_none_of_lt {l : List NR} {k : Int} (h : ∀ r ∈ l, k < r.nd.id) : findN l k = none := by
  induction l with
  | nil => rfl
  | cons x l ih =>
    rw [findN_cons, if_neg (by have := h x (List.mem_cons_self ..); omega)]
    exact ih fun r hr => h r (List.mem_cons_of_mem _ hr)
theorem putN_mem {n : Nd} {l : List NR} {r : NR} (h : r ∈ putN n l) : r.nd = n ∨ r ∈ l := by
  induction l with
  | nil => simp [putN] at h; exact .inl (by rw [h])
  | cons x l ih =>
    unfold putN at h
    split at h
    · rcases List.mem_cons.1 h with rfl | h
      · exact .inl rfl
      · exact .inr h
    · split at h
      · rcases List.mem_cons.1 h with rfl | h
        · exact .inl rfl
        · exact .inr (List.mem_cons_of_mem _ h)
      · rcases List.mem_cons.1 h with rfl | h
        · exact .inr (List.mem_cons_self ..)
        · rcases ih h with h | h
          · exact .inl h
          · exact .inr (List.mem_cons_of_mem _ h)
theorem putN_rise {n : Nd} {l : List NR} (hr : RiseN l) : RiseN (putN n l) := by
  induction l with
  | nil => exact List.pairwise_singleton _ _
  | cons x l ih =>
    obtain ⟨h1, h2⟩ := List.pairwise_cons.1 hr
    unfold putN
    split
    · rename_i hlt
      refine List.pairwise_cons.2 ⟨fun r hm => ?_, hr⟩
      rcases List.mem_cons.1 hm with rfl | hm
      · exact hlt
      · have := h1 r hm
        show n.id < r.nd.id
        omega
    · split
      · rename_i he
        exact List.pairwise_cons.2 ⟨fun r hm => by have := h1 r hm; show n.id < r.nd.id; omega, h2⟩
      · refine List.pairwise_cons.2 ⟨fun r hm => ?_, ih h2⟩
        rcases putN_mem hm with he | hm
        · rw [he]; omega
        · exact h1 r hm
/-- The entries that a node has behind a put. -/
def keepE (n : Nd) : Option NR → List En
  | none => []
  | some r => if n.kind = 2 ∧ r.nd.kind = 2 then r.ents else []
theorem findN_putN {n : Nd} {l : List NR} (hr : RiseN l) (k : Int) : findN (putN n l) k = if k = n.id then some ⟨n, keepE n (findN l n.id)⟩ else findN l k := by
  induction l with
  | nil =>
    rw [show putN n [] = [⟨n, []⟩] from rfl, findN_cons]
    by_cases h : k = n.id
    · subst h; simp [findN_nil, keepE]
    · rw [if_neg h, if_neg (fun e => h e.symm)]
  | cons x l ih =>
    obtain ⟨h1, h2⟩ := List.pairwise_cons.1 hr
    unfold putN
    split
    · rename_i hlt
      rw [findN_cons]
      by_cases h : k = n.id
      · subst h
        rw [if_pos rfl, if_pos rfl, findN_none_of_lt (fun r hm => by
          rcases List.mem_cons.1 hm with rfl | hm
          · exact hlt
          · have := h1 r hm; omega)]
        rfl
      · rw [if_neg h, if_neg (fun e => h e.symm)]
    · split
      · rename_i he
        rw [findN_cons, findN_cons x l n.id, findN_cons x l k, if_pos he.symm]
        by_cases h : k = n.id
        · subst h
          rw [if_pos rfl, if_pos rfl]
          rfl
        · rw [if_neg h, if_neg (fun e => h e.symm), if_neg (fun e => h (e.symm.trans he.symm))]
      · rename_i hne hne2
        have hne3 : ¬ x.nd.id = n.id := fun e => hne2 e.symm
        rw [findN_cons, findN_cons x l n.id, findN_cons x l k, ih h2, if_neg hne3]
        by_cases h : k = n.id
        · subst h
          rw [if_neg hne3, if_pos rfl, if_pos rfl]
        · rw [if_neg h, if_neg h]
theorem putN_length {n : Nd} {l : List NR} (hr : RiseN l) : (putN n l).length = if (findN l n.id).isSome then l.length else l.length + 1 := by
  induction l with
  | nil => rfl
  | cons x l ih =>
    obtain ⟨h1, h2⟩ := List.pairwise_cons.1 hr
    unfold putN
    split
    · rename_i hlt
      rw [findN_none_of_lt (fun r hm => by
          rcases List.mem_cons.1 hm with rfl | hm
          · exact hlt
          · have := h1 r hm; omega)]
      rfl
    · split
      · rename_i he
        rw [findN_cons, if_pos he.symm]
        rfl
      · rename_i h3
        have hne3 : ¬ x.nd.id = n.id := fun e => h3 e.symm
        rw [findN_cons, if_neg hne3, List.length_cons, ih h2]
        split <;> rfl
theorem onR_rise {id : Int} {f : List En → List En} {l : List NR} (hr : RiseN l) : RiseN (onR id f l) := by
  unfold onR RiseN
  rw [List.pairwise_map]
  refine hr.imp fun {a b} h => ?_
  split <;> split <;> exact h
theorem findN_onR {id : Int} {f : List En → List En} {l : List NR} (k : Int) : findN (onR id f l) k = (findN l k).map fun r => if r.nd.id = id then ⟨r.nd, f r.ents⟩ else r := by
  induction l with
  | nil => rfl
  | cons x l ih =>
    show findN ((if x.nd.id = id then ⟨x.nd, f x.ents⟩ else x) :: onR id f l) k = _
    rw [findN_cons, findN_cons, ih]
    have e : (if x.nd.id = id then (⟨x.nd, f x.ents⟩ : NR) else x).nd.id = x.nd.id := by split <;> rfl
    rw [e]
    by_cases h : x.nd.id = k
    · rw [if_pos h, if_pos h]; rfl
    · rw [if_neg h, if_neg h]
theorem onR_length (id : Int) (f : List En → List En) (l : List NR) : (onR id f l).length = l.length := by simp [onR]
theorem findN_drop {l : List NR} (id k : Int) : findN (l.filter fun r => r.nd.id != id) k = if k = id then none else findN l k := by
  induction l with
  | nil => simp [findN_nil]
  | cons x l ih =>
    rw [List.filter_cons]
    by_cases h : x.nd.id = id
    · rw [if_neg (by simp [h]), ih, findN_cons]
      by_cases hk : k = id
      · rw [if_pos hk, if_pos hk]
      · rw [if_neg hk, if_neg hk, if_neg (by omega)]
    · rw [if_pos (by simp [h]), findN_cons, findN_cons, ih]
      by_cases hk : k = id
      · rw [if_pos hk, if_pos hk, if_neg (by omega)]
      · rw [if_neg hk, if_neg hk]
/-! entries -/
theorem entOf_nil (n : ByteArray) : entOf [] n = none := rfl
theorem nm_ext' {a b : ByteArray} (h : a.data.toList = b.data.toList) : a = b := by
  cases a; cases b; simp at h; subst h; rfl
theorem entOf_cons (e : En) (l : List En) (n : ByteArray) : entOf (e :: l) n = if e.name = n then some e else entOf l n := by
  unfold entOf
  rw [List.find?_cons]
  by_cases h : e.name = n
  · subst h; simp
  · rw [if_neg h]
    have : (e.name.data.toList == n.data.toList) = false := by
      rw [beq_eq_false_iff_ne]
      exact fun e1 => h (nm_ext' e1)
    rw [this]
theorem entOf_mem {l : List En} {n : ByteArray} {e : En} (h : entOf l n = some e) : e ∈ l := List.mem_of_find?_eq_some h
def RiseE (l : List En) : Prop := l.Pairwise fun a b => nmLt a.name b.name
theorem nmLt_irr (a : ByteArray) : ¬ nmLt a a := fun h => List.lt_irrefl _ h
theorem nmLt_tr {a b c : ByteArray} (h : nmLt a b) (k : nmLt b c) : nmLt a c := List.lt_trans h k
theorem nmLt_of_not {a b : ByteArray} (h : ¬ nmLt a b) (hne : a ≠ b) : nmLt b a := by
  rcases Classical.em (nmLt b a) with k | k
  · exact k
  · exact absurd (nm_ext' (List.le_antisymm (List.not_lt.1 k) (List.not_lt.1 h))) hne
theorem entOf_none_iff {l : List En} {n : ByteArray} : entOf l n = none ↔ ∀ e ∈ l, e.name ≠ n := by
  induction l with
  | nil => simp [entOf_nil]
  | cons x l ih =>
    rw [entOf_cons]
    by_cases h : x.name = n
    · simp [h]
    · rw [if_neg h, ih]
      simp [h]
theorem insE_mem {e x : En} {l : List En} : x ∈ insE e l ↔ x = e ∨ x ∈ l := by
  induction l with
  | nil => simp [insE]
  | cons y l ih =>
    unfold insE
    split
    · simp
    · simp only [List.mem_cons, ih]
      constructor
      · rintro (h | h | h)
        · exact .inr (.inl h)
        · exact .inl h
        · exact .inr (.inr h)
      · rintro (h | h | h)
        · exact .inr (.inl h)
        · exact .inl h
        · exact .inr (.inr h)
theorem insE_length (e : En) (l : List En) : (insE e l).length = l.length + 1 := by
  induction l with
  | nil => rfl
  | cons y l ih =>
    unfold insE
    split
    · rfl
    · rw [List.length_cons, ih, List.length_cons]
theorem insE_rise {e : En} {l : List En} (hr : RiseE l) (hn : entOf l e.name = none) : RiseE (insE e l) := by
  induction l with
  | nil => exact List.pairwise_singleton _ _
  | cons y l ih =>
    obtain ⟨h1, h2⟩ := List.pairwise_cons.1 hr
    rw [entOf_none_iff] at hn
    have hy := hn y (List.mem_cons_self ..)
    unfold insE
    split
    · rename_i hlt
      refine List.pairwise_cons.2 ⟨fun z hz => ?_, hr⟩
      rcases List.mem_cons.1 hz with rfl | hz
      · exact hlt
      · exact nmLt_tr hlt (h1 z hz)
    · rename_i hlt
      have hye := nmLt_of_not hlt (fun e1 => hy e1.symm)
      refine List.pairwise_cons.2 ⟨fun z hz => ?_, ih h2 (entOf_none_iff.2 fun z hz => hn z (List.mem_cons_of_mem _ hz))⟩
      rcases insE_mem.1 hz with rfl | hz
      · exact hye
      · exact h1 z hz
theorem entOf_insE {e : En} {l : List En} (hn : entOf l e.name = none) (k : ByteArray) : entOf (insE e l) k = if k = e.name then some e else entOf l k := by
  induction l with
  | nil =>
    show entOf [e] k = _
    rw [entOf_cons]
    by_cases h : k = e.name
    · subst h; simp
    · rw [if_neg h, if_neg (fun e1 => h e1.symm)]
  | cons y l ih =>
    rw [entOf_none_iff] at hn
    have hy := hn y (List.mem_cons_self ..)
    have ih := ih (entOf_none_iff.2 fun z hz => hn z (List.mem_cons_of_mem _ hz))
    unfold insE
    split
    · rw [entOf_cons]
      by_cases h : k = e.name
      · subst h; simp
      · rw [if_neg h, if_neg (fun e1 => h e1.symm)]
    · rw [entOf_cons, entOf_cons, ih]
      by_cases h : k = e.name
      · subst h; rw [if_neg hy, if_pos rfl, if_pos rfl]
      · rw [if_neg h, if_neg h]
def cutE (n : ByteArray) (l : List En) : List En := l.filter fun e => !(e.name.data.toList == n.data.toList)
theorem cutE_mem {n : ByteArray} {l : List En} {x : En} : x ∈ cutE n l ↔ x ∈ l ∧ x.name ≠ n := by
  unfold cutE
  rw [List.mem_filter]
  refine and_congr_right fun _ => ?_
  simp only [Bool.not_eq_true', beq_eq_false_iff_ne, ne_eq]
  exact not_congr ⟨nm_ext', fun h => by rw [h]⟩
theorem cutE_rise {n : ByteArray} {l : List En} (hr : RiseE l) : RiseE (cutE n l) := List.Pairwise.filter _ hr
theorem entOf_cutE (n : ByteArray) (l : List En) (k : ByteArray) : entOf (cutE n l) k = if k = n then none else entOf l k := by
  by_cases h : k = n
  · rw [if_pos h, entOf_none_iff]
    intro e he
    rw [h]
    exact (cutE_mem.1 he).2
  · rw [if_neg h]
    induction l with
    | nil => rfl
    | cons x l ih =>
      unfold cutE at ih ⊢
      rw [List.filter_cons, entOf_cons]
      by_cases hx : x.name = n
      · subst hx
        rw [if_neg (by simp), ih, if_neg (fun e => h e.symm)]
      · rw [if_pos (by
          simp only [Bool.not_eq_true', beq_eq_false_iff_ne, ne_eq]
          exact fun e => hx (nm_ext' e)), entOf_cons, ih]
theorem cutE_length {n : ByteArray} {l : List En} (hr : RiseE l) : (cutE n l).length = if (entOf l n).isSome then l.length - 1 else l.length := by
  induction l with
  | nil => rfl
  | cons x l ih =>
    obtain ⟨h1, h2⟩ := List.pairwise_cons.1 hr
    have ih := ih h2
    unfold cutE at ih ⊢
    rw [List.filter_cons, entOf_cons]
    by_cases hx : x.name = n
    · subst hx
      have hno : entOf l x.name = none := entOf_none_iff.2 fun z hz e => by
        have := h1 z hz
        rw [e] at this
        exact nmLt_irr _ this
      rw [if_neg (by simp), if_pos rfl, ih, hno]
      simp
    · rw [if_pos (by
          simp only [Bool.not_eq_true', beq_eq_false_iff_ne, ne_eq]
          exact fun e => hx (nm_ext' e)), if_neg hx, List.length_cons, ih]
      cases hf : entOf l n with
      | none => simp
      | some r =>
        have : 0 < l.length := List.length_pos_of_mem (entOf_mem hf)
        simp; omega
/-! ### what holds of every tree -/
structure EntOk (s : St) (e : En) : Prop where
  code : nmCode e.name = 0
  spec : nmSpecial e.name = false
  may : mayB e = true
  node : ∃ x, s.get e.node = some x ∧ x.nd.kind = e.kind

structure Good (s : St) : Prop where
  rise : RiseN s.ns
  hi : s.last ≤ 16777215
  len : s.ns.length ≤ 512
  ids : ∀ r ∈ s.ns, r.nd.id ≤ s.last
  val : ∀ r ∈ s.ns, validB r.nd = true
  flat : ∀ r ∈ s.ns, r.nd.kind ≠ 2 → r.ents = []
  erise : ∀ r ∈ s.ns, RiseE r.ents
  ent : ∀ r ∈ s.ns, ∀ e ∈ r.ents, EntOk s e
  root : ∃ r, s.get 1 = some r ∧ r.nd.kind = 2 ∧ r.nd.parent = 1

theorem valid_ids {n : Nd} (h : validB n = true) : 1 ≤ n.id ∧ n.id ≤ 16777215 := by
  simp only [validB, idB, Bool.and_eq_true, decide_eq_true_eq] at h
  exact h.1
theorem Good.get_mem {s : St} (g : Good s) {r : NR} (h : r ∈ s.ns) : s.get r.nd.id = some r := findN_of_mem g.rise h
theorem Good.lo {s : St} (g : Good s) : 1 ≤ s.last := by
  obtain ⟨r, h, _⟩ := g.root
  have := g.ids r (findN_mem h)
  rw [findN_id h] at this
  exact this
theorem Good.no {s : St} (g : Good s) {k : Int} (hk : s.last < k ∨ k < 1) : s.get k = none := by
  cases h : s.get k with
  | none => rfl
  | some r =>
    have h1 := g.ids r (findN_mem h)
    have h2 := (valid_ids (g.val r (findN_mem h))).1
    rw [findN_id h] at h1 h2
    omega

theorem get_put {s : St} (hr : RiseN s.ns) (n : Nd) (k : Int) : (s.put n).get k = if k = n.id then some ⟨n, keepE n (s.get n.id)⟩ else s.get k := findN_putN hr k
theorem get_addE (s : St) (d : Int) (e : En) (k : Int) : (s.addE d e).get k = (s.get k).map fun r => if r.nd.id = d then ⟨r.nd, insE e r.ents⟩ else r := findN_onR k
theorem delE_eq (s : St) (d : Int) (n : ByteArray) : s.delE d n = ⟨s.last, onR d (cutE n) s.ns⟩ := rfl
theorem get_delE (s : St) (d : Int) (n : ByteArray) (k : Int) : (s.delE d n).get k = (s.get k).map fun r => if r.nd.id = d then ⟨r.nd, cutE n r.ents⟩ else r := findN_onR k
theorem get_drop (s : St) (id k : Int) : (s.drop id).get k = if k = id then none else s.get k := findN_drop id k

theorem EntOk.mono {s s' : St} {e : En} (h : EntOk s e) (hk : ∀ x, s.get e.node = some x → ∃ y, s'.get e.node = some y ∧ y.nd.kind = x.nd.kind) : EntOk s' e := by
  obtain ⟨h1, h2, h3, x, h4, h5⟩ := h
  obtain ⟨y, h6, h7⟩ := hk x h4
  exact ⟨h1, h2, h3, y, h6, h7.trans h5⟩

/-- A node put: new, or in place of one of its kind. -/
theorem Good.put {s : St} (g : Good s) {n : Nd} (hv : validB n = true) (hk : ∀ r, s.get n.id = some r → r.nd.kind = n.kind) (hn : s.get n.id = none → s.ns.length < 512) (hroot : n.id = 1 → n.parent = 1) : Good (s.put n) := by
  have hm : ∀ r ∈ (s.put n).ns, r = ⟨n, keepE n (s.get n.id)⟩ ∨ (r ∈ s.ns ∧ r.nd.id ≠ n.id) := fun r hr => by
    have h1 := findN_of_mem (putN_rise (n := n) g.rise) hr
    rw [findN_putN g.rise] at h1
    by_cases he : r.nd.id = n.id
    · rw [if_pos he] at h1
      injection h1 with h1
      exact .inl h1.symm
    · rw [if_neg he] at h1
      exact .inr ⟨findN_mem h1, he⟩
  have hget : ∀ k x, s.get k = some x → ∃ y, (s.put n).get k = some y ∧ y.nd.kind = x.nd.kind := fun k x hx => by
    rw [get_put g.rise]
    by_cases he : k = n.id
    · subst he
      exact ⟨_, if_pos rfl, (hk x hx).symm⟩
    · exact ⟨x, by rw [if_neg he]; exact hx, rfl⟩
  have hvid := valid_ids hv
  have hkeep : ∀ e ∈ keepE n (s.get n.id), ∃ r ∈ s.ns, e ∈ r.ents := fun e he => by
    cases hg : s.get n.id with
    | none => rw [hg] at he; cases he
    | some r =>
      rw [hg] at he
      unfold keepE at he
      simp only at he
      split at he
      · exact ⟨r, findN_mem hg, he⟩
      · cases he
  refine ⟨putN_rise g.rise, ?_, ?_, ?_, ?_, ?_, ?_, ?_, ?_⟩
  · have := g.hi
    show max s.last n.id ≤ _
    omega
  · show (putN n s.ns).length ≤ 512
    rw [putN_length g.rise]
    have := g.len
    split
    · exact this
    · rename_i hno
      have := hn (Option.not_isSome_iff_eq_none.1 hno)
      omega
  · intro r hr
    show r.nd.id ≤ max s.last n.id
    rcases hm r hr with rfl | ⟨h, _⟩
    · exact Int.le_max_right _ _
    · have := g.ids r h; omega
  · intro r hr
    rcases hm r hr with rfl | ⟨h, _⟩
    · exact hv
    · exact g.val r h
  · intro r hr hk2
    rcases hm r hr with rfl | ⟨h, _⟩
    · simp only at hk2 ⊢
      unfold keepE
      split
      · rfl
      · rw [if_neg (fun h => hk2 h.1)]
    · exact g.flat r h hk2
  · intro r hr
    rcases hm r hr with rfl | ⟨h, _⟩
    · simp only
      cases hg : s.get n.id with
      | none => exact List.Pairwise.nil
      | some r =>
        unfold keepE
        simp only
        split
        · exact g.erise r (findN_mem hg)
        · exact List.Pairwise.nil
    · exact g.erise r h
  · intro r hr e he
    have : ∃ r ∈ s.ns, e ∈ r.ents := by
      rcases hm r hr with rfl | ⟨h, _⟩
      · exact hkeep e he
      · exact ⟨r, h, he⟩
    obtain ⟨r', h1, h2⟩ := this
    exact (g.ent r' h1 e h2).mono (hget _)
  · obtain ⟨r, h1, h2, h3⟩ := g.root
    rw [get_put g.rise]
    by_cases he : (1 : Int) = n.id
    · refine ⟨_, if_pos he, ?_, hroot he.symm⟩
      rw [← he] at hk
      exact (hk r h1).symm.trans h2
    · exact ⟨r, by rw [if_neg he]; exact h1, h2, h3⟩

theorem onR_mem {id : Int} {f : List En → List En} {l : List NR} {r : NR} (h : r ∈ onR id f l) : ∃ x ∈ l, r.nd = x.nd ∧ ((x.nd.id = id ∧ r.ents = f x.ents) ∨ (x.nd.id ≠ id ∧ r.ents = x.ents)) := by
  obtain ⟨x, hx, rfl⟩ := List.mem_map.1 h
  refine ⟨x, hx, ?_⟩
  by_cases he : x.nd.id = id
  · rw [if_pos he]; exact ⟨rfl, .inl ⟨he, rfl⟩⟩
  · rw [if_neg he]; exact ⟨rfl, .inr ⟨he, rfl⟩⟩

/-- Entries turned in one directory. -/
theorem Good.onE {s : St} (g : Good s) (d : Int) (f : List En → List En) (hd : ∀ x, s.get d = some x → x.nd.kind = 2)
    (hrise : ∀ x, s.get d = some x → RiseE x.ents → RiseE (f x.ents)) (hent : ∀ x, s.get d = some x → ∀ e ∈ f x.ents, e ∈ x.ents ∨ EntOk s e) : Good ⟨s.last, onR d f s.ns⟩ := by
  have hget : ∀ k x, s.get k = some x → ∃ y, (⟨s.last, onR d f s.ns⟩ : St).get k = some y ∧ y.nd = x.nd := fun k x hx => by
    refine ⟨_, (findN_onR k).trans (by rw [show findN s.ns k = some x from hx]; rfl), ?_⟩
    show (if x.nd.id = d then (⟨x.nd, f x.ents⟩ : NR) else x).nd = x.nd
    split <;> rfl
  refine ⟨onR_rise g.rise, g.hi, by rw [onR_length]; exact g.len, ?_, ?_, ?_, ?_, ?_, ?_⟩
  · intro r hr
    obtain ⟨x, hx, h1, _⟩ := onR_mem hr
    rw [h1]; exact g.ids x hx
  · intro r hr
    obtain ⟨x, hx, h1, _⟩ := onR_mem hr
    rw [h1]; exact g.val x hx
  · intro r hr hk
    obtain ⟨x, hx, h1, h2⟩ := onR_mem hr
    rw [h1] at hk
    rcases h2 with ⟨h2, _⟩ | ⟨_, h3⟩
    · exact absurd (hd x (by rw [← h2]; exact g.get_mem hx)) hk
    · rw [h3]; exact g.flat x hx hk
  · intro r hr
    obtain ⟨x, hx, h1, h2⟩ := onR_mem hr
    rcases h2 with ⟨h2, h3⟩ | ⟨_, h3⟩
    · rw [h3]; exact hrise x (by rw [← h2]; exact g.get_mem hx) (g.erise x hx)
    · rw [h3]; exact g.erise x hx
  · intro r hr e he
    obtain ⟨x, hx, h1, h2⟩ := onR_mem hr
    have : e ∈ x.ents ∨ EntOk s e := by
      rcases h2 with ⟨h2, h3⟩ | ⟨_, h3⟩
      · rw [h3] at he; exact hent x (by rw [← h2]; exact g.get_mem hx) e he
      · rw [h3] at he; exact .inl he
    have ok : EntOk s e := by
      rcases this with h | h
      · exact g.ent x hx e h
      · exact h
    refine ok.mono fun y hy => ?_
    obtain ⟨z, h4, h5⟩ := hget _ y hy
    exact ⟨z, h4, by rw [h5]⟩
  · obtain ⟨r, h1, h2, h3⟩ := g.root
    obtain ⟨z, h4, h5⟩ := hget _ r h1
    exact ⟨z, h4, by rw [h5]; exact h2, by rw [h5]; exact h3⟩

theorem Good.addE {s : St} (g : Good s) {d : Int} {e : En} {x : NR} (hd : s.get d = some x) (hk : x.nd.kind = 2) (hno : entOf x.ents e.name = none) (hok : EntOk s e) : Good (s.addE d e) := by
  have hx : ∀ y, s.get d = some y → y = x := fun y hy => by rw [hd] at hy; injection hy with hy; exact hy.symm
  refine g.onE d (insE e) (fun y hy => by rw [hx y hy]; exact hk) (fun y hy hr => ?_) (fun y hy z hz => ?_)
  · rw [hx y hy] at hr ⊢; exact insE_rise hr hno
  · rcases insE_mem.1 hz with rfl | hz
    · exact .inr hok
    · exact .inl hz
theorem Good.delE {s : St} (g : Good s) {d : Int} {x : NR} (hd : s.get d = some x) (hk : x.nd.kind = 2) (n : ByteArray) : Good (s.delE d n) := by
  have hx : ∀ y, s.get d = some y → y = x := fun y hy => by rw [hd] at hy; injection hy with hy; exact hy.symm
  exact g.onE d (cutE n) (fun y hy => by rw [hx y hy]; exact hk) (fun y hy hr => cutE_rise hr) (fun y hy z hz => .inl (cutE_mem.1 hz).1)
theorem Good.drop {s : St} (g : Good s) {id : Int} (h1 : id ≠ 1) (hno : ∀ r ∈ s.ns, r.nd.id ≠ id → ∀ e ∈ r.ents, e.node ≠ id) : Good (s.drop id) := by
  have hm : ∀ r ∈ (s.drop id).ns, r ∈ s.ns ∧ r.nd.id ≠ id := fun r hr => by
    have := List.mem_filter.1 hr
    exact ⟨this.1, by simpa using this.2⟩
  refine ⟨List.Pairwise.filter _ g.rise, g.hi, Nat.le_trans (List.length_filter_le _ _) g.len, fun r hr => g.ids r (hm r hr).1, fun r hr => g.val r (hm r hr).1, fun r hr => g.flat r (hm r hr).1, fun r hr => g.erise r (hm r hr).1, fun r hr e he => ?_, ?_⟩
  · refine (g.ent r (hm r hr).1 e he).mono fun y hy => ⟨y, ?_, rfl⟩
    rw [get_drop, if_neg (hno r (hm r hr).1 (hm r hr).2 e he)]
    exact hy
  · obtain ⟨r, h2, h3⟩ := g.root
    exact ⟨r, by rw [get_drop, if_neg (fun e => h1 e.symm)]; exact h2, h3⟩
theorem newNd_valid' : validB ⟨1, 2, 1, 0, noText, 1⟩ = true := by decide +kernel
theorem newSt_good : Good newSt := by
  refine ⟨List.pairwise_singleton _ _, by decide, by decide, ?_, ?_, ?_, ?_, ?_, ⟨_, rfl, rfl, rfl⟩⟩ <;> intro r hr <;> obtain rfl := List.mem_singleton.1 hr
  · decide
  · exact newNd_valid' 
  · intro h; rfl
  · exact List.Pairwise.nil
  · intro e he; cases he
/-! ### names counted -/
/-- How many entries lead to a node. -/
def namesL (id : Int) (l : List En) : Nat := l.countP fun e => e.node == id
def namesN (id : Int) (l : List NR) : Nat := (l.map fun r => namesL id r.ents).sum
def St.names (s : St) (id : Int) : Nat := namesN id s.ns

theorem namesL_ins (id : Int) (e : En) (l : List En) : namesL id (insE e l) = namesL id l + if e.node = id then 1 else 0 := by
  induction l with
  | nil =>
    show namesL id [e] = _
    unfold namesL
    rw [List.countP_cons]
    by_cases h : e.node = id <;> simp [h]
  | cons x l ih =>
    unfold insE
    unfold namesL at ih ⊢
    split
    · rw [List.countP_cons]
      by_cases h : e.node = id <;> simp [h]
    · rw [List.countP_cons, ih, List.countP_cons]
      omega
theorem namesL_cut {id : Int} {n : ByteArray} {l : List En} (hr : RiseE l) : namesL id (cutE n l) + (match entOf l n with | some e => if e.node = id then 1 else 0 | none => 0) = namesL id l := by
  induction l with
  | nil => rfl
  | cons x l ih =>
    obtain ⟨h1, h2⟩ := List.pairwise_cons.1 hr
    have ih := ih h2
    unfold cutE at ih ⊢
    rw [List.filter_cons, entOf_cons]
    by_cases hx : x.name = n
    · have hno : entOf l n = none := entOf_none_iff.2 fun z hz e => by
        have := h1 z hz
        rw [hx, e] at this
        exact nmLt_irr _ this
      rw [hno] at ih
      rw [if_neg (by rw [hx]; simp), if_pos hx]
      unfold namesL at ih ⊢
      rw [List.countP_cons]
      by_cases h : x.node = id
      · simp [h]; simpa using ih
      · simp [h]; simpa using ih
    · rw [if_pos (by
          simp only [Bool.not_eq_true', beq_eq_false_iff_ne, ne_eq]
          exact fun e => hx (nm_ext' e)), if_neg hx]
      unfold namesL at ih ⊢
      rw [List.countP_cons, List.countP_cons]
      omega
theorem namesN_put {id : Int} {n : Nd} {l : List NR} (hk : ∀ r, findN l n.id = some r → (n.kind = 2 ∧ r.nd.kind = 2) ∨ r.ents = []) (hr : RiseN l) : namesN id (putN n l) = namesN id l := by
  induction l with
  | nil => rfl
  | cons x l ih =>
    obtain ⟨h1, h2⟩ := List.pairwise_cons.1 hr
    unfold putN
    split
    · show namesL id [] + namesN id (x :: l) = namesN id (x :: l)
      simp [namesL]
    · split
      · rename_i he
        have := hk x (by rw [findN_cons, if_pos he.symm])
        unfold namesN
        rw [List.map_cons, List.map_cons, List.sum_cons, List.sum_cons]
        congr 1
        simp only
        split
        · rfl
        · rename_i h3
          rcases this with h | h
          · exact absurd h h3
          · rw [h]
      · rename_i h3
        have hne3 : ¬ x.nd.id = n.id := fun e => h3 e.symm
        have := ih (fun r h => hk r (by rw [findN_cons, if_neg hne3]; exact h)) h2
        unfold namesN at this ⊢
        rw [List.map_cons, List.map_cons, List.sum_cons, List.sum_cons, this]
theorem namesN_on {id d : Int} {f : List En → List En} {l : List NR} {x : NR} (hr : RiseN l) (hd : findN l d = some x) : namesN id (onR d f l) + namesL id x.ents = namesN id l + namesL id (f x.ents) := by
  induction l with
  | nil => cases hd
  | cons y l ih =>
    obtain ⟨h1, h2⟩ := List.pairwise_cons.1 hr
    rw [findN_cons] at hd
    unfold namesN at ih ⊢
    unfold onR at ih ⊢
    rw [List.map_cons, List.map_cons, List.map_cons, List.sum_cons, List.sum_cons]
    by_cases h : y.nd.id = d
    · rw [if_pos h] at hd
      injection hd with hd
      subst hd
      rw [if_pos h]
      have : (l.map fun r => if r.nd.id = d then (⟨r.nd, f r.ents⟩ : NR) else r) = l := by
        conv => rhs; rw [← List.map_id l]
        refine List.map_congr_left fun r hr' => ?_
        have := h1 r hr'
        rw [if_neg (by omega)]; rfl
      rw [this]
      show namesL id (f y.ents) + _ + _ = _
      omega
    · rw [if_neg h] at hd
      rw [if_neg h]
      have := ih h2 hd
      omega
theorem namesN_drop {id d : Int} {l : List NR} (he : ∀ r ∈ l, r.nd.id = d → r.ents = []) : namesN id (l.filter fun r => r.nd.id != d) = namesN id l := by
  induction l with
  | nil => rfl
  | cons y l ih =>
    have ih := ih fun r hr => he r (List.mem_cons_of_mem _ hr)
    rw [List.filter_cons]
    unfold namesN at ih ⊢
    by_cases h : y.nd.id = d
    · rw [if_neg (by simp [h]), ih, List.map_cons, List.sum_cons, he y (List.mem_cons_self ..) h]
      simp [namesL]
    · rw [if_pos (by simp [h]), List.map_cons, List.map_cons, List.sum_cons, List.sum_cons, ih]

theorem le_sum_mem {l : List Nat} {x : Nat} (h : x ∈ l) : x ≤ l.sum := by
  induction l with
  | nil => cases h
  | cons y l ih =>
    rw [List.sum_cons]
    rcases List.mem_cons.1 h with rfl | h
    · omega
    · have := ih h; omega
theorem names_zero {s : St} {id : Int} (h : s.names id = 0) : ∀ r ∈ s.ns, ∀ e ∈ r.ents, e.node ≠ id := by
  intro r hr e he hn
  have h1 : namesL id r.ents = 0 := by
    have : namesL id r.ents ≤ namesN id s.ns := by
      unfold namesN
      exact le_sum_mem (List.mem_map.2 ⟨r, hr, rfl⟩)
    unfold St.names at h
    omega
  have := List.countP_eq_zero.1 h1 e he
  simp [hn] at this
theorem names_pos {s : St} {r : NR} (hr : r ∈ s.ns) {e : En} (he : e ∈ r.ents) : 0 < s.names e.node := by
  rcases Nat.eq_zero_or_pos (s.names e.node) with h | h
  · exact absurd rfl (names_zero h r hr e he)
  · exact h

structure Full (s : St) : Prop extends Good s where
  cnt : ∀ k r, s.get k = some r → r.nd.links = s.names k + if k = 1 then 1 else 0
  par : ∀ d r, s.get d = some r → ∀ e ∈ r.ents, ∀ x, s.get e.node = some x → x.nd.kind = 2 → x.nd.parent = d
  one : ∀ k r, s.get k = some r → r.nd.kind = 2 → r.nd.links = 1
theorem newSt_full : Full newSt := by
  refine { newSt_good with cnt := ?_, par := ?_, one := ?_ } <;> intro k r hr <;> obtain rfl := List.mem_singleton.1 (findN_mem hr) <;> obtain rfl := findN_id hr
  · rfl
  · intro e he; cases he
  · intro _; rfl

theorem sum_zero {l : List Nat} (h : ∀ x ∈ l, x = 0) : l.sum = 0 := by
  induction l with
  | nil => rfl
  | cons x l ih => rw [List.sum_cons, h x (List.mem_cons_self ..), ih fun y hy => h y (List.mem_cons_of_mem _ hy)]
theorem names_of {s : St} {k : Int} (h : 0 < s.names k) : ∃ r ∈ s.ns, ∃ e ∈ r.ents, e.node = k := by
  refine Classical.byContradiction fun hn => ?_
  have : s.names k = 0 := by
    unfold St.names namesN
    refine sum_zero fun x hx => ?_
    obtain ⟨r, hr, rfl⟩ := List.mem_map.1 hx
    refine List.countP_eq_zero.2 fun e he => ?_
    simp only [beq_iff_eq]
    exact fun hk => hn ⟨r, hr, e, he, hk⟩
  omega
theorem Full.parent {s : St} (f : Full s) {id : Int} {x : NR} (h : s.get id = some x) (hk : x.nd.kind = 2) : ∃ y, s.get (upOf x.nd) = some y ∧ y.nd.kind = 2 := by
  unfold upOf
  have hid := findN_id h
  by_cases h1 : x.nd.id = 1
  · rw [if_pos h1]
    obtain ⟨r, h2, h3, _⟩ := f.root
    exact ⟨r, h2, h3⟩
  · rw [if_neg h1]
    have h2 := f.cnt id x h
    rw [f.one id x h hk, if_neg (by rw [← hid]; exact h1)] at h2
    obtain ⟨r, hr, e, he, hek⟩ := names_of (s := s) (k := id) (by omega)
    have h3 := f.par _ r (f.get_mem hr) e he x (by rw [hek]; exact h) hk
    refine ⟨r, by rw [h3]; exact f.get_mem hr, ?_⟩
    refine Classical.byContradiction fun hn => ?_
    rw [f.flat r hr hn] at he
    cases he
end Go.Proofs.YtjekpbkmhgfhoaaGreatDoor
end

section
/- Trees in plain words: each act keeps what holds of every tree. -/
namespace Go.Proofs.YtjekpbkmhgfhoaaGreatDoor
set_option maxRecDepth 100000
set_option linter.unusedSimpArgs false
set_option linter.unusedVariables false

theorem toList_empty {t : ByteArray} (h : t.data.toList ≠ []) : t.toList.isEmpty = false := by
  rw [ByteArray.toList_eq, List.isEmpty_eq_false_iff]
  exact h
/-! ### what a path's parts are -/
structure PartOk (x : ByteArray) : Prop where
  code : nmCode x = 0
  dot : x.data.toList ≠ [46]
theorem cuts_ne {l : List UInt8} : cuts l ≠ [] := by
  induction l with
  | nil => intro h; cases h
  | cons c l ih =>
    unfold cuts
    split
    · intro h; cases h
    · split <;> intro h <;> cases h
theorem cuts_mem {l : List UInt8} {x : List UInt8} (h : x ∈ cuts l) : ∀ c ∈ x, c ≠ 47 ∧ c ∈ l := by
  induction l generalizing x with
  | nil =>
    obtain rfl := List.mem_singleton.1 h
    intro c hc; cases hc
  | cons d l ih =>
    unfold cuts at h
    split at h
    · rcases List.mem_cons.1 h with rfl | h
      · intro c hc; cases hc
      · intro c hc
        exact ⟨(ih h c hc).1, List.mem_cons_of_mem _ (ih h c hc).2⟩
    · rename_i hd
      split at h
      · rename_i he; exact absurd he cuts_ne
      · rename_i y r he
        rcases List.mem_cons.1 h with rfl | h
        · intro c hc
          rcases List.mem_cons.1 hc with rfl | hc
          · exact ⟨hd, List.mem_cons_self ..⟩
          · have := ih (by rw [he]; exact List.mem_cons_self ..) c hc
            exact ⟨this.1, List.mem_cons_of_mem _ this.2⟩
        · intro c hc
          have := ih (by rw [he]; exact List.mem_cons_of_mem _ h) c hc
          exact ⟨this.1, List.mem_cons_of_mem _ this.2⟩
theorem partsOf_mem {l : List (List UInt8)} {ps : List ByteArray} (h : partsOf l = some ps) : ∀ p ∈ ps, p.data.toList ∈ l ∧ p.data.toList ≠ [] ∧ p.data.toList ≠ [46] ∧ p.size ≤ 24 := by
  induction l generalizing ps with
  | nil =>
    unfold partsOf at h
    injection h with h
    subst h
    intro p hp; cases hp
  | cons x l ih =>
    unfold partsOf at h
    split at h
    · intro p hp
      have := ih h p hp
      exact ⟨List.mem_cons_of_mem _ this.1, this.2⟩
    · rename_i hx
      split at h
      · cases h
      · rename_i hlen
        obtain ⟨qs, hq, rfl⟩ := Option.map_eq_some_iff.1 h
        intro p hp
        rcases List.mem_cons.1 hp with rfl | hp
        · refine ⟨by simp, ?_, ?_, ?_⟩
          · intro e; exact hx (.inl (by simpa using e))
          · intro e; exact hx (.inr (by simpa using e))
          · show x.toArray.size ≤ 24
            simp; omega
        · have := ih hq p hp
          exact ⟨List.mem_cons_of_mem _ this.1, this.2⟩
theorem parse_parts {s : ByteArray} {p : Pth} (h : parseP s = (0, p)) : ∀ x ∈ p.parts, PartOk x := by
  unfold parseP at h
  split at h
  · cases h
  · split at h
    · cases h
    · split at h
      · cases h
      · rename_i hz
        split at h
        · cases h
        · rename_i ps hps
          injection h with _ h
          subst h
          intro x hx
          obtain ⟨h1, h2, h3, h4⟩ := partsOf_mem hps x hx
          refine ⟨?_, h3⟩
          unfold nmCode
          rw [if_neg h2, if_neg (by omega), if_neg]
          intro hc
          rw [Bool.or_eq_true, List.contains_iff_mem, List.contains_iff_mem] at hc
          rcases hc with hc | hc
          · exact (cuts_mem h1 _ hc).1 rfl
          · exact hz (.inr (List.contains_iff_mem.2 (cuts_mem h1 _ hc).2))
theorem splitP_ok {p : Pth} {q : List ByteArray} {n : ByteArray} (h : splitP p = (0, q, n)) : p.parts = q ++ [n] ∧ isUp n = false := by
  unfold splitP at h
  split at h
  · cases h
  · rename_i x hx
    split at h
    · cases h
    · rename_i hu
      injection h with _ h
      injection h with h1 h2
      subst h1 h2
      have hne : p.parts ≠ [] := by intro e; rw [e] at hx; cases hx
      rw [List.getLast?_eq_some_getLast hne] at hx
      injection hx with hx
      exact ⟨by rw [← hx]; exact (List.dropLast_concat_getLast hne).symm, by simpa using hu⟩
theorem splitP_code (p : Pth) : (splitP p).1 = 0 ∨ (splitP p).1 = 114 := by
  unfold splitP
  split
  · exact .inr rfl
  · split
    · exact .inr rfl
    · exact .inl rfl

/-- What Last finds. -/
structure LastOk (s : St) (p : Pth) (f : Fnd) : Prop where
  part : f.name ∈ p.parts
  up : isUp f.name = false
  at' : ∃ x, s.get f.dir = some x ∧ x.nd.kind = 2 ∧ ((f.node = 0 ∧ entOf x.ents f.name = none) ∨ ∃ e, entOf x.ents f.name = some e ∧ e.node = f.node ∧ (p.slash = true → s.isDir f.node = true))
theorem dirOf_some {s : St} {id : Int} {l : List En} (h : s.dirOf id = some l) : ∃ x, s.get id = some x ∧ x.nd.kind = 2 ∧ x.ents = l := by
  unfold St.dirOf at h
  split at h
  · rename_i r hr
    split at h
    · rename_i hk
      injection h with h
      exact ⟨r, hr, hk, h⟩
    · cases h
  · cases h
theorem dirOf_of {s : St} {id : Int} {x : NR} (h : s.get id = some x) (hk : x.nd.kind = 2) : s.dirOf id = some x.ents := by
  unfold St.dirOf
  rw [h]
  simp [hk]
theorem lastP_ok {s : St} {p : Pth} {f : Fnd} (h : lastP s p = (0, f)) : LastOk s p f := by
  unfold lastP at h
  obtain ⟨c, q, n, hq⟩ : ∃ c q n, splitP p = (c, q, n) := ⟨_, _, _, rfl⟩
  rw [hq] at h
  simp only at h
  split at h
  · rename_i hc
    injection h with h
    exact absurd h hc
  · rename_i hc
    have hc0 : c = 0 := by omega
    subst hc0
    obtain ⟨h1, h2⟩ := splitP_ok hq
    have hn : n ∈ p.parts := by rw [h1]; simp
    split at h
    · rename_i ht
      injection h with h
      exact absurd h ht
    · split at h
      · cases h
      · rename_i l hl
        obtain ⟨x, hx, hk, rfl⟩ := dirOf_some hl
        split at h
        · rename_i he
          injection h with _ h
          subst h
          exact ⟨hn, h2, x, hx, hk, .inl ⟨rfl, he⟩⟩
        · rename_i e he
          split at h
          · cases h
          · rename_i hs
            injection h with _ h
            subst h
            refine ⟨hn, h2, x, hx, hk, .inr ⟨e, he, rfl, fun hsl => ?_⟩⟩
            rw [hsl] at hs
            simpa using hs
theorem LastOk.name {s : St} {a : ByteArray} {p : Pth} {f : Fnd} (h : LastOk s p f) (hp : parseP a = (0, p)) : nmCode f.name = 0 ∧ nmSpecial f.name = false := by
  have h1 := parse_parts hp _ h.part
  have h2 := h.up
  refine ⟨h1.code, ?_⟩
  rw [nmSpecial_eq']
  unfold isUp dots at h2
  rw [h2, Bool.or_false, beq_eq_false_iff_ne]
  exact h1.dot
/-! ### where a path leads is there -/
theorem goParts_some {s : St} (f : Full s) {follow slash : Bool} {next : ByteArray → Int → List ByteArray → Int × Int} (hn : ∀ t at' ps id, next t at' ps = (0, id) → (∃ y, s.get at' = some y) → ∃ y, s.get id = some y) :
    ∀ (ps : List ByteArray) (at' id : Int), goParts s follow slash next ps at' = (0, id) → (∃ y, s.get at' = some y) → ∃ y, s.get id = some y := by
  intro ps
  induction ps with
  | nil =>
    intro at' id h hy
    unfold goParts at h
    split at h
    · cases h
    · injection h with _ h
      subst h; exact hy
  | cons p ps ih =>
    intro at' id h hy
    unfold goParts at h
    split at h
    · cases h
    · rename_i d hd
      split at h
      · cases h
      · rename_i hk
        split at h
        · obtain ⟨y, h1, _⟩ := f.parent hd (by simpa using hk)
          exact ih _ _ h ⟨y, h1⟩
        · split at h
          · cases h
          · split at h
            · cases h
            · rename_i x hx
              split at h
              · exact ih _ _ h ⟨x, hx⟩
              · exact hn _ _ _ _ h hy
theorem goH_some {s : St} (f : Full s) {follow slash : Bool} : ∀ (h : Nat) (ps : List ByteArray) (at' id : Int), goH s follow slash h ps at' = (0, id) → (∃ y, s.get at' = some y) → ∃ y, s.get id = some y := by
  intro h
  induction h with
  | zero =>
    unfold goH
    exact goParts_some f fun t at' ps id h => by cases h
  | succ h ih =>
    unfold goH
    refine goParts_some f fun t at' ps id hq hy => ?_
    simp only at hq
    split at hq
    · rename_i hne
      injection hq with hq
      exact absurd hq hne
    · refine ih _ _ _ hq ?_
      unfold tgtOf
      split
      · obtain ⟨r, h1, _⟩ := f.root
        exact ⟨r, h1⟩
      · exact hy
theorem toP_some {s : St} (f : Full s) {p : Pth} {follow : Bool} {id : Int} (h : toP s p follow = (0, id)) : ∃ y, s.get id = some y := by
  obtain ⟨r, h1, _⟩ := f.root
  exact goH_some f _ _ _ _ h ⟨r, h1⟩

/-! ### names behind a turn -/
theorem names_addE {s : St} (g : Good s) {d : Int} {x : NR} (hd : s.get d = some x) (e : En) (k : Int) : (s.addE d e).names k = s.names k + if e.node = k then 1 else 0 := by
  have h1 := namesN_on (id := k) (f := insE e) g.rise hd
  rw [namesL_ins] at h1
  show namesN k (onR d (insE e) s.ns) = namesN k s.ns + _
  omega
theorem names_delE {s : St} (g : Good s) {d : Int} {x : NR} (hd : s.get d = some x) {n : ByteArray} {e : En} (he : entOf x.ents n = some e) (k : Int) : (s.delE d n).names k + (if e.node = k then 1 else 0) = s.names k := by
  have h1 := namesN_on (id := k) (f := cutE n) g.rise hd
  have h2 := namesL_cut (id := k) (n := n) (g.erise x (findN_mem hd))
  rw [he] at h2
  simp only at h2
  show namesN k (onR d (cutE n) s.ns) + _ = namesN k s.ns
  omega
theorem names_put {s : St} (g : Good s) {n : Nd} (hk : ∀ r, s.get n.id = some r → r.nd.kind = n.kind) (k : Int) : (s.put n).names k = s.names k := by
  refine namesN_put (fun r hr => ?_) g.rise
  have := hk r hr
  by_cases h2 : n.kind = 2
  · exact .inl ⟨h2, by rw [this]; exact h2⟩
  · exact .inr (g.flat r (findN_mem hr) (by rw [this]; exact h2))
theorem names_drop {s : St} (g : Good s) {id : Int} (he : ∀ r, s.get id = some r → r.ents = []) (k : Int) : (s.drop id).names k = s.names k :=
  namesN_drop fun r hr hd => he r (by rw [← hd]; exact g.get_mem hr)
theorem Full.names_new {s : St} (f : Full s) {k : Int} (h : s.get k = none) : s.names k = 0 := by
  rcases Nat.eq_zero_or_pos (s.names k) with h0 | h0
  · exact h0
  · obtain ⟨r, hr, e, he, hk⟩ := names_of h0
    obtain ⟨x, hx, _⟩ := (f.ent r hr e he).node
    rw [hk, h] at hx
    cases hx
/-! ### every act keeps what holds of a tree -/
theorem mk_get_addE {s : St} {d : Int} {e : En} {k : Int} {r : NR} (h : (s.addE d e).get k = some r) : ∃ x, s.get k = some x ∧ r.nd = x.nd ∧ ((k = d ∧ r.ents = insE e x.ents) ∨ (k ≠ d ∧ r.ents = x.ents)) := by
  rw [get_addE] at h
  obtain ⟨x, hx, rfl⟩ := Option.map_eq_some_iff.1 h
  have hid := findN_id hx
  refine ⟨x, hx, ?_⟩
  by_cases he : x.nd.id = d
  · rw [if_pos he]; exact ⟨rfl, .inl ⟨by omega, rfl⟩⟩
  · rw [if_neg he]; exact ⟨rfl, .inr ⟨by omega, rfl⟩⟩
theorem mk_get_delE {s : St} {d : Int} {n : ByteArray} {k : Int} {r : NR} (h : (s.delE d n).get k = some r) : ∃ x, s.get k = some x ∧ r.nd = x.nd ∧ ((k = d ∧ r.ents = cutE n x.ents) ∨ (k ≠ d ∧ r.ents = x.ents)) := by
  rw [get_delE] at h
  obtain ⟨x, hx, rfl⟩ := Option.map_eq_some_iff.1 h
  have hid := findN_id hx
  refine ⟨x, hx, ?_⟩
  by_cases he : x.nd.id = d
  · rw [if_pos he]; exact ⟨rfl, .inl ⟨by omega, rfl⟩⟩
  · rw [if_neg he]; exact ⟨rfl, .inr ⟨by omega, rfl⟩⟩
theorem get_addE_of {s : St} {d : Int} {e : En} {k : Int} {x : NR} (h : s.get k = some x) : ∃ r, (s.addE d e).get k = some r ∧ r.nd = x.nd ∧ (k ≠ d → r = x) ∧ (k = d → r.ents = insE e x.ents) := by
  have hid := findN_id h
  rw [get_addE, h]
  refine ⟨_, rfl, ?_, ?_, ?_⟩
  · simp only; split <;> rfl
  · intro hk; simp only; rw [if_neg (by omega)]
  · intro hk; simp only; rw [if_pos (by omega)]
theorem get_delE_of {s : St} {d : Int} {n : ByteArray} {k : Int} {x : NR} (h : s.get k = some x) : ∃ r, (s.delE d n).get k = some r ∧ r.nd = x.nd ∧ (k ≠ d → r = x) ∧ (k = d → r.ents = cutE n x.ents) := by
  have hid := findN_id h
  rw [get_delE, h]
  refine ⟨_, rfl, ?_, ?_, ?_⟩
  · simp only; split <;> rfl
  · intro hk; simp only; rw [if_neg (by omega)]
  · intro hk; simp only; rw [if_pos (by omega)]
theorem entry_node {s : St} (g : Good s) {d : Int} {x : NR} (hd : s.get d = some x) {n : ByteArray} {e : En} (he : entOf x.ents n = some e) : ∃ y, s.get e.node = some y ∧ y.nd.kind = e.kind ∧ 1 ≤ e.node ∧ e.node ≤ 16777215 := by
  have h1 := (g.ent x (findN_mem hd) e (entOf_mem he))
  obtain ⟨y, h2, h3⟩ := h1.node
  have h4 := h1.may
  simp only [mayB, Bool.and_eq_true, decide_eq_true_eq] at h4
  exact ⟨y, h2, h3, h4.1, h4.2.1⟩
theorem Full.not_root {s : St} (f : Full s) {d : Int} {x : NR} (hd : s.get d = some x) {n : ByteArray} {e : En} (he : entOf x.ents n = some e) : e.node ≠ 1 := by
  intro h1
  obtain ⟨r, h2, h3, _⟩ := f.root
  have h4 := f.cnt 1 r h2
  rw [f.one 1 r h2 h3, if_pos rfl] at h4
  have h5 := names_pos (s := s) (findN_mem hd) (entOf_mem he)
  rw [h1] at h5
  omega

/-- A new node with its entry. -/
theorem Full.make {s : St} (f : Full s) {kind d : Int} {t nm : ByteArray} {x : NR} (hd : s.get d = some x) (hk : x.nd.kind = 2) (hno : entOf x.ents nm = none) (hc : nmCode nm = 0) (hs : nmSpecial nm = false)
    (hv : validB ⟨s.last + 1, kind, 1, 0, t, if kind = 2 then d else 0⟩ = true) (hn : s.ns.length < 512) (hl : s.last < 16777215) (hk3 : 1 ≤ kind ∧ kind ≤ 3) :
    Full ((s.put ⟨s.last + 1, kind, 1, 0, t, if kind = 2 then d else 0⟩).addE d ⟨nm, s.last + 1, kind⟩) := by
  have hnew : s.get (s.last + 1) = none := f.no (.inl (by omega))
  have hlo := f.lo
  have g1 : Good (s.put ⟨s.last + 1, kind, 1, 0, t, if kind = 2 then d else 0⟩) := f.toGood.put hv (fun r hr => by rw [hnew] at hr; cases hr) (fun _ => hn) (fun h => by simp only at h; omega)
  have hdn : d ≠ s.last + 1 := by rintro rfl; rw [hnew] at hd; cases hd
  have hd1 : (s.put ⟨s.last + 1, kind, 1, 0, t, if kind = 2 then d else 0⟩).get d = some x := by rw [get_put f.rise, if_neg hdn]; exact hd
  have hnn : (s.put ⟨s.last + 1, kind, 1, 0, t, if kind = 2 then d else 0⟩).get (s.last + 1) = some ⟨⟨s.last + 1, kind, 1, 0, t, if kind = 2 then d else 0⟩, []⟩ := by rw [get_put f.rise, if_pos rfl, hnew]; rfl
  have hmay : mayB ⟨nm, s.last + 1, kind⟩ = true := by
    simp only [mayB, Bool.and_eq_true, decide_eq_true_eq]
    omega
  have hnm : ∀ k, ((s.put ⟨s.last + 1, kind, 1, 0, t, if kind = 2 then d else 0⟩).addE d ⟨nm, s.last + 1, kind⟩).names k = s.names k + if s.last + 1 = k then 1 else 0 := fun k => by
    rw [names_addE g1 hd1, names_put f.toGood (fun r hr => by rw [hnew] at hr; cases hr)]
  have hold : ∀ k r, ((s.put ⟨s.last + 1, kind, 1, 0, t, if kind = 2 then d else 0⟩).addE d ⟨nm, s.last + 1, kind⟩).get k = some r →
      (k = s.last + 1 ∧ r = ⟨⟨s.last + 1, kind, 1, 0, t, if kind = 2 then d else 0⟩, []⟩) ∨ (k ≠ s.last + 1 ∧ ∃ x, s.get k = some x ∧ r.nd = x.nd ∧ ((k = d ∧ r.ents = insE ⟨nm, s.last + 1, kind⟩ x.ents) ∨ (k ≠ d ∧ r.ents = x.ents))) := fun k r hr => by
    obtain ⟨y, h1, h2, h3⟩ := mk_get_addE hr
    rw [get_put f.rise] at h1
    by_cases hkl : k = s.last + 1
    · left
      rw [if_pos hkl, hnew] at h1
      injection h1 with h1
      subst h1
      rcases h3 with ⟨h3, _⟩ | ⟨_, h3⟩
      · exact absurd (h3.symm.trans hkl) hdn
      · refine ⟨hkl, ?_⟩
        cases r
        simp only at h2 h3
        rw [h2, h3]; rfl
    · rw [if_neg hkl] at h1
      exact .inr ⟨hkl, y, h1, h2, h3⟩
  refine { (g1.addE hd1 hk hno ⟨hc, hs, hmay, _, hnn, rfl⟩) with cnt := ?_, par := ?_, one := ?_ }
  · intro k r hr
    rw [hnm]
    rcases hold k r hr with ⟨rfl, rfl⟩ | ⟨hkl, y, h1, h2, _⟩
    · have hne1 : ¬ (s.last + 1 = 1) := by omega
      rw [f.names_new hnew, if_pos rfl, if_neg hne1]; rfl
    · rw [h2, if_neg (fun e => hkl e.symm)]
      simpa using f.cnt k y h1
  · intro k r hr e he z hz hz2
    rcases hold _ z hz with ⟨h1, rfl⟩ | ⟨hkl, y, h1, h2, _⟩
    · -- the new node
      have hz2' : kind = 2 := hz2
      subst hz2'
      rcases hold k r hr with ⟨_, rfl⟩ | ⟨_, y, h3, _, h4⟩
      · cases he
      · rcases h4 with ⟨rfl, h4⟩ | ⟨_, h4⟩
        · rfl
        · rw [h4] at he
          obtain ⟨q, hq, _⟩ := (f.ent y (findN_mem h3) e he).node
          rw [h1, hnew] at hq
          cases hq
    · rcases hold k r hr with ⟨_, rfl⟩ | ⟨_, y', h3, _, h4⟩
      · cases he
      · have : e ∈ y'.ents := by
          rcases h4 with ⟨_, h4⟩ | ⟨_, h4⟩
          · rw [h4] at he
            rcases insE_mem.1 he with rfl | he
            · exact absurd rfl hkl
            · exact he
          · rw [h4] at he; exact he
        rw [h2] at hz2 ⊢
        exact f.par k y' h3 e this y h1 hz2
  · intro k r hr h2k
    rcases hold k r hr with ⟨_, rfl⟩ | ⟨_, y, h1, h2, _⟩
    · rfl
    · rw [h2] at h2k ⊢
      exact f.one k y h1 h2k

theorem put_links_kind {s : St} {id : Int} {n : NR} (hn : s.get id = some n) (l : Int) : ∀ r, s.get (setLinks n.nd (l)).id = some r → r.nd.kind = (setLinks n.nd (l)).kind := fun r hr => by
  have hid := findN_id hn
  rw [setLinks_id, hid] at hr
  rw [setLinks_kind]
  rw [hn] at hr
  injection hr with hr
  rw [hr]
theorem valid_links {n : Nd} (h : validB n = true) {l : Int} (h0 : 0 ≤ l) (h1 : l ≤ 16) : validB (setLinks n (l)) = true := by
  simp only [validB, Bool.and_eq_true, decide_eq_true_eq] at h ⊢
  exact ⟨h.1, h.2.1, h0, h1, h.2.2.2.2⟩
theorem valid_lk {n : Nd} (h : validB n = true) : 0 ≤ n.links ∧ n.links ≤ 16 := by
  simp only [validB, Bool.and_eq_true, decide_eq_true_eq] at h
  exact ⟨h.2.2.1, h.2.2.2.1⟩

/-- A name of a node that is no directory is gone. -/
theorem Full.unlink {s : St} (f : Full s) {d : Int} {x n : NR} {nm : ByteArray} {e : En} (hd : s.get d = some x) (hk : x.nd.kind = 2) (he : entOf x.ents nm = some e) (hn : s.get e.node = some n) (hnk : n.nd.kind ≠ 2) :
    Full ((s.delE d nm).put (setLinks n.nd (max (n.nd.links - 1) 0))) ∧ 1 ≤ n.nd.links := by
  have hid := findN_id hn
  have hv := f.val n (findN_mem hn)
  have hlk := valid_lk hv
  have g1 := f.toGood.delE hd hk nm
  obtain ⟨n1, hn1, hn2, hn3, _⟩ := get_delE_of (d := d) (n := nm) hn
  have hdi : e.node ≠ d := by intro h; rw [h, hd] at hn; injection hn with hn; rw [hn] at hk; exact hnk hk
  obtain rfl := hn3 hdi
  have hroot : e.node ≠ 1 := f.not_root hd he
  have hpos : 1 ≤ n1.nd.links := by
    have h1 := f.cnt _ n1 hn
    have h2 := names_pos (s := s) (findN_mem hd) (entOf_mem he)
    rw [if_neg hroot] at h1
    omega
  have hm : max (n1.nd.links - 1) 0 = n1.nd.links - 1 := by omega
  rw [hm]
  have hkk := put_links_kind hn1 (n1.nd.links - 1)
  have g2 : Good ((s.delE d nm).put (setLinks n1.nd (n1.nd.links - 1))) := g1.put (valid_links hv (by omega) (by omega)) hkk (fun h => by rw [setLinks_id, hid, hn1] at h; cases h) (fun h => by rw [setLinks_id, hid] at h; exact absurd h hroot)
  have hnm : ∀ k, ((s.delE d nm).put (setLinks n1.nd (n1.nd.links - 1))).names k + (if e.node = k then 1 else 0) = s.names k := fun k => by
    rw [names_put g1 hkk, names_delE f.toGood hd he]
  have hold : ∀ k r, ((s.delE d nm).put (setLinks n1.nd (n1.nd.links - 1))).get k = some r → ∃ y, s.get k = some y ∧ r.nd = (if k = e.node then (setLinks n1.nd (n1.nd.links - 1)) else y.nd) ∧ (∀ e ∈ r.ents, e ∈ y.ents) := fun k r hr => by
    rw [get_put g1.rise, setLinks_id, hid] at hr
    by_cases hki : k = e.node
    · rw [if_pos hki, hn1] at hr
      injection hr with hr
      subst hr
      refine ⟨n1, by rw [hki]; exact hn, by rw [if_pos hki], fun e he => ?_⟩
      unfold keepE at he
      simp [hnk, setLinks_kind] at he
    · rw [if_neg hki] at hr
      obtain ⟨y, h1, h2, h3⟩ := mk_get_delE hr
      refine ⟨y, h1, by rw [if_neg hki]; exact h2, fun e he => ?_⟩
      rcases h3 with ⟨_, h3⟩ | ⟨_, h3⟩
      · rw [h3] at he; exact (cutE_mem.1 he).1
      · rw [h3] at he; exact he
  refine ⟨{ g2 with cnt := ?_, par := ?_, one := ?_ }, hpos⟩
  · intro k r hr
    obtain ⟨y, h1, h2, _⟩ := hold k r hr
    have h3 := f.cnt k y h1
    have h4 := hnm k
    rw [h2]
    by_cases hki : k = e.node
    · subst hki
      rw [hn] at h1
      injection h1 with h1
      subst h1
      rw [if_pos rfl] at h4 ⊢
      show n1.nd.links - 1 = _
      omega
    · rw [if_neg hki]
      rw [if_neg (fun e => hki e.symm)] at h4
      rw [show ((s.delE d nm).put (setLinks n1.nd (n1.nd.links - 1))).names k = s.names k by omega]
      exact h3
  · intro k r hr e' he' z hz hz2
    obtain ⟨y, h1, h2, h3⟩ := hold k r hr
    obtain ⟨q, h4, h5, _⟩ := hold _ z hz
    by_cases hki : e'.node = e.node
    · rw [if_pos hki] at h5
      rw [h5] at hz2
      exact absurd hz2 hnk
    · rw [if_neg hki] at h5
      rw [h5] at hz2 ⊢
      exact f.par k y h1 e' (h3 e' he') q h4 hz2
  · intro k r hr h2k
    obtain ⟨y, h1, h2, _⟩ := hold k r hr
    by_cases hki : k = e.node
    · rw [if_pos hki] at h2
      rw [h2] at h2k
      exact absurd h2k hnk
    · rw [if_neg hki] at h2
      rw [h2] at h2k ⊢
      exact f.one k y h1 h2k

/-- What has no names is gone. -/
theorem Full.gone {s : St} (f : Full s) {id : Int} (h1 : id ≠ 1) (h0 : s.names id = 0) (he : ∀ r, s.get id = some r → r.ents = []) : Full (s.drop id) := by
  have hn := names_zero h0
  have hg : ∀ k r, (s.drop id).get k = some r → s.get k = some r ∧ k ≠ id := fun k r hr => by
    rw [get_drop] at hr
    by_cases hk : k = id
    · rw [if_pos hk] at hr; cases hr
    · rw [if_neg hk] at hr; exact ⟨hr, hk⟩
  refine { (f.toGood.drop h1 fun r hr _ e he => hn r hr e he) with cnt := ?_, par := ?_, one := ?_ }
  · intro k r hr
    rw [names_drop f.toGood he]
    exact f.cnt k r (hg k r hr).1
  · intro k r hr e he x hx
    exact f.par k r (hg k r hr).1 e he x (hg _ x hx).1
  · intro k r hr
    exact f.one k r (hg k r hr).1

/-- An empty directory is gone, with its name. -/
theorem Full.rmdir {s : St} (f : Full s) {d : Int} {x n : NR} {nm : ByteArray} {e : En} (hd : s.get d = some x) (hk : x.nd.kind = 2) (he : entOf x.ents nm = some e) (hn : s.get e.node = some n) (hnk : n.nd.kind = 2) (hem : n.ents = []) :
    Full ((s.delE d nm).drop e.node) := by
  have g1 := f.toGood.delE hd hk nm
  have hroot : e.node ≠ 1 := f.not_root hd he
  have hdi : e.node ≠ d := by intro h; rw [h, hd] at hn; injection hn with hn; rw [← hn] at hem; rw [hem] at he; cases he
  have hc := f.cnt _ n hn
  rw [f.one _ n hn hnk, if_neg hroot] at hc
  have hnm : ∀ k, (s.delE d nm).names k + (if e.node = k then 1 else 0) = s.names k := fun k => names_delE f.toGood hd he k
  have h0 : (s.delE d nm).names e.node = 0 := by have := hnm e.node; rw [if_pos rfl] at this; omega
  have hz := names_zero h0
  have hents : ∀ r, (s.delE d nm).get e.node = some r → r.ents = [] := fun r hr => by
    obtain ⟨y, h1, h2, h3⟩ := mk_get_delE hr
    rw [hn] at h1
    injection h1 with h1
    subst h1
    rcases h3 with ⟨h3, _⟩ | ⟨_, h3⟩
    · exact absurd h3 hdi
    · rw [h3]; exact hem
  have hold : ∀ k r, ((s.delE d nm).drop e.node).get k = some r → k ≠ e.node ∧ ∃ y, s.get k = some y ∧ r.nd = y.nd ∧ ∀ e ∈ r.ents, e ∈ y.ents := fun k r hr => by
    rw [get_drop] at hr
    by_cases hki : k = e.node
    · rw [if_pos hki] at hr; cases hr
    · rw [if_neg hki] at hr
      obtain ⟨y, h1, h2, h3⟩ := mk_get_delE hr
      refine ⟨hki, y, h1, h2, fun e he => ?_⟩
      rcases h3 with ⟨_, h3⟩ | ⟨_, h3⟩
      · rw [h3] at he; exact (cutE_mem.1 he).1
      · rw [h3] at he; exact he
  refine { (g1.drop hroot fun r hr _ e he => hz r hr e he) with cnt := ?_, par := ?_, one := ?_ }
  · intro k r hr
    obtain ⟨hki, y, h1, h2, _⟩ := hold k r hr
    rw [names_drop g1 hents, h2]
    have := hnm k
    rw [if_neg (fun e => hki e.symm)] at this
    rw [show (s.delE d nm).names k = s.names k by omega]
    exact f.cnt k y h1
  · intro k r hr e' he' z hz hz2
    obtain ⟨_, y, h1, h2, h3⟩ := hold k r hr
    obtain ⟨_, q, h4, h5, _⟩ := hold _ z hz
    rw [h5] at hz2 ⊢
    exact f.par k y h1 e' (h3 e' he') q h4 hz2
  · intro k r hr h2k
    obtain ⟨_, y, h1, h2, _⟩ := hold k r hr
    rw [h2] at h2k ⊢
    exact f.one k y h1 h2k
theorem keepE_both {n : Nd} {r : NR} (h1 : n.kind = 2) (h2 : r.nd.kind = 2) : keepE n (some r) = r.ents := by
  unfold keepE
  simp only
  rw [if_pos ⟨h1, h2⟩]
theorem valid_par {n : Nd} (h : validB n = true) (hk : n.kind = 2) {d : Int} (hd : 1 ≤ d ∧ d ≤ 16777215) : validB (setPar n d) = true := by
  simp only [validB, setPar, Bool.and_eq_true, decide_eq_true_eq, hk, if_pos] at h ⊢
  obtain ⟨a1, a2, a3, a4, a5, a6, a7, a8, a9, _⟩ := h
  exact ⟨a1, a2, a3, a4, a5, a6, a7, a8, a9, by simp [idB, hd]⟩
theorem Full.move {s : St} (f : Full s) {d1 d2 : Int} {x1 x2 n : NR} {nm1 nm2 : ByteArray} {e : En} (h1 : s.get d1 = some x1) (hk1 : x1.nd.kind = 2) (he : entOf x1.ents nm1 = some e) (hn : s.get e.node = some n)
    (h2 : s.get d2 = some x2) (hk2 : x2.nd.kind = 2) (hno : entOf x2.ents nm2 = none) (hc : nmCode nm2 = 0) (hs : nmSpecial nm2 = false) : Full (moveS s d1 nm1 d2 nm2 n.nd) := by
  have hid := findN_id hn
  have hv := f.val n (findN_mem hn)
  have hroot : e.node ≠ 1 := f.not_root h1 he
  have g1 := f.toGood.delE h1 hk1 nm1
  obtain ⟨n1, hn1, hn2, hn3, hn4⟩ := get_delE_of (d := d1) (n := nm1) hn
  obtain ⟨y2, hy1, hy2, hy3, hy4⟩ := get_delE_of (d := d1) (n := nm1) h2
  have hd2 : 1 ≤ d2 ∧ d2 ≤ 16777215 := by
    have := valid_ids (f.val x2 (findN_mem h2))
    rwa [findN_id h2] at this
  have hyno : entOf y2.ents nm2 = none := by
    by_cases hdd : d2 = d1
    · rw [hy4 hdd, entOf_cutE]
      split
      · rfl
      · exact hno
    · rw [hy3 hdd]; exact hno
  -- the state between
  obtain ⟨s1, hs1⟩ : ∃ s1, s1 = if n.nd.kind = 2 then (s.delE d1 nm1).put (setPar n.nd d2) else s.delE d1 nm1 := ⟨_, rfl⟩
  have hkk : ∀ r, (s.delE d1 nm1).get (setPar n.nd d2).id = some r → r.nd.kind = (setPar n.nd d2).kind := fun r hr => by
    rw [setPar_id, hid, hn1] at hr
    injection hr with hr
    rw [← hr, hn2, setPar_kind]
  have G1 : Good s1 := by
    rw [hs1]
    by_cases hk : n.nd.kind = 2
    · rw [if_pos hk]
      exact g1.put (valid_par hv hk hd2) hkk (fun h => by rw [setPar_id, hid, hn1] at h; cases h) (fun h => by rw [setPar_id, hid] at h; exact absurd h hroot)
    · rw [if_neg hk]; exact g1
  have N1 : ∀ k, s1.names k + (if e.node = k then 1 else 0) = s.names k := fun k => by
    rw [← names_delE f.toGood h1 he k, hs1]
    by_cases hk : n.nd.kind = 2
    · rw [if_pos hk, names_put g1 hkk]
    · rw [if_neg hk]
  have O1 : ∀ k r, s1.get k = some r → ∃ y, s.get k = some y ∧ r.nd = (if k = e.node ∧ n.nd.kind = 2 then setPar n.nd d2 else y.nd) ∧ (∀ e ∈ r.ents, e ∈ y.ents) := fun k r hr => by
    rw [hs1] at hr
    by_cases hk : n.nd.kind = 2
    · rw [if_pos hk, get_put g1.rise, setPar_id, hid] at hr
      by_cases hki : k = e.node
      · rw [if_pos hki, hn1] at hr
        injection hr with hr
        subst hr
        refine ⟨n, by rw [hki]; exact hn, by rw [if_pos ⟨hki, hk⟩], fun e' he' => ?_⟩
        have : e' ∈ n1.ents := by
          have h9 : keepE (setPar n.nd d2) (some n1) = n1.ents := keepE_both hk (by rw [hn2]; exact hk)
          rw [← h9]; exact he'
        by_cases hdd : e.node = d1
        · rw [hn4 hdd] at this; exact (cutE_mem.1 this).1
        · rw [hn3 hdd] at this; exact this
      · rw [if_neg hki] at hr
        obtain ⟨y, h3, h4, h5⟩ := mk_get_delE hr
        refine ⟨y, h3, by rw [if_neg (fun h => hki h.1)]; exact h4, fun e' he' => ?_⟩
        rcases h5 with ⟨_, h5⟩ | ⟨_, h5⟩
        · rw [h5] at he'; exact (cutE_mem.1 he').1
        · rw [h5] at he'; exact he'
    · rw [if_neg hk] at hr
      obtain ⟨y, h3, h4, h5⟩ := mk_get_delE hr
      refine ⟨y, h3, by rw [if_neg (fun h => hk h.2)]; exact h4, fun e' he' => ?_⟩
      rcases h5 with ⟨_, h5⟩ | ⟨_, h5⟩
      · rw [h5] at he'; exact (cutE_mem.1 he').1
      · rw [h5] at he'; exact he'
  have D1 : ∃ z, s1.get d2 = some z ∧ z.nd.kind = 2 ∧ entOf z.ents nm2 = none := by
    rw [hs1]
    by_cases hk : n.nd.kind = 2
    · rw [if_pos hk, get_put g1.rise, setPar_id, hid]
      by_cases hki : d2 = e.node
      · rw [if_pos hki]
        rw [← hki, hy1] at hn1
        injection hn1 with hn1
        subst hn1
        refine ⟨_, rfl, hk, ?_⟩
        rw [← hki, hy1]
        have h9 : keepE (setPar n.nd d2) (some y2) = y2.ents := keepE_both hk (by rw [hn2]; exact hk)
        show entOf (keepE (setPar n.nd d2) (some y2)) nm2 = none
        rw [h9]
        exact hyno
      · rw [if_neg hki]
        exact ⟨y2, hy1, by rw [hy2]; exact hk2, hyno⟩
    · rw [if_neg hk]
      exact ⟨y2, hy1, by rw [hy2]; exact hk2, hyno⟩
  have E1 : ∃ z, s1.get e.node = some z ∧ z.nd.kind = n.nd.kind := by
    rw [hs1]
    by_cases hk : n.nd.kind = 2
    · rw [if_pos hk, get_put g1.rise, setPar_id, hid, if_pos rfl]
      exact ⟨_, rfl, rfl⟩
    · rw [if_neg hk]
      exact ⟨n1, hn1, by rw [hn2]⟩
  obtain ⟨z, hz1, hz2, hz3⟩ := D1
  have hmay : mayB ⟨nm2, n.nd.id, n.nd.kind⟩ = true := by
    have h3 := valid_ids hv
    simp only [validB, kindB, Bool.and_eq_true, decide_eq_true_eq] at hv
    simp only [mayB, Bool.and_eq_true, decide_eq_true_eq]
    exact ⟨h3.1, h3.2, hv.2.1.1, hv.2.1.2⟩
  have hM : moveS s d1 nm1 d2 nm2 n.nd = s1.addE d2 ⟨nm2, n.nd.id, n.nd.kind⟩ := by rw [hs1]; rfl
  rw [hM]
  have hnm : ∀ k, (s1.addE d2 ⟨nm2, n.nd.id, n.nd.kind⟩).names k = s.names k := fun k => by
    rw [names_addE G1 hz1]
    have := N1 k
    simp only [hid]
    omega
  have hold : ∀ k r, (s1.addE d2 ⟨nm2, n.nd.id, n.nd.kind⟩).get k = some r → ∃ y, s.get k = some y ∧ r.nd = (if k = e.node ∧ n.nd.kind = 2 then setPar n.nd d2 else y.nd) ∧ (∀ e' ∈ r.ents, (e' ∈ y.ents ∧ ∃ q, s1.get k = some q ∧ e' ∈ q.ents) ∨ (k = d2 ∧ e'.node = e.node)) := fun k r hr => by
    obtain ⟨q, h3, h4, h5⟩ := mk_get_addE hr
    obtain ⟨y, h6, h7, h8⟩ := O1 k q h3
    refine ⟨y, h6, h4.trans h7, fun e' he' => ?_⟩
    rcases h5 with ⟨hkd, h5⟩ | ⟨_, h5⟩
    · rw [h5] at he'
      rcases insE_mem.1 he' with rfl | he'
      · exact .inr ⟨hkd, hid⟩
      · exact .inl ⟨h8 _ he', q, h3, he'⟩
    · rw [h5] at he'; exact .inl ⟨h8 _ he', q, h3, he'⟩
  refine { (G1.addE hz1 hz2 hz3 ⟨hc, hs, hmay, by simp only [hid]; exact E1⟩) with cnt := ?_, par := ?_, one := ?_ }
  · intro k r hr
    obtain ⟨y, h3, h4, _⟩ := hold k r hr
    have h5 := f.cnt k y h3
    rw [hnm, h4]
    by_cases hki : k = e.node ∧ n.nd.kind = 2
    · rw [if_pos hki]
      rw [hki.1, hn] at h3
      injection h3 with h3
      subst h3
      exact h5
    · rw [if_neg hki]; exact h5
  · intro k r hr e' he' w hw hw2
    obtain ⟨y, h3, h4, h5⟩ := hold k r hr
    obtain ⟨q, h6, h7, _⟩ := hold _ w hw
    by_cases hki : e'.node = e.node
    · rw [hki, hn] at h6
      injection h6 with h6
      subst h6
      have hkn : n.nd.kind = 2 := by
        rw [h7] at hw2
        by_cases hx : e'.node = e.node ∧ n.nd.kind = 2
        · exact hx.2
        · rw [if_neg hx] at hw2; exact hw2
      rw [h7, if_pos ⟨hki, hkn⟩]
      show d2 = k
      rcases h5 e' he' with ⟨_, q, h8, h9⟩ | ⟨h8, _⟩
      · -- no other name
        have h10 := f.cnt _ n hn
        rw [f.one _ n hn hkn, if_neg hroot] at h10
        have h11 := N1 e.node
        rw [if_pos rfl] at h11
        have h12 : s1.names e.node = 0 := by omega
        exact absurd hki (names_zero h12 q (findN_mem h8) e' h9)
      · exact h8.symm
    · rw [if_neg (fun h => hki h.1)] at h7
      rw [h7] at hw2 ⊢
      rcases h5 e' he' with ⟨h8, _⟩ | ⟨_, h8⟩
      · exact f.par k y h3 e' h8 q h6 hw2
      · exact absurd h8 hki
  · intro k r hr h2k
    obtain ⟨y, h3, h4, _⟩ := hold k r hr
    by_cases hki : k = e.node ∧ n.nd.kind = 2
    · rw [h4, if_pos hki]
      exact f.one _ n hn hki.2
    · rw [if_neg hki] at h4
      rw [h4] at h2k ⊢
      exact f.one k y h3 h2k
theorem freshP_ok {s : St} {p : Pth} {sl : Bool} {f : Fnd} (h : freshP s p sl = (0, f)) : LastOk s p f ∧ f.node ≤ 0 ∧ (p.slash = true → sl = true) := by
  unfold freshP at h
  simp only at h
  split at h
  · rename_i hc; injection h with h; exact absurd h hc
  · rename_i hc
    split at h
    · cases h
    · rename_i hn
      split at h
      · cases h
      · rename_i hs
        have h1 : lastP s p = (0, f) := h
        rw [h1] at hn
        refine ⟨lastP_ok h1, by simp only at hn; omega, fun hp => ?_⟩
        rw [hp] at hs
        simpa using hs
theorem LastOk.fresh {s : St} (g : Good s) {p : Pth} {f : Fnd} (h : LastOk s p f) (h0 : f.node ≤ 0) : ∃ x, s.get f.dir = some x ∧ x.nd.kind = 2 ∧ entOf x.ents f.name = none := by
  obtain ⟨x, h1, h2, h3⟩ := h.at'
  rcases h3 with ⟨_, h3⟩ | ⟨e, h4, h5, _⟩
  · exact ⟨x, h1, h2, h3⟩
  · obtain ⟨_, _, _, h6, _⟩ := entry_node g h1 h4
    omega
theorem tgt_ok {t : ByteArray} (h : tgtCode t = 0) : t.data.toList ≠ [] ∧ t.size ≤ 88 ∧ t.data.toList.contains 0 = false := by
  unfold tgtCode at h
  split at h
  · omega
  · split at h
    · omega
    · split at h
      · omega
      · rename_i h1 h2 h3
        exact ⟨h1, by omega, by simpa using h3⟩
theorem dir_ids {s : St} (g : Good s) {d : Int} {x : NR} (h : s.get d = some x) : 1 ≤ d ∧ d ≤ 16777215 ∧ d ≤ s.last := by
  have h1 := valid_ids (g.val x (findN_mem h))
  have h2 := g.ids x (findN_mem h)
  rw [findN_id h] at h1 h2
  exact ⟨h1.1, h1.2, h2⟩

theorem make_valid {s : St} (g : Good s) {kind d : Int} {x : NR} {t : ByteArray} (hd : s.get d = some x) (hk : 1 ≤ kind ∧ kind ≤ 3) (ht : kind = 3 → tgtCode t = 0) (hl : s.last < 16777215) :
    validB ⟨s.last + 1, kind, 1, 0, if kind = 3 then t else noText, if kind = 2 then d else 0⟩ = true := by
  have hlo := g.lo
  have h2 := dir_ids g hd
  have hi : idB (s.last + 1) = true := by simp [idB]; omega
  have hd2 : idB d = true := by simp [idB]; omega
  have hkb : kindB kind = true := by simp [kindB]; omega
  have hk3 : kind = 1 ∨ kind = 2 ∨ kind = 3 := by omega
  have hno : noText.toList.isEmpty = true := by decide +kernel
  have hsz : noText.size ≤ 88 := by decide +kernel
  unfold validB
  simp only [hi, hkb, Bool.true_and]
  rcases hk3 with rfl | rfl | rfl
  · simp [hno, hsz]
  · simp [hno, hd2, hsz]
  · obtain ⟨h3, h4, _⟩ := tgt_ok (ht rfl)
    simp [toList_empty h3, h4]

theorem makeT_full {s : St} (f : Full s) (a : ByteArray) (kind : Int) (to : ByteArray) : Full (makeT s a kind to).2.2 := by
  unfold makeT
  simp only
  split
  · exact f
  · split
    · exact f
    · split
      · exact f
      · split
        · exact f
        · split
          · exact f
          · rename_i hp hk ht hf hn
            obtain ⟨p, hp'⟩ : ∃ p, parseP a = (0, p) := ⟨(parseP a).2, Prod.ext (by simpa using hp) rfl⟩
            obtain ⟨q, hq⟩ : ∃ q, freshP s p (kind == 2) = (0, q) := ⟨(freshP s p (kind == 2)).2, Prod.ext (by rw [hp'] at hf; simpa using hf) rfl⟩
            rw [hp']
            simp only
            rw [hq]
            simp only
            obtain ⟨h1, h2, _⟩ := freshP_ok hq
            obtain ⟨x, hx, hxk, hno⟩ := h1.fresh f.toGood h2
            obtain ⟨hc, hs⟩ := h1.name hp'
            exact f.make hx hxk hno hc hs (make_valid f.toGood hx (by omega) (fun h3 => by
              refine Classical.byContradiction fun h4 => ht ⟨h3, h4⟩) (by omega)) (by omega) (by omega) (by omega)
/-- What is there at a path's last part. -/
structure ThereOk (s : St) (p : Pth) (f : Fnd) (n : Nd) : Prop where
  last : LastOk s p f
  ex : ∃ x e r, s.get f.dir = some x ∧ x.nd.kind = 2 ∧ entOf x.ents f.name = some e ∧ e.node = f.node ∧ s.get f.node = some r ∧ r.nd = n
theorem thereP_ok {s : St} (g : Good s) {p : Pth} {f : Fnd} {n : Nd} (h : thereP s p = (0, f, n)) : ThereOk s p f n := by
  unfold thereP at h
  simp only at h
  split at h
  · rename_i hc; injection h with h; exact absurd h hc
  · rename_i hc
    split at h
    · cases h
    · rename_i r hr
      injection h with _ h
      injection h with h1 h2
      have h3 : lastP s p = (0, f) := Prod.ext (by simpa using hc) h1
      rw [h1] at hr
      have hl := lastP_ok h3
      obtain ⟨x, h4, h5, h6⟩ := hl.at'
      rcases h6 with ⟨h6, _⟩ | ⟨e, h6, h7, _⟩
      · rw [h6, g.no (.inr (by omega))] at hr; cases hr
      · exact ⟨hl, x, e, r, h4, h5, h6, h7, hr, h2⟩
theorem unlinkT_full {s : St} (f : Full s) (a : ByteArray) : Full (unlinkT s a).2.2 := by
  unfold unlinkT
  simp only
  split
  · exact f
  · split
    · exact f
    · split
      · exact f
      · rename_i hp hf hk
        obtain ⟨q, n, hq⟩ : ∃ q n, thereP s (parseP a).2 = (0, q, n) := ⟨(thereP s (parseP a).2).2.1, (thereP s (parseP a).2).2.2, Prod.ext (by simpa using hf) rfl⟩
        rw [hq] at hk ⊢
        simp only at hk ⊢
        obtain ⟨_, x, e, r, h1, h2, h3, h4, h5, h6⟩ := thereP_ok f.toGood hq
        subst h6
        rw [← h4] at h5
        exact (f.unlink h1 h2 h3 h5 hk).1
theorem full_ents {s : St} {id : Int} {r : NR} (h : s.get id = some r) (hk : r.nd.kind = 2) (hf : s.full id = false) : r.ents = [] := by
  unfold St.full at hf
  rw [dirOf_of h hk] at hf
  simpa using hf
theorem freeT_full {s : St} (f : Full s) (id : Int) : Full (freeT s id).2 := by
  unfold freeT
  split
  · exact f
  · rename_i n hn
    split
    · exact f
    · rename_i hl
      have hlk := valid_lk (f.val n (findN_mem hn))
      have h1 := f.cnt id n hn
      have h2 : id ≠ 1 := by rintro rfl; rw [if_pos rfl] at h1; omega
      rw [if_neg h2] at h1
      refine f.gone h2 (by omega) fun r hr => ?_
      rw [hn] at hr
      injection hr with hr
      subst hr
      refine f.flat n (findN_mem hn) fun hk => ?_
      have := f.one id n hn hk
      omega
/-- What is named by g is put out: the tree stays a tree; what else is named stays. -/
theorem ousted_full {s : St} (f : Full s) {p : Pth} {g : Fnd} (hg : LastOk s p g) (hc : ∀ m, s.get g.node = some m → m.nd.kind = 2 → s.full m.nd.id = false) :
    Full (ousted s g) ∧ (∃ x, (ousted s g).get g.dir = some x ∧ x.nd.kind = 2 ∧ entOf x.ents g.name = none) ∧
      (∀ d x nm e, s.get d = some x → x.nd.kind = 2 → entOf x.ents nm = some e → e.node ≠ g.node → ∃ x', (ousted s g).get d = some x' ∧ x'.nd = x.nd ∧ entOf x'.ents nm = some e) ∧
      (∀ k n, s.get k = some n → k ≠ g.node → ∃ n', (ousted s g).get k = some n' ∧ n'.nd = n.nd) := by
  obtain ⟨x, hx, hxk, h3⟩ := hg.at'
  unfold ousted
  cases hm : s.get g.node with
  | none =>
    simp only
    have hno : entOf x.ents g.name = none := by
      rcases h3 with ⟨_, h3⟩ | ⟨e, h4, h5, _⟩
      · exact h3
      · obtain ⟨y, h6, _⟩ := entry_node f.toGood hx h4
        rw [h5, hm] at h6
        cases h6
    exact ⟨f, ⟨x, hx, hxk, hno⟩, fun d x nm e h1 _ h2 _ => ⟨x, h1, rfl, h2⟩, fun k n h1 _ => ⟨n, h1, rfl⟩⟩
  | some m =>
    simp only
    have hmid := findN_id hm
    obtain ⟨e, h4, h5⟩ : ∃ e, entOf x.ents g.name = some e ∧ e.node = g.node := by
      rcases h3 with ⟨h3, _⟩ | ⟨e, h4, h5, _⟩
      · rw [h3, f.no (.inr (by omega))] at hm; cases hm
      · exact ⟨e, h4, h5⟩
    have hm' := hm
    rw [← h5] at hm'
    -- behind the entry's going
    have Hd : ∀ d y, s.get d = some y → ∃ y', (s.delE g.dir g.name).get d = some y' ∧ y'.nd = y.nd ∧ (∀ nm, entOf y'.ents nm = if d = g.dir ∧ nm = g.name then none else entOf y.ents nm) := fun d y hy => by
      obtain ⟨r, h6, h7, h8, h9⟩ := get_delE_of (d := g.dir) (n := g.name) hy
      refine ⟨r, h6, h7, fun nm => ?_⟩
      by_cases hd : d = g.dir
      · rw [h9 hd, entOf_cutE]
        by_cases hn : nm = g.name
        · rw [if_pos hn, if_pos ⟨hd, hn⟩]
        · rw [if_neg hn, if_neg (fun h => hn h.2)]
      · rw [h8 hd, if_neg (fun h => hd h.1)]
    have g1 := f.toGood.delE hx hxk g.name
    by_cases hk : m.nd.kind = 2
    · rw [if_pos hk, hmid]
      have hem : m.ents = [] := full_ents hm hk (by have := hc m hm hk; rwa [hmid] at this)
      have hfull := f.rmdir hx hxk h4 hm' hk hem
      rw [h5] at hfull
      have hgd : g.dir ≠ g.node := by
        intro h
        rw [h, hm] at hx
        injection hx with hx
        rw [← hx, hem] at h4
        cases h4
      refine ⟨hfull, ?_, ?_, ?_⟩
      · obtain ⟨x', h6, h7, h8⟩ := Hd _ _ hx
        refine ⟨x', by rw [get_drop, if_neg hgd]; exact h6, by rw [h7]; exact hxk, by rw [h8, if_pos ⟨rfl, rfl⟩]⟩
      · intro d y nm e' hy hyk he' hne
        obtain ⟨y', h6, h7, h8⟩ := Hd _ _ hy
        have hd : d ≠ g.node := by
          intro h
          rw [h, hm] at hy
          injection hy with hy
          rw [← hy, hem] at he'
          cases he'
        refine ⟨y', by rw [get_drop, if_neg hd]; exact h6, h7, ?_⟩
        rw [h8, if_neg]
        · exact he'
        · rintro ⟨rfl, rfl⟩
          rw [hx] at hy
          injection hy with hy
          rw [hy, he'] at h4
          injection h4 with h4
          rw [h4] at hne
          exact hne h5
      · intro k n hn hne
        obtain ⟨n', h6, h7, _⟩ := Hd _ _ hn
        exact ⟨n', by rw [get_drop, if_neg hne]; exact h6, h7⟩
    · rw [if_neg hk]
      have hfull := (f.unlink hx hxk h4 hm' hk).1
      have hgp : ∀ k, ((s.delE g.dir g.name).put (setLinks m.nd (max (m.nd.links - 1) 0))).get k = if k = g.node then some ⟨setLinks m.nd (max (m.nd.links - 1) 0), keepE (setLinks m.nd (max (m.nd.links - 1) 0)) ((s.delE g.dir g.name).get g.node)⟩ else (s.delE g.dir g.name).get k := fun k => by
        rw [get_put g1.rise, setLinks_id, hmid]
      have hgd : g.dir ≠ g.node := by
        intro h
        rw [h, hm] at hx
        injection hx with hx
        rw [← hx] at hxk
        exact hk hxk
      refine ⟨hfull, ?_, ?_, ?_⟩
      · obtain ⟨x', h6, h7, h8⟩ := Hd _ _ hx
        refine ⟨x', by rw [hgp, if_neg hgd]; exact h6, by rw [h7]; exact hxk, by rw [h8, if_pos ⟨rfl, rfl⟩]⟩
      · intro d y nm e' hy hyk he' hne
        obtain ⟨y', h6, h7, h8⟩ := Hd _ _ hy
        have hd : d ≠ g.node := by
          intro h
          rw [h, hm] at hy
          injection hy with hy
          rw [← hy] at hyk
          exact hk hyk
        refine ⟨y', by rw [hgp, if_neg hd]; exact h6, h7, ?_⟩
        rw [h8, if_neg]
        · exact he'
        · rintro ⟨rfl, rfl⟩
          rw [hx] at hy
          injection hy with hy
          rw [hy, he'] at h4
          injection h4 with h4
          rw [h4] at hne
          exact hne h5
      · intro k n hn hne
        obtain ⟨n', h6, h7, _⟩ := Hd _ _ hn
        exact ⟨n', by rw [hgp, if_neg hne]; exact h6, h7⟩

theorem renameT_full {s : St} (f : Full s) (a b : ByteArray) : Full (renameT s a b).2.2 := by
  unfold renameT
  simp only
  split
  · exact f
  · split
    · exact f
    · split
      · exact f
      · split
        · exact f
        · split
          · exact f
          · split
            · exact f
            · split
              · exact f
              · rename_i hp hq hf hg hne hw hc
                obtain ⟨q, hq'⟩ : ∃ p, parseP b = (0, p) := ⟨(parseP b).2, Prod.ext (by simpa using hq) rfl⟩
                obtain ⟨q1, n, hq1⟩ : ∃ q n, thereP s (parseP a).2 = (0, q, n) := ⟨(thereP s (parseP a).2).2.1, (thereP s (parseP a).2).2.2, Prod.ext (by simpa using hf) rfl⟩
                obtain ⟨g, hg'⟩ : ∃ g, lastP s q = (0, g) := ⟨(lastP s q).2, Prod.ext (by rw [hq'] at hg; simpa using hg) rfl⟩
                rw [hq', hq1] at hc
                rw [hq1, hq'] at hne
                rw [hq', hq1]
                simp only at hc hne ⊢
                rw [hg'] at hc hne ⊢
                simp only at hc hne ⊢
                obtain ⟨_, x, e, r, h1, h2, h3, h4, h5, h6⟩ := thereP_ok f.toGood hq1
                subst h6
                have hl := lastP_ok hg'
                obtain ⟨hc1, hs1⟩ := hl.name hq'
                obtain ⟨F, ⟨z, hz1, hz2, hz3⟩, H1, H2⟩ := ousted_full f hl (fun m hm hk => by
                  unfold renC at hc
                  rw [hm] at hc
                  simp only at hc
                  unfold ontoC at hc
                  by_cases hr2 : r.nd.kind = 2
                  · rw [if_neg (fun h => h.2 hk), if_neg (fun h => h.1 hr2)] at hc
                    cases hb : s.full m.nd.id with
                    | false => rfl
                    | true => rw [if_pos ⟨hk, hb⟩] at hc; exact absurd (by decide) hc
                  · rw [if_neg (fun h => hr2 h.1), if_pos ⟨hr2, hk⟩] at hc
                    exact absurd (by decide) hc)
                obtain ⟨x', h7, h8, h9⟩ := H1 _ _ _ _ h1 h2 h3 (by rw [h4]; exact hne)
                obtain ⟨n', h10, h11⟩ := H2 _ _ h5 hne
                rw [← h4] at h10
                have := F.move h7 (by rw [h8]; exact h2) h9 h10 hz1 hz2 hz3 hc1 hs1
                rw [h11] at this
                exact this
end Go.Proofs.YtjekpbkmhgfhoaaGreatDoor
end

section
/- A tree in memory: the world's block, its node table, its map of directories, each directory in blocks of its own; what each operation of tables and directories makes of it. -/
namespace Go.Proofs.YtjekpbkmhgfhoaaGreatDoor
open Go Go.RowKit
set_option maxRecDepth 100000
set_option linter.unusedSimpArgs false
set_option linter.unusedVariables false
variable {E : Nat → Addr} {B : Nat}

/-- Below B nothing has turned, nor have the blocks of L. -/
structure KeptP (B : Nat) (L : Nat → Prop) (w w' : World) : Prop where
  below : Below B w w'
  loc : ∀ x, L x → w'.heap[x]? = w.heap[x]?
section
variable {L L' : Nat → Prop} {a b c : World}
theorem KeptP.refl (B : Nat) (L : Nat → Prop) (w : World) : KeptP B L w w := ⟨Below.refl _ _, fun _ _ => rfl⟩
theorem KeptP.trans (h : KeptP B L a b) (k : KeptP B L b c) : KeptP B L a c := ⟨h.below.trans k.below, fun x hx => (k.loc x hx).trans (h.loc x hx)⟩
theorem KeptP.mono (h : KeptP B L a b) (hL : ∀ x, L' x → L x) : KeptP B L' a b := ⟨h.below, fun x hx => h.loc x (hL x hx)⟩
theorem KeptP.of_below (h : Below a.heap.size a b) (hB : B ≤ a.heap.size) (hL : ∀ x, L x → x < a.heap.size) : KeptP B L a b := ⟨h.mono hB, fun x hx => h.block x (hL x hx)⟩
theorem KeptP.of_touch {S : Nat → Prop} (h : Touch S a b) (hB : B ≤ a.heap.size) (hL : ∀ x, L x → x < a.heap.size) (hS : ∀ x, S x → B ≤ x ∧ ¬ L x) : KeptP B L a b :=
  ⟨h.below hB (fun x hx => (hS x hx).1), fun x hx => h.block x (hL x hx) (fun hs => (hS x hs).2 hx)⟩
theorem KeptP.cell (h : KeptP B L a b) {x : Nat} (hx : L x) (o : Nat) : b.cell? ⟨x, o, none⟩ = a.cell? ⟨x, o, none⟩ := World.cell?_of_block (w := a) (h.loc x hx)
theorem KeptP.froz (h : KeptP B L a b) {x : Nat} (hx : L x) (o : Nat) : b.frozen? ⟨x, o, none⟩ = a.frozen? ⟨x, o, none⟩ := World.frozen?_of_block (w := a) (h.loc x hx)
/-- Over a step that made new blocks only, the locals among them. -/
theorem KeptP.less (h : Below a.heap.size a b) (k : KeptP B L' b c) (hB : B ≤ a.heap.size) (hL : ∀ x, L x → x < a.heap.size) (hl : ∀ x, L x → L' x) : KeptP B L a c :=
  (KeptP.of_below h hB hL).trans (k.mono hl)
end

/-! ### the plain tree as functions -/
def St.nd (s : St) (k : Int) : Option Nd := (s.get k).map NR.nd
def St.ents (s : St) (k : Int) : List En := ((s.get k).map NR.ents).getD []
theorem St.isDir_nd (s : St) (k : Int) : s.isDir k = match s.nd k with | some n => n.kind == 2 | none => false := by
  unfold St.isDir St.nd
  cases s.get k <;> rfl
theorem nd_put {s : St} (hr : RiseN s.ns) (n : Nd) : (s.put n).nd = upd s.nd n.id n := by
  funext k
  unfold St.nd upd
  rw [get_put hr]
  split <;> simp
theorem ents_put {s : St} (hr : RiseN s.ns) (n : Nd) : (s.put n).ents = fun k => if k = n.id then keepE n (s.get n.id) else s.ents k := by
  funext k
  unfold St.ents
  rw [get_put hr]
  split <;> simp
theorem nd_addE (s : St) (d : Int) (e : En) : (s.addE d e).nd = s.nd := by
  funext k
  unfold St.nd
  rw [get_addE]
  cases s.get k with
  | none => rfl
  | some r => simp only [Option.map_some]; split <;> rfl
theorem ents_addE {s : St} {d : Int} (hd : s.isDir d = true) (e : En) : (s.addE d e).ents = fun k => if k = d then insE e (s.ents d) else s.ents k := by
  funext k
  unfold St.ents
  rw [get_addE]
  cases hk : s.get k with
  | none =>
    simp only [Option.map_none, Option.getD_none]
    split
    · rename_i h; subst h; simp [St.isDir, hk] at hd
    · rfl
  | some r =>
    have hid : r.nd.id = k := findN_id hk
    simp only [Option.map_some, Option.getD_some, hid]
    split
    · rename_i h; subst h; rw [hk]; rfl
    · rfl
theorem nd_delE (s : St) (d : Int) (n : ByteArray) : (s.delE d n).nd = s.nd := by
  funext k
  unfold St.nd
  rw [get_delE]
  cases s.get k with
  | none => rfl
  | some r => simp only [Option.map_some]; split <;> rfl
theorem ents_delE (s : St) (d : Int) (n : ByteArray) : (s.delE d n).ents = fun k => if k = d then cutE n (s.ents d) else s.ents k := by
  funext k
  unfold St.ents
  rw [get_delE]
  cases hk : s.get k with
  | none =>
    simp only [Option.map_none, Option.getD_none]
    split
    · rename_i h; subst h; rw [hk]; rfl
    · rfl
  | some r =>
    have hid : r.nd.id = k := findN_id hk
    simp only [Option.map_some, Option.getD_some, hid]
    split
    · rename_i h; subst h; rw [hk]; rfl
    · rfl
theorem nd_drop (s : St) (id : Int) : (s.drop id).nd = del s.nd id := by
  funext k
  unfold St.nd del
  rw [get_drop]
  split <;> simp
theorem ents_drop (s : St) (id : Int) : (s.drop id).ents = fun k => if k = id then [] else s.ents k := by
  funext k
  unfold St.ents
  rw [get_drop]
  split <;> simp
theorem isDir_addE (s : St) (d : Int) (e : En) (k : Int) : (s.addE d e).isDir k = s.isDir k := by rw [St.isDir_nd, St.isDir_nd, nd_addE]
theorem isDir_delE (s : St) (d : Int) (e : ByteArray) (k : Int) : (s.delE d e).isDir k = s.isDir k := by rw [St.isDir_nd, St.isDir_nd, nd_delE]
theorem entOf_ins {e : En} {l : List En} (hn : entOf l e.name = none) : entOf (insE e l) = upd (entOf l) e.name e := funext fun k => entOf_insE hn k
theorem entOf_cut (n : ByteArray) (l : List En) : entOf (cutE n l) = del (entOf l) n := funext fun k => entOf_cutE n l k
theorem dirOf_isDir {s : St} {k : Int} (h : s.isDir k = true) : s.dirOf k = some (s.ents k) := by
  unfold St.isDir at h
  unfold St.dirOf St.ents
  cases hk : s.get k with
  | none => rw [hk] at h; cases h
  | some r =>
    rw [hk] at h
    simp only [beq_iff_eq] at h
    simp [h]
theorem dirOf_not {s : St} {k : Int} (h : s.isDir k = false) : s.dirOf k = none := by
  unfold St.isDir at h
  unfold St.dirOf
  cases hk : s.get k with
  | none => rfl
  | some r =>
    rw [hk] at h
    simp only [beq_eq_false_iff_ne] at h
    simp [h]

/-! ### in memory -/
def encP (x : Nat) : Value := .pointer (some ⟨x, 0, none⟩)
abbrev PMap (w : World) (r : Nat) (g : Int → Option Nat) (n : Nat) : Prop := MapAt Tryz.prog 3 (Value.int .i64) encP w r g n

abbrev Dirs := Int → Option (Nat × Option Nat)
abbrev blocks (dirs : Dirs) : Int → Option Nat := fun k => (dirs k).map Prod.fst

structure LowAt (w : World) (b t dm : Nat) (nm : Option Nat) (dirs : Dirs) (pn : Nat) (lab : Nat → Int) (nd : Int → Option Nd) (n : Nat) (last : Int) (de : Int → List En) : Prop where
  c0 : w.cell? ⟨b, 0, none⟩ = some (.pointer (some ⟨t, 0, none⟩))
  c1 : w.cell? ⟨b, 1, none⟩ = some (.map (some dm))
  nodes : NodesAt w t nm nd n last
  map : PMap w dm (blocks dirs) pn
  own : ∀ k p, dirs k = some p → DirAt w p.1 p.2 (entOf (de k)) (de k).length
  bare : ∀ k, dirs k = none → de k = []
  labn : ∀ x, OwnN t nm x → lab x = -2
  labd : ∀ k p, dirs k = some p → 1 ≤ k ∧ ∀ x, OwnD p.1 p.2 x → lab x = k
  labb : lab b = -1
  labm : lab dm = -4
  lt : ∀ x, lab x ≠ 0 → x < w.heap.size

section
variable {w w' : World} {b t dm : Nat} {nm : Option Nat} {dirs : Dirs} {pn : Nat} {lab : Nat → Int} {nd : Int → Option Nd} {n : Nat} {last : Int} {de : Int → List En}
theorem LowAt.touch (h : LowAt w b t dm nm dirs pn lab nd n last de) {S : Nat → Prop} (ht : Touch S w w') (hn : ∀ x, lab x ≠ 0 → ¬ S x) : LowAt w' b t dm nm dirs pn lab nd n last de := by
  have hb : lab b ≠ 0 := by rw [h.labb]; decide
  have hm : lab dm ≠ 0 := by rw [h.labm]; decide
  refine ⟨(ht.cell (p := ⟨b, 0, none⟩) (h.lt b hb) (hn b hb)).trans h.c0, (ht.cell (p := ⟨b, 1, none⟩) (h.lt b hb) (hn b hb)).trans h.c1,
    h.nodes.touch ht (fun x hx => hn x (by rw [h.labn x hx]; decide)), h.map.touch ht (hn dm hm), fun k p hp => ?_, h.bare, h.labn, h.labd, h.labb, h.labm,
    fun x hx => Nat.lt_of_lt_of_le (h.lt x hx) ht.size⟩
  obtain ⟨h1, h2⟩ := h.labd k p hp
  exact (h.own k p hp).touch ht (fun x hx => hn x (by rw [h2 x hx]; omega))

open Classical in
/-- Behind an operation of the table. -/
theorem LowAt.turnN (h : LowAt w b t dm nm dirs pn lab nd n last de) {nd' : Int → Option Nd} {n' : Nat} {last' : Int} (ho : NodesOut t nm nd' n' last' w w') :
    ∃ nm' lab', LowAt w' b t dm nm' dirs pn lab' nd' n' last' de ∧ Touch (fun x => lab x ≠ 0) w w' ∧ ∀ x, lab' x ≠ 0 → lab x ≠ 0 ∨ w.heap.size ≤ x := by
  obtain ⟨m', h1, h2, h3⟩ := ho
  have hb : lab b ≠ 0 := by rw [h.labb]; decide
  have hm : lab dm ≠ 0 := by rw [h.labm]; decide
  have nb : ¬ OwnN t nm b := fun hx => by have := h.labn b hx; rw [h.labb] at this; omega
  have nm2 : ¬ OwnN t nm dm := fun hx => by have := h.labn dm hx; rw [h.labm] at this; omega
  have old : ∀ x, x < w.heap.size → (if w.heap.size ≤ x ∧ OwnN t m' x then (-2 : Int) else lab x) = lab x := fun x hx => if_neg (fun hh => by omega)
  refine ⟨m', fun x => if w.heap.size ≤ x ∧ OwnN t m' x then -2 else lab x, ⟨?_, ?_, h1, ?_, ?_, h.bare, ?_, ?_, ?_, ?_, ?_⟩, ?_, ?_⟩
  · exact (h2.cell (p := ⟨b, 0, none⟩) (h.lt b hb) nb).trans h.c0
  · exact (h2.cell (p := ⟨b, 1, none⟩) (h.lt b hb) nb).trans h.c1
  · exact h.map.touch h2 nm2
  · intro k p hp
    obtain ⟨h4, h5⟩ := h.labd k p hp
    exact (h.own k p hp).touch h2 (fun x hx hn => by have := h5 x hx; rw [h.labn x hn] at this; omega)
  · intro x hx
    show (if w.heap.size ≤ x ∧ OwnN t m' x then (-2 : Int) else lab x) = -2
    split
    · rfl
    · rename_i hc
      rcases h3 x hx with hy | hy
      · exact h.labn x hy
      · exact absurd ⟨hy, hx⟩ hc
  · intro k p hp
    obtain ⟨h4, h5⟩ := h.labd k p hp
    refine ⟨h4, fun x hx => ?_⟩
    exact (old x (h.lt x (by rw [h5 x hx]; omega))).trans (h5 x hx)
  · exact (old b (h.lt b hb)).trans h.labb
  · exact (old dm (h.lt dm hm)).trans h.labm
  · intro x hx
    try simp only at hx
    split at hx
    · rename_i hc; exact h1.own_lt x hc.2
    · exact Nat.lt_of_lt_of_le (h.lt x hx) h2.size
  · exact h2.mono (fun x hx _ => by rw [h.labn x hx]; decide)
  · intro x hx
    try simp only at hx
    split at hx
    · rename_i hc; exact .inr hc.1
    · exact .inl hx

open Classical in
/-- Behind an operation of a directory. -/
theorem LowAt.turnD (h : LowAt w b t dm nm dirs pn lab nd n last de) {k : Int} {x : Nat} {m : Option Nat} (hk : dirs k = some (x, m)) {l' : List En} {g' : ByteArray → Option En} {n' : Nat} (ho : DirOut x m g' n' w w') (hg : g' = entOf l') (hn' : n' = l'.length) :
    ∃ m' lab', LowAt w' b t dm nm (upd dirs k (x, m')) pn lab' nd n last (fun i => if i = k then l' else de i) ∧ Touch (fun x => lab x ≠ 0) w w' ∧ ∀ x, lab' x ≠ 0 → lab x ≠ 0 ∨ w.heap.size ≤ x := by
  obtain ⟨m', h1, h2, h3⟩ := ho
  subst hg hn'
  obtain ⟨k1, k2⟩ := h.labd k _ hk
  have hb : lab b ≠ 0 := by rw [h.labb]; decide
  have hm : lab dm ≠ 0 := by rw [h.labm]; decide
  have nb : ¬ OwnD x m b := fun hx => by have := k2 b hx; rw [h.labb] at this; omega
  have nm2 : ¬ OwnD x m dm := fun hx => by have := k2 dm hx; rw [h.labm] at this; omega
  have old : ∀ y, y < w.heap.size → (if w.heap.size ≤ y ∧ OwnD x m' y then k else lab y) = lab y := fun x hx => if_neg (fun hh => by omega)
  have hbl : blocks (upd dirs k (x, m')) = blocks dirs := by
    funext i
    unfold blocks upd
    split
    · rename_i he; subst he; rw [hk]; rfl
    · rfl
  refine ⟨m', fun y => if w.heap.size ≤ y ∧ OwnD x m' y then k else lab y, ⟨?_, ?_, ?_, ?_, ?_, ?_, ?_, ?_, ?_, ?_, ?_⟩, ?_, ?_⟩
  · exact (h2.cell (p := ⟨b, 0, none⟩) (h.lt b hb) nb).trans h.c0
  · exact (h2.cell (p := ⟨b, 1, none⟩) (h.lt b hb) nb).trans h.c1
  · exact h.nodes.touch h2 (fun y hy hn => by have := k2 y hn; rw [h.labn y hy] at this; omega)
  · rw [hbl]; exact h.map.touch h2 nm2
  · intro i p hp
    unfold upd at hp
    by_cases hi : i = k
    · rw [if_pos hi] at hp ⊢
      injection hp with hp
      subst hp
      exact h1
    · rw [if_neg hi] at hp ⊢
      obtain ⟨h4, h5⟩ := h.labd i p hp
      exact (h.own i p hp).touch h2 (fun y hy hn => hi (by have := h5 y hy; rw [k2 y hn] at this; exact this.symm))
  · intro i hi
    unfold upd at hi
    by_cases he : i = k
    · rw [if_pos he] at hi; cases hi
    · rw [if_neg he] at hi
      simp only [if_neg he]
      exact h.bare i hi
  · intro y hy
    exact (old y (h.lt y (by rw [h.labn y hy]; decide))).trans (h.labn y hy)
  · intro i p hp
    unfold upd at hp
    by_cases hi : i = k
    · rw [if_pos hi] at hp
      injection hp with hp
      subst hp
      rw [hi]
      refine ⟨k1, fun y hy => ?_⟩
      show (if w.heap.size ≤ y ∧ OwnD x m' y then k else lab y) = k
      split
      · rfl
      · rename_i hc
        rcases h3 y hy with hz | hz
        · exact k2 y hz
        · exact absurd ⟨hz, hy⟩ hc
    · rw [if_neg hi] at hp
      obtain ⟨h4, h5⟩ := h.labd i p hp
      exact ⟨h4, fun y hy => (old y (h.lt y (by rw [h5 y hy]; omega))).trans (h5 y hy)⟩
  · exact (old b (h.lt b hb)).trans h.labb
  · exact (old dm (h.lt dm hm)).trans h.labm
  · intro y hy
    try simp only at hy
    split at hy
    · rename_i hc; exact h1.own_lt y hc.2
    · exact Nat.lt_of_lt_of_le (h.lt y hy) h2.size
  · exact h2.mono (fun y hy _ => by rw [k2 y hy]; omega)
  · intro y hy
    try simp only at hy
    split at hy
    · rename_i hc; exact .inr hc.1
    · exact .inl hy

/-- A directory is put out of the map. -/
theorem LowAt.turnM (h : LowAt w b t dm nm dirs pn lab nd n last de) {k : Int} {pn' : Nat} (hm : PMap w' dm (del (blocks dirs) k) pn') (ht : w.mapTurned w' dm) :
    LowAt w' b t dm nm (del dirs k) pn' lab nd n last (fun i => if i = k then [] else de i) ∧ Touch (fun x => lab x ≠ 0) w w' := by
  have t1 := Touch.of_turned ht
  have hb : lab b ≠ 0 := by rw [h.labb]; decide
  have hdm : lab dm ≠ 0 := by rw [h.labm]; decide
  have nb : ¬ b = dm := fun hx => by have := h.labb; rw [hx, h.labm] at this; omega
  have hbl : blocks (del dirs k) = del (blocks dirs) k := by
    funext i
    unfold blocks del
    split <;> rfl
  refine ⟨⟨?_, ?_, ?_, by rw [hbl]; exact hm, ?_, ?_, h.labn, ?_, h.labb, h.labm, fun x hx => Nat.lt_of_lt_of_le (h.lt x hx) t1.size⟩, t1.mono (fun x hx _ => by subst hx; exact hdm)⟩
  · exact (t1.cell (p := ⟨b, 0, none⟩) (h.lt b hb) nb).trans h.c0
  · exact (t1.cell (p := ⟨b, 1, none⟩) (h.lt b hb) nb).trans h.c1
  · exact h.nodes.touch t1 (fun y hy hn => by subst hn; have := h.labn _ hy; rw [h.labm] at this; omega)
  · intro i p hp
    unfold del at hp
    by_cases hi : i = k
    · rw [if_pos hi] at hp; cases hp
    · rw [if_neg hi] at hp ⊢
      obtain ⟨h4, h5⟩ := h.labd i p hp
      exact (h.own i p hp).touch t1 (fun y hy hn => by subst hn; have := h5 _ hy; rw [h.labm] at this; omega)
  · intro i hi
    unfold del at hi
    by_cases he : i = k
    · simp only [if_pos he]
    · rw [if_neg he] at hi
      simp only [if_neg he]
      exact h.bare i hi
  · intro i p hp
    unfold del at hp
    by_cases hi : i = k
    · rw [if_pos hi] at hp; cases hp
    · rw [if_neg hi] at hp
      exact h.labd i p hp

/-- A new directory is put into the map. -/
theorem LowAt.turnA (h : LowAt w b t dm nm dirs pn lab nd n last de) {k : Int} (hk : 1 ≤ k) (hno : dirs k = none) {x pn' : Nat} (hx : w.heap.size ≤ x) (hd : DirAt w' x none (fun _ => none) 0) (hm : PMap w' dm (upd (blocks dirs) k x) pn') (t1 : Touch (fun y => y = dm) w w') :
    ∃ lab', LowAt w' b t dm nm (upd dirs k (x, none)) pn' lab' nd n last de ∧ Touch (fun x => lab x ≠ 0) w w' ∧ ∀ x, lab' x ≠ 0 → lab x ≠ 0 ∨ w.heap.size ≤ x := by
  have hb : lab b ≠ 0 := by rw [h.labb]; decide
  have hdm : lab dm ≠ 0 := by rw [h.labm]; decide
  have nb : ¬ b = dm := fun hx => by have := h.labb; rw [hx, h.labm] at this; omega
  have hbl : blocks (upd dirs k (x, none)) = upd (blocks dirs) k x := by
    funext i
    unfold blocks upd
    split <;> rfl
  have old : ∀ y, y < w.heap.size → (if y = x then k else lab y) = lab y := fun y hy => if_neg (fun hh => by omega)
  have hle := t1.size
  refine ⟨fun y => if y = x then k else lab y, ⟨?_, ?_, ?_, by rw [hbl]; exact hm, ?_, ?_, ?_, ?_, ?_, ?_, ?_⟩, t1.mono (fun x hx _ => by subst hx; exact hdm), ?_⟩
  · exact (t1.cell (p := ⟨b, 0, none⟩) (h.lt b hb) nb).trans h.c0
  · exact (t1.cell (p := ⟨b, 1, none⟩) (h.lt b hb) nb).trans h.c1
  · exact h.nodes.touch t1 (fun y hy hn => by subst hn; have := h.labn _ hy; rw [h.labm] at this; omega)
  · intro i p hp
    unfold upd at hp
    by_cases hi : i = k
    · rw [if_pos hi] at hp
      injection hp with hp
      subst hp
      rw [hi, h.bare k hno]
      exact hd
    · rw [if_neg hi] at hp
      obtain ⟨h4, h5⟩ := h.labd i p hp
      exact (h.own i p hp).touch t1 (fun y hy hn => by subst hn; have := h5 _ hy; rw [h.labm] at this; omega)
  · intro i hi
    unfold upd at hi
    by_cases he : i = k
    · rw [if_pos he] at hi; cases hi
    · rw [if_neg he] at hi
      exact h.bare i hi
  · intro y hy
    exact (old y (h.lt y (by rw [h.labn y hy]; decide))).trans (h.labn y hy)
  · intro i p hp
    unfold upd at hp
    by_cases hi : i = k
    · rw [if_pos hi] at hp
      injection hp with hp
      subst hp
      rw [hi]
      refine ⟨hk, fun y hy => ?_⟩
      rcases hy with rfl | hy
      · exact if_pos rfl
      · cases hy
    · rw [if_neg hi] at hp
      obtain ⟨h4, h5⟩ := h.labd i p hp
      exact ⟨h4, fun y hy => (old y (h.lt y (by rw [h5 y hy]; omega))).trans (h5 y hy)⟩
  · exact (old b (h.lt b hb)).trans h.labb
  · exact (old dm (h.lt dm hdm)).trans h.labm
  · intro y hy
    try simp only at hy
    split at hy
    · rename_i hc; subst hc; exact hd.2.2.1
    · exact Nat.lt_of_lt_of_le (h.lt y hy) hle
  · intro y hy
    try simp only at hy
    split at hy
    · rename_i hc; subst hc; exact .inr hx
    · exact .inl hy
end

/-- A law's own tree: its blocks are from B on and not among L. -/
def WL (B : Nat) (L : Nat → Prop) (w : World) (b t dm : Nat) (nd : Int → Option Nd) (n : Nat) (last : Int) (de : Int → List En) (Q : Dirs → Prop) : Prop :=
  B ≤ w.heap.size ∧ (∀ x, L x → x < w.heap.size) ∧ ∃ nm dirs pn lab, LowAt w b t dm nm dirs pn lab nd n last de ∧ (∀ x, lab x ≠ 0 → B ≤ x ∧ ¬ L x) ∧ Q dirs

section
variable {L L' : Nat → Prop} {w w' : World} {b t dm : Nat} {nd : Int → Option Nd} {n : Nat} {last : Int} {de : Int → List En} {Q Q' : Dirs → Prop}
theorem WL.weak (h : WL B L w b t dm nd n last de Q) (hq : ∀ d, Q d → Q' d) : WL B L w b t dm nd n last de Q' := by
  obtain ⟨h1, h2, nm, dirs, pn, lab, h3, h4, h5⟩ := h
  exact ⟨h1, h2, nm, dirs, pn, lab, h3, h4, hq _ h5⟩
theorem WL.less (h : WL B L w b t dm nd n last de Q) (hL : ∀ x, L' x → L x) : WL B L' w b t dm nd n last de Q := by
  obtain ⟨h1, h2, nm, dirs, pn, lab, h3, h4, h5⟩ := h
  exact ⟨h1, fun x hx => h2 x (hL x hx), nm, dirs, pn, lab, h3, fun x hx => ⟨(h4 x hx).1, fun hl => (h4 x hx).2 (hL x hl)⟩, h5⟩
theorem WL.kept (h : WL B L w b t dm nd n last de Q) (hb : Below w.heap.size w w') : KeptP B L w w' := KeptP.of_below hb h.1 h.2.1
theorem WL.below (h : WL B L w b t dm nd n last de Q) (hb : Below w.heap.size w w') : WL B L w' b t dm nd n last de Q := by
  obtain ⟨h1, h2, nm, dirs, pn, lab, h3, h4, h5⟩ := h
  exact ⟨Nat.le_trans h1 hb.size, fun x hx => Nat.lt_of_lt_of_le (h2 x hx) hb.size, nm, dirs, pn, lab, h3.touch (Touch.of_below hb NoB) (fun _ _ h => h), h4, h5⟩
/-- New blocks of a law's own beside it. -/
theorem WL.loc' (h : WL B L w b t dm nd n last de Q) (hb : Below w.heap.size w w') (hl : ∀ x, L' x → L x ∨ (w.heap.size ≤ x ∧ x < w'.heap.size)) : WL B L' w' b t dm nd n last de Q := by
  have h' := h.below hb
  obtain ⟨h1, h2, nm, dirs, pn, lab, h3, h4, h5⟩ := h
  refine ⟨h'.1, fun x hx => ?_, nm, dirs, pn, lab, h3.touch (Touch.of_below hb NoB) (fun _ _ h => h), fun x hx => ⟨(h4 x hx).1, fun hx' => ?_⟩, h5⟩
  · rcases hl x hx with h | h
    · exact h'.2.1 x h
    · exact h.2
  · rcases hl x hx' with h | h
    · exact (h4 x hx).2 h
    · have := h3.lt x hx; omega
theorem WL.loc (h : WL B L w b t dm nd n last de Q) (o : Obj) : WL B (fun x => x = w.heap.size ∨ L x) (w.alloc o) b t dm nd n last de Q :=
  h.loc' (bl_alloc (Below.refl _ _) _) (fun x hx => by
    rcases hx with rfl | hx
    · right; simp
    · exact .inl hx)
/-- A block of the law's own is written. -/
theorem WL.set (h : WL B L w b t dm nd n last de Q) {p : Addr} (hp : L p.block) (u : Value) : WL B L (w.setCell p u) b t dm nd n last de Q := by
  obtain ⟨h1, h2, nm, dirs, pn, lab, h3, h4, h5⟩ := h
  refine ⟨by simpa using h1, fun x hx => by simpa using h2 x hx, nm, dirs, pn, lab, h3.touch (S := fun x => x = p.block) (Touch.setCell (S := fun x => x = p.block) (Touch.refl _ _) (.inl rfl) _) ?_, h4, h5⟩
  rintro x hx rfl
  exact (h4 _ hx).2 hp
theorem WL.c0 (h : WL B L w b t dm nd n last de Q) : w.cell? ⟨b, 0, none⟩ = some (.pointer (some ⟨t, 0, none⟩)) := by
  obtain ⟨h1, h2, nm, dirs, pn, lab, h3, h4, h5⟩ := h; exact h3.c0
theorem WL.c1 (h : WL B L w b t dm nd n last de Q) : w.cell? ⟨b, 1, none⟩ = some (.map (some dm)) := by
  obtain ⟨h1, h2, nm, dirs, pn, lab, h3, h4, h5⟩ := h; exact h3.c1
theorem WL.lt (h : WL B L w b t dm nd n last de Q) : b < w.heap.size ∧ t < w.heap.size ∧ dm < w.heap.size := by
  obtain ⟨h1, h2, nm, dirs, pn, lab, h3, h4, h5⟩ := h
  exact ⟨h3.lt b (by rw [h3.labb]; decide), h3.nodes.lt, h3.lt dm (by rw [h3.labm]; decide)⟩
theorem WL.out (h : B ≤ w.heap.size) (hl : ∀ x, L x → x < w.heap.size) {lab : Nat → Int} (h4 : ∀ x, lab x ≠ 0 → B ≤ x ∧ ¬ L x) {nm' : Option Nat} {dirs' : Dirs} {pn' : Nat} {lab' : Nat → Int} (h5 : LowAt w' b t dm nm' dirs' pn' lab' nd n last de)
    (ht : Touch (fun x => lab x ≠ 0) w w') (hn : ∀ x, lab' x ≠ 0 → lab x ≠ 0 ∨ w.heap.size ≤ x) (hq : Q dirs') : WL B L w' b t dm nd n last de Q ∧ KeptP B L w w' := by
  refine ⟨⟨Nat.le_trans h ht.size, fun x hx => Nat.lt_of_lt_of_le (hl x hx) ht.size, nm', dirs', pn', lab', h5, fun x hx => ?_, hq⟩, KeptP.of_touch ht h hl h4⟩
  rcases hn x hx with h | h'
  · exact h4 x h
  · exact ⟨Nat.le_trans h h', fun hx => by have := hl x hx; omega⟩

theorem wl_len (h : WL B L w b t dm nd n last de Q) : Calls Tryz.prog 38 #[.pointer (some ⟨t, 0, none⟩)] w fun e w' => e = .returned (.int .i64 n) ∧ w = w' := by
  obtain ⟨h1, h2, nm, dirs, pn, lab, h3, h4, h5⟩ := h
  exact nlen_any h3.nodes
theorem wl_get (h : WL B L w b t dm nd n last de Q) {k : Int} (hk : -9223372036854775808 ≤ k ∧ k ≤ 9223372036854775807) :
    Calls Tryz.prog 54 #[.pointer (some ⟨t, 0, none⟩), .int .i64 k] w fun e w' => e = .returned (.tuple #[encN ((nd k).getD noNd), .bool (nd k).isSome]) ∧ Below w.heap.size w w' := by
  obtain ⟨h1, h2, nm, dirs, pn, lab, h3, h4, h5⟩ := h
  exact nget_any h3.nodes hk
theorem wl_put (h : WL B L w b t dm nd n last de Q) (x : Nd) (hx : validB x = true) (hn : (nd x.id).isSome = false → n < 512) (hE : Env E B w) :
    Calls Tryz.prog 65 #[.pointer (some ⟨t, 0, none⟩), encN x] w fun e w' => e = .returned .nilIface ∧
      WL B L w' b t dm (upd nd x.id x) (if (nd x.id).isSome then n else n + 1) (max last x.id) de Q ∧ KeptP B L w w' := by
  obtain ⟨h1, h2, nm, dirs, pn, lab, h3, h4, h5⟩ := h
  refine (nput_ok h3.nodes x hx hn hE).mono fun e w' ⟨he, ho⟩ => ⟨he, ?_⟩
  obtain ⟨nm', lab', h6, h7, h8⟩ := h3.turnN ho
  exact WL.out h1 h2 h4 h6 h7 h8 h5
theorem wl_new (h : WL B L w b t dm nd n last de Q) {k : Int} (hk : kindB k = true) (hn : n < 512) (hl : 0 ≤ last ∧ last < 16777215) (hg : nd (last + 1) = none) (hE : Env E B w) :
    Calls Tryz.prog 105 #[.pointer (some ⟨t, 0, none⟩), .int .i64 k] w fun e w' => e = .returned (.tuple #[.int .i64 (last + 1), .nilIface]) ∧
      WL B L w' b t dm (upd nd (last + 1) (newNd (last + 1) k)) (n + 1) (last + 1) de Q ∧ KeptP B L w w' := by
  obtain ⟨h1, h2, nm, dirs, pn, lab, h3, h4, h5⟩ := h
  refine (nnew_ok h3.nodes hk hn hl hg hE (fun x hx => (h4 x (by rw [h3.labn x hx]; decide)).1)).mono fun e w' ⟨he, ho⟩ => ⟨he, ?_⟩
  obtain ⟨nm', lab', h6, h7, h8⟩ := h3.turnN ho
  exact WL.out h1 h2 h4 h6 h7 h8 h5
theorem wl_new_full (h : WL B L w b t dm nd n last de Q) {k : Int} (hk : kindB k = true) (hf : 512 ≤ n ∨ 16777215 ≤ last) (hE : Env E B w) :
    Calls Tryz.prog 105 #[.pointer (some ⟨t, 0, none⟩), .int .i64 k] w fun e w' => e = .returned (.tuple #[.int .i64 0, errV E 11]) ∧ Below w.heap.size w w' := by
  obtain ⟨h1, h2, nm, dirs, pn, lab, h3, h4, h5⟩ := h
  exact nnew_full h3.nodes hk hf hE
theorem wl_ndel (h : WL B L w b t dm nd n last de Q) {k : Int} (hk : -9223372036854775808 ≤ k ∧ k ≤ 9223372036854775807) :
    Calls Tryz.prog 147 #[.pointer (some ⟨t, 0, none⟩), .int .i64 k] w fun e w' => e = .returned (.bool (nd k).isSome) ∧
      WL B L w' b t dm (del nd k) (if (nd k).isSome then n - 1 else n) last de Q ∧ KeptP B L w w' := by
  obtain ⟨h1, h2, nm, dirs, pn, lab, h3, h4, h5⟩ := h
  refine (ndel_any h3.nodes hk).mono fun e w' ⟨he, ho⟩ => ⟨he, ?_⟩
  obtain ⟨nm', lab', h6, h7, h8⟩ := h3.turnN ho
  exact WL.out h1 h2 h4 h6 h7 h8 h5

/-- A directory is put out of the map. -/
theorem wl_mdel (h : WL B L w b t dm nd n last de Q) {k : Int} (hk : -9223372036854775808 ≤ k ∧ k ≤ 9223372036854775807) (ty : TypeId) :
    ∃ w', (Builtin.delete_ #[90, 3] ty #[.map (some dm), .int .i64 k]).run Tryz.prog w = .ok (.tuple #[]) w' ∧
      WL B L w' b t dm nd n last (fun i => if i = k then [] else de i) (fun d => ∃ d0, Q d0 ∧ d = del d0 k) ∧ KeptP B L w w' := by
  obtain ⟨h1, h2, nm, dirs, pn, lab, h3, h4, h5⟩ := h
  obtain ⟨w', hr, hm, ht⟩ := h3.map.drop kdInt Tryz.underlying90 inj64 (keyI hk) ty
  obtain ⟨h6, h7⟩ := h3.turnM hm ht
  exact ⟨w', hr, WL.out h1 h2 h4 h6 h7 (fun x hx => .inl hx) ⟨dirs, h5, rfl⟩⟩
/-- A directory's block, by its number. -/
def HasD (k : Int) (x : Nat) : Dirs → Prop := fun d => ∃ m, d k = some (x, m)
def NoD (k : Int) : Dirs → Prop := fun d => d k = none
theorem WL.split (h : WL B L w b t dm nd n last de Q) (k : Int) : WL B L w b t dm nd n last de (fun d => Q d ∧ NoD k d) ∨ ∃ x, WL B L w b t dm nd n last de (fun d => Q d ∧ HasD k x d) := by
  obtain ⟨h1, h2, nm, dirs, pn, lab, h3, h4, h5⟩ := h
  cases hk : dirs k with
  | none => exact .inl ⟨h1, h2, nm, dirs, pn, lab, h3, h4, h5, hk⟩
  | some p => exact .inr ⟨p.1, h1, h2, nm, dirs, pn, lab, h3, h4, h5, p.2, hk⟩
theorem zeroP (w : World) : (zeroValue 105).run Tryz.prog w = .ok (.pointer none) w := by kernel_rfl
theorem wl_look_no (h : WL B L w b t dm nd n last de Q) {k : Int} (hk : -9223372036854775808 ≤ k ∧ k ≤ 9223372036854775807) (hq : ∀ d, Q d → NoD k d) :
    (Instr.lookup 90 (.map (some dm)) (.int .i64 k) false).run Tryz.prog w = .ok (.pointer none) w := by
  obtain ⟨h1, h2, nm, dirs, pn, lab, h3, h4, h5⟩ := h
  have hg : blocks dirs k = none := by unfold blocks; rw [hq _ h5]; rfl
  have := h3.map.look_none kdInt Tryz.underlying90 inj64 (zeroP w) (keyI hk) hg false
  simpa using this
theorem wl_look (h : WL B L w b t dm nd n last de Q) {k : Int} (hk : -9223372036854775808 ≤ k ∧ k ≤ 9223372036854775807) {x : Nat} (hq : ∀ d, Q d → HasD k x d) :
    (Instr.lookup 90 (.map (some dm)) (.int .i64 k) false).run Tryz.prog w = .ok (.pointer (some ⟨x, 0, none⟩)) w := by
  obtain ⟨h1, h2, nm, dirs, pn, lab, h3, h4, h5⟩ := h
  obtain ⟨m, hm⟩ := hq _ h5
  have hg : blocks dirs k = some x := by unfold blocks; rw [hm]; rfl
  have := h3.map.look_some kdInt Tryz.underlying90 inj64 (keyI hk) hg false
  simpa [encP] using this
/-- A new directory is put into the map. -/
theorem wl_madd {w1 : World} {x : Nat} (h : WL B L w b t dm nd n last de Q) (h1' : w1 = w.alloc (.cells #[.map none] 190)) (hx : x = w.heap.size) {k : Int} (hk : 1 ≤ k ∧ k ≤ 9223372036854775807) (hq : ∀ d, Q d → NoD k d) :
    ∃ w', (Instr.mapUpdate 90 (.map (some dm)) (.int .i64 k) (.pointer (some ⟨x, 0, none⟩))).run Tryz.prog w1 = .ok () w' ∧
      WL B L w' b t dm nd n last de (fun d => ∃ d0, Q d0 ∧ d = upd d0 k (x, none)) ∧ KeptP B L w w' := by
  subst h1'
  subst hx
  obtain ⟨h1, h2, nm, dirs, pn, lab, h3, h4, h5⟩ := h
  obtain ⟨w', hr, hm, ht⟩ := (h3.map.alloc (.cells #[.map none] 190)).put kdInt Tryz.underlying90 inj64 (keyI (a := k) ⟨by omega, hk.2⟩) w.heap.size
  have hdm : dm < w.heap.size := h3.lt dm (by rw [h3.labm]; decide)
  have ht2 : Touch (fun y => y = dm) w w' := (Touch.alloc (Touch.refl _ _) _).trans (Touch.of_turned ht) (fun x hx _ => hx)
  have hd : DirAt w' w.heap.size none (fun _ => none) 0 := by
    have hd0 : DirAt (w.alloc (.cells #[.map none] 190)) w.heap.size none (fun _ => none) 0 := ⟨by simp, by simp, by simp, rfl, fun _ => rfl⟩
    refine hd0.touch (Touch.of_turned ht) (fun y hy => ?_)
    rcases hy with rfl | hy
    · omega
    · cases hy
  obtain ⟨lab', h6, h7, h8⟩ := h3.turnA hk.1 (hq _ h5) (Nat.le_refl _) hd hm ht2
  exact ⟨w', hr, WL.out h1 h2 h4 h6 h7 h8 ⟨dirs, h5, rfl⟩⟩

theorem wl_dlen (h : WL B L w b t dm nd n last de Q) {k : Int} {x : Nat} (hq : ∀ d, Q d → HasD k x d) : Calls Tryz.prog 80 #[.pointer (some ⟨x, 0, none⟩)] w fun e w' => e = .returned (.int .i64 (de k).length) ∧ w = w' := by
  obtain ⟨h1, h2, nm, dirs, pn, lab, h3, h4, h5⟩ := h
  obtain ⟨m, hm⟩ := hq _ h5
  exact dlen_any (h3.own k _ hm)
theorem wl_dget (h : WL B L w b t dm nd n last de Q) {k : Int} {x : Nat} (hq : ∀ d, Q d → HasD k x d) {s : ByteArray} (hs : s.size ≤ maxLen) :
    Calls Tryz.prog 138 #[.pointer (some ⟨x, 0, none⟩), .string s] w fun e w' => e = .returned (.tuple #[encE ((entOf (de k) s).getD noEn), .bool (entOf (de k) s).isSome]) ∧ Below w.heap.size w w' := by
  obtain ⟨h1, h2, nm, dirs, pn, lab, h3, h4, h5⟩ := h
  obtain ⟨m, hm⟩ := hq _ h5
  exact dget_any (h3.own k _ hm) hs
theorem wl_dadd (h : WL B L w b t dm nd n last de Q) {k : Int} {x : Nat} (hq : ∀ d, Q d → HasD k x d) (hQ : ∀ d m, Q d → Q (upd d k (x, m))) (e : En) (hyes : addCode (entOf (de k)) e = 0) (hE : Env E B w) :
    Calls Tryz.prog 116 #[.pointer (some ⟨x, 0, none⟩), encE e] w fun v w' => v = .returned .nilIface ∧
      WL B L w' b t dm nd n last (fun i => if i = k then insE e (de k) else de i) Q ∧ KeptP B L w w' := by
  obtain ⟨h1, h2, nm, dirs, pn, lab, h3, h4, h5⟩ := h
  obtain ⟨m, hm⟩ := hq _ h5
  have hno : entOf (de k) e.name = none := by
    have := (addCode_zero hyes).2.2.2
    cases he : entOf (de k) e.name with
    | none => rfl
    | some y => rw [he] at this; cases this
  refine (dadd_ok (h3.own k _ hm) e hyes hE).mono fun v w' ⟨he, ho⟩ => ⟨he, ?_⟩
  obtain ⟨m', lab', h6, h7, h8⟩ := h3.turnD hm ho (entOf_ins hno).symm (insE_length e _).symm
  exact WL.out h1 h2 h4 h6 h7 h8 (hQ _ _ h5)
theorem wl_ddel (h : WL B L w b t dm nd n last de Q) {k : Int} {x : Nat} (hq : ∀ d, Q d → HasD k x d) (hQ : ∀ d m, Q d → Q (upd d k (x, m))) {s : ByteArray} (hs : s.size ≤ maxLen) (hr : RiseE (de k)) :
    Calls Tryz.prog 111 #[.pointer (some ⟨x, 0, none⟩), .string s] w fun v w' => v = .returned (.tuple #[encE ((entOf (de k) s).getD noEn), .bool (entOf (de k) s).isSome]) ∧
      WL B L w' b t dm nd n last (fun i => if i = k then cutE s (de k) else de i) Q ∧ KeptP B L w w' := by
  obtain ⟨h1, h2, nm, dirs, pn, lab, h3, h4, h5⟩ := h
  obtain ⟨m, hm⟩ := hq _ h5
  refine (ddel_any (h3.own k _ hm) hs).mono fun v w' ⟨he, ho⟩ => ⟨he, ?_⟩
  obtain ⟨m', lab', h6, h7, h8⟩ := h3.turnD hm ho (entOf_cut s _).symm (cutE_length hr).symm
  exact WL.out h1 h2 h4 h6 h7 h8 (hQ _ _ h5)
end

/-! ### a tree of the plain kind in memory -/
/-- Who has a directory's block is a directory. -/
def Fit (st : St) (d : Dirs) : Prop := ∀ k, d k ≠ none → st.isDir k = true
abbrev WB (B : Nat) (L : Nat → Prop) (w : World) (b t dm : Nat) (st : St) : Prop := WL B L w b t dm st.nd st.ns.length st.last st.ents (Fit st)
/-- .. and the directory k has the block x. -/
abbrev WD (B : Nat) (L : Nat → Prop) (w : World) (b t dm : Nat) (st : St) (k : Int) (x : Nat) : Prop := WL B L w b t dm st.nd st.ns.length st.last st.ents (fun d => Fit st d ∧ HasD k x d)
section
variable {L L' : Nat → Prop} {w w' : World} {b t dm x : Nat} {st : St} {k : Int}
theorem WL.wb (h : WD B L w b t dm st k x) : WB B L w b t dm st := h.weak fun _ hd => hd.1
theorem Fit.upd {d : Dirs} (h : Fit st d) {m : Option Nat} (hk : HasD k x d) : Fit st (upd d k (x, m)) := by
  obtain ⟨m0, hm⟩ := hk
  intro i hi
  unfold Go.Proofs.YtjekpbkmhgfhoaaGreatDoor.upd at hi
  split at hi
  · rename_i he; subst he; exact h i (by rw [hm]; simp)
  · exact h i hi
theorem fitD {d : Dirs} (h : Fit st d ∧ HasD k x d) (m : Option Nat) : Fit st (Go.Proofs.YtjekpbkmhgfhoaaGreatDoor.upd d k (x, m)) ∧ HasD k x (Go.Proofs.YtjekpbkmhgfhoaaGreatDoor.upd d k (x, m)) :=
  ⟨h.1.upd h.2, m, by unfold Go.Proofs.YtjekpbkmhgfhoaaGreatDoor.upd; rw [if_pos rfl]⟩
theorem Fit.addE {d : Dirs} (h : Fit st d) (i : Int) (e : En) : Fit (st.addE i e) d := fun k hk => by rw [isDir_addE]; exact h k hk
theorem Fit.delE {d : Dirs} (h : Fit st d) (i : Int) (e : ByteArray) : Fit (st.delE i e) d := fun k hk => by rw [isDir_delE]; exact h k hk
theorem WD.isDir (h : WD B L w b t dm st k x) : st.isDir k = true := by
  obtain ⟨h1, h2, nm, dirs, pn, lab, h3, h4, h5, m, h6⟩ := h
  exact h5 k (by rw [h6]; simp)
/-- An entry is added to a directory. -/
theorem wb_dadd (h : WD B L w b t dm st k x) (e : En) (hyes : addCode (entOf (st.ents k)) e = 0) (hE : Env E B w) :
    Calls Tryz.prog 116 #[.pointer (some ⟨x, 0, none⟩), encE e] w fun v w' => v = .returned .nilIface ∧
      WB B L w' b t dm (st.addE k e) ∧ KeptP B L w w' := by
  have hd := WD.isDir h
  refine (wl_dadd h (fun d hd => hd.2) (fun d m hd => fitD hd m) e hyes hE).mono fun v w' ⟨he, h1, h2⟩ => ⟨he, ?_, h2⟩
  unfold WB
  rw [nd_addE, ents_addE hd, show (st.addE k e).ns.length = st.ns.length from onR_length _ _ _, show (st.addE k e).last = st.last from rfl]
  exact h1.weak fun d hd => hd.1.addE _ _
theorem wb_ddel (h : WD B L w b t dm st k x) {s : ByteArray} (hs : s.size ≤ maxLen) (hr : RiseE (st.ents k)) :
    Calls Tryz.prog 111 #[.pointer (some ⟨x, 0, none⟩), .string s] w fun v w' => v = .returned (.tuple #[encE ((entOf (st.ents k) s).getD noEn), .bool (entOf (st.ents k) s).isSome]) ∧
      WB B L w' b t dm (st.delE k s) ∧ KeptP B L w w' := by
  refine (wl_ddel h (fun d hd => hd.2) (fun d m hd => fitD hd m) hs hr).mono fun v w' ⟨he, h1, h2⟩ => ⟨he, ?_, h2⟩
  unfold WB
  rw [nd_delE, ents_delE, show (st.delE k s).ns.length = st.ns.length from onR_length _ _ _, show (st.delE k s).last = st.last from rfl]
  exact h1.weak fun d hd => hd.1.delE _ _
end
end Go.Proofs.YtjekpbkmhgfhoaaGreatDoor
end

section
/- Trees in plain words: a walk's steps one by one; how many parts a path has. -/
namespace Go.Proofs.YtjekpbkmhgfhoaaGreatDoor
set_option maxRecDepth 100000
set_option linter.unusedSimpArgs false
set_option linter.unusedVariables false

theorem partsOf_len : ∀ {l : List (List UInt8)} {ps : List ByteArray}, partsOf l = some ps → ps.length ≤ l.length
  | [], ps, h => by cases h; simp
  | x :: l, ps, h => by
    unfold partsOf at h
    split at h
    · have := partsOf_len h; simp; omega
    · split at h
      · cases h
      · cases hp : partsOf l with
        | none => rw [hp] at h; cases h
        | some r =>
          rw [hp] at h
          cases h
          have := partsOf_len hp
          simp
          omega
theorem cuts_len : ∀ l : List UInt8, (cuts l).length ≤ l.length + 1
  | [] => by simp [cuts]
  | c :: l => by
    have := cuts_len l
    unfold cuts
    split
    · simp; omega
    · split
      · simp
      · rename_i h; rw [h] at this; simp at this ⊢; omega
theorem parse_len (s : ByteArray) : (parseP s).2.parts.length ≤ 257 := by
  unfold parseP
  split
  · simp [noPth]
  · split
    · simp [noPth]
    · split
      · simp [noPth]
      · split
        · simp [noPth]
        · rename_i h1 h2 h3 ps h
          have := partsOf_len h
          have h4 := cuts_len s.data.toList
          have h5 : s.data.toList.length = s.size := Array.length_toList
          simp only
          omega
theorem parse_code (s : ByteArray) : (parseP s).1 = 0 ∨ (parseP s).1 = 109 ∨ (parseP s).1 = 114 ∨ (parseP s).1 = 115 := by
  unfold parseP
  split
  · simp
  · split
    · simp
    · split
      · simp
      · split <;> simp

/-! ### a walk's steps -/
def nextH (s : St) (follow slash : Bool) : Nat → ByteArray → Int → List ByteArray → Int × Int
  | 0 => fun _ _ _ => (116, 0)
  | h + 1 => fun t at' ps =>
    let q := tgtOf t at'
    if q.1.1 ≠ 0 then (q.1.1, 0) else goH s follow slash h (q.1.2.parts ++ ps) q.2
theorem goH_eq (s : St) (follow slash : Bool) (h : Nat) : goH s follow slash h = goParts s follow slash (nextH s follow slash h) := by cases h <;> rfl
section
variable {s : St} {follow slash : Bool} {h : Nat} {p : ByteArray} {ps : List ByteArray} {at' : Int}
theorem go_nil : goH s follow slash h [] at' = if slash && !s.isDir at' then (111, 0) else (0, at') := by
  rw [goH_eq]; rfl
theorem nd_get {k : Int} {d : Nd} (hd : s.nd k = some d) : ∃ r, s.get k = some r ∧ r.nd = d ∧ r.ents = s.ents k := by
  unfold St.nd at hd
  unfold St.ents
  cases hr : s.get k with
  | none => rw [hr] at hd; cases hd
  | some r => rw [hr] at hd; cases hd; exact ⟨r, rfl, rfl, rfl⟩
theorem nd_none {k : Int} (hd : s.nd k = none) : s.get k = none := by
  unfold St.nd at hd
  cases hr : s.get k with
  | none => rfl
  | some r => rw [hr] at hd; cases hd
theorem go_nodir (hd : s.isDir at' = false) : goH s follow slash h (p :: ps) at' = (111, 0) := by
  rw [goH_eq, goParts]
  unfold St.isDir at hd
  cases hr : s.get at' with
  | none => rfl
  | some r =>
    rw [hr] at hd
    simp only [beq_eq_false_iff_ne] at hd
    simp only
    rw [if_pos hd]
theorem go_up {d : Nd} (hd : s.nd at' = some d) (hk : d.kind = 2) (hu : isUp p = true) : goH s follow slash h (p :: ps) at' = goH s follow slash h ps (upOf d) := by
  obtain ⟨r, h1, h2, h3⟩ := nd_get hd
  subst h2
  rw [goH_eq, goParts, h1]
  simp only
  rw [if_neg (by simp [hk]), if_pos hu]
theorem go_noent {d : Nd} (hd : s.nd at' = some d) (hk : d.kind = 2) (hu : isUp p = false) (he : entOf (s.ents at') p = none) : goH s follow slash h (p :: ps) at' = (109, 0) := by
  obtain ⟨r, h1, h2, h3⟩ := nd_get hd
  subst h2
  rw [goH_eq, goParts, h1]
  simp only
  rw [if_neg (by simp [hk]), if_neg (by simp [hu]), h3, he]
theorem go_on {d x : Nd} {e : En} (hd : s.nd at' = some d) (hk : d.kind = 2) (hu : isUp p = false) (he : entOf (s.ents at') p = some e) (hn : s.nd e.node = some x) (hx : x.kind ≠ 3 ∨ (ps = [] ∧ follow = false ∧ slash = false)) :
    goH s follow slash h (p :: ps) at' = goH s follow slash h ps e.node := by
  obtain ⟨r, h1, h2, h3⟩ := nd_get hd
  obtain ⟨y, h4, h5, h6⟩ := nd_get hn
  subst h2 h5
  rw [goH_eq, goParts, h1]
  simp only
  rw [if_neg (by simp [hk]), if_neg (by simp [hu]), h3, he]
  simp only
  rw [h4]
  simp only
  rw [if_pos hx]
theorem go_ln {d x : Nd} {e : En} (hd : s.nd at' = some d) (hk : d.kind = 2) (hu : isUp p = false) (he : entOf (s.ents at') p = some e) (hn : s.nd e.node = some x) (hx : ¬ (x.kind ≠ 3 ∨ (ps = [] ∧ follow = false ∧ slash = false))) :
    goH s follow slash h (p :: ps) at' = nextH s follow slash h x.target at' ps := by
  obtain ⟨r, h1, h2, h3⟩ := nd_get hd
  obtain ⟨y, h4, h5, h6⟩ := nd_get hn
  subst h2 h5
  rw [goH_eq, goParts, h1]
  simp only
  rw [if_neg (by simp [hk]), if_neg (by simp [hu]), h3, he]
  simp only
  rw [h4]
  simp only
  rw [if_neg hx]
theorem next_bad {t : ByteArray} (hq : (tgtOf t at').1.1 ≠ 0) : nextH s follow slash (h + 1) t at' ps = ((tgtOf t at').1.1, 0) := by
  unfold nextH
  simp only
  rw [if_pos hq]
theorem next_ok {t : ByteArray} (hq : (tgtOf t at').1.1 = 0) : nextH s follow slash (h + 1) t at' ps = goH s follow slash h ((tgtOf t at').1.2.parts ++ ps) (tgtOf t at').2 := by
  unfold nextH
  simp only
  rw [if_neg (by simp [hq])]
end
theorem isDir_some {s : St} {k : Int} (h : s.isDir k = true) : ∃ d, s.nd k = some d ∧ d.kind = 2 := by
  rw [St.isDir_nd] at h
  cases hd : s.nd k with
  | none => rw [hd] at h; cases h
  | some d => rw [hd] at h; exact ⟨d, rfl, by simpa using h⟩
theorem isDir_no {s : St} {k : Int} (h : s.nd k = none) : s.isDir k = false := by rw [St.isDir_nd, h]
end Go.Proofs.YtjekpbkmhgfhoaaGreatDoor
end

section
/- The walks of package walk: a world's nodes and directories: dir, Dir, entry, up, Put, Drop, Empty, New. -/
namespace Go.Proofs.YtjekpbkmhgfhoaaGreatDoor
open Go Go.RowKit
set_option maxRecDepth 100000
set_option linter.unusedSimpArgs false
set_option linter.unusedVariables false
attribute [local go_sem] giv
variable {E : Nat → Addr} {B : Nat}

section
variable {L : Nat → Prop} {w : World} {b t dm : Nat} {st : St}

/-- A new block, and what other blocks made behind it leave of it. -/
theorem new_kept {w w1 : World} {o : Obj} (hb : Below (w.alloc o).heap.size (w.alloc o) w1) : (∀ i, w1.cell? ⟨w.heap.size, i, none⟩ = (w.alloc o).cell? ⟨w.heap.size, i, none⟩) ∧ (∀ i, w1.frozen? ⟨w.heap.size, i, none⟩ = (w.alloc o).frozen? ⟨w.heap.size, i, none⟩) ∧
    w.heap.size < w1.heap.size ∧ Below w.heap.size w w1 := by
  have h1 : (w.alloc o).heap.size = w.heap.size + 1 := by simp
  have h2 := hb.size
  refine ⟨fun i => hb.cell (p := ⟨w.heap.size, i, none⟩) (by simp), fun i => hb.frozen (p := ⟨w.heap.size, i, none⟩) (by simp), by omega, ?_⟩
  exact (bl_alloc (Below.refl _ _) _).trans (hb.mono (by omega))

/-- A block's cells written, all new. -/
theorem bel6 {w w1 : World} (h : Below w.heap.size w w1) {a : Nat} (ha : w.heap.size ≤ a) (u0 u1 u2 u3 u4 u5 : Value) (o : Obj) :
    Below w.heap.size w (((((((w1.setCell ⟨a, 0, none⟩ u0).setCell ⟨a, 1, none⟩ u1).setCell ⟨a, 2, none⟩ u2).setCell ⟨a, 3, none⟩ u3).setCell ⟨a, 4, none⟩ u4).setCell ⟨a, 5, none⟩ u5).alloc o).drew :=
  Below.drew (bl_alloc (Below.setCell (Below.setCell (Below.setCell (Below.setCell (Below.setCell (Below.setCell h ha u0) ha u1) ha u2) ha u3) ha u4) ha u5) o)
set_option maxHeartbeats 1000000 in
theorem wdir_any (h : WB B L w b t dm st) {k : Int} (hk : -9223372036854775808 ≤ k ∧ k ≤ 9223372036854775807) :
    Calls Tryz.prog 101 #[.pointer (some ⟨b, 0, none⟩), .int .i64 k] w fun e w' => e = .returned (.tuple #[encN ((st.nd k).getD noNd), .bool (st.isDir k)]) ∧ Below w.heap.size w w' := by
  have hc := h.c0
  have hlt := h.lt.1
  have H := Lib.hid h
  clear h
  have hd : st.isDir k = ((st.nd k).isSome && (((st.nd k).getD noNd).kind == 2)) := by
    rw [St.isDir_nd]
    cases st.nd k <;> rfl
  generalize hP : (fun (e : Ending) (w' : World) => e = .returned (.tuple #[encN ((st.nd k).getD noNd), .bool (st.isDir k)]) ∧ Below w.heap.size w w') = Post
  rw [hd] at hP
  have HP := Lib.hid hP
  clear hP hd
  go_enter Tryz.func101, Tryz.ntmps101
  go_wp2_with fail
  refine (wl_get (H.out.below (bl_alloc (Below.refl _ _) _)) hk).mono ?_
  rintro e w1 ⟨rfl, hb⟩
  obtain ⟨k1, k2, k3, k4⟩ := new_kept hb
  have x0 : w1.cell? ⟨w.heap.size, 0, none⟩ = some (.int .i64 0) := (k1 0).trans (by simp)
  have x1 : w1.cell? ⟨w.heap.size, 1, none⟩ = some (.int .i64 0) := (k1 1).trans (by simp)
  have x2 : w1.cell? ⟨w.heap.size, 2, none⟩ = some (.int .i64 0) := (k1 2).trans (by simp)
  have x3 : w1.cell? ⟨w.heap.size, 3, none⟩ = some (.int .i64 0) := (k1 3).trans (by simp)
  have x4 : w1.cell? ⟨w.heap.size, 4, none⟩ = some (.string { data := #[] }) := (k1 4).trans (by simp)
  have x5 : w1.cell? ⟨w.heap.size, 5, none⟩ = some (.int .i64 0) := (k1 5).trans (by simp)
  have xf : ∀ i, w1.frozen? ⟨w.heap.size, i, none⟩ = false := fun i => (k2 i).trans (by simp)
  have HB := Lib.hid k4
  clear k1 k2 k4 hb H hc
  obtain ⟨n, hn⟩ : ∃ n, n = (st.nd k).getD noNd := ⟨_, rfl⟩
  rw [← hn] at HP ⊢
  generalize (st.nd k).isSome = is at *
  clear hn
  obtain ⟨n1, n2, n3, n4, n5, n6⟩ := n
  simp only [encN] at HP ⊢
  cases is with
  | false =>
    go_wp2
    go_region
    go_wp2
    rw [← HP.out]
    refine bodyPost_ret (v := .tuple #[.agg #[.int .i64 n1, .int .i64 n2, .int .i64 n3, .int .i64 n4, .string n5, .int .i64 n6], .bool false]) (by simp [results, Tryz.results101, go_sem, x0, x1, x2, x3, x4, x5, k3]) rfl ⟨rfl, bel6 HB.out (Nat.le_refl _) _ _ _ _ _ _ _⟩
  | true =>
    go_wp2
    go_region
    go_wp2
    rw [← HP.out]
    refine bodyPost_ret (v := .tuple #[.agg #[.int .i64 n1, .int .i64 n2, .int .i64 n3, .int .i64 n4, .string n5, .int .i64 n6], .bool (n2 == 2)]) (by simp [results, Tryz.results101, go_sem, x0, x1, x2, x3, x4, x5, k3]) rfl ⟨by simp, bel6 HB.out (Nat.le_refl _) _ _ _ _ _ _ _⟩

/-- Dir of what is none. -/
theorem wDir_no (h : WB B L w b t dm st) {k : Int} (hk : -9223372036854775808 ≤ k ∧ k ≤ 9223372036854775807) (hd : st.isDir k = false) :
    Calls Tryz.prog 79 #[.pointer (some ⟨b, 0, none⟩), .int .i64 k] w fun e w' => e = .returned (.tuple #[.pointer none, .bool false]) ∧ Below w.heap.size w w' := by
  have H := Lib.hid h
  have HD := Lib.hid hd
  clear h hd
  generalize (st.nd k).getD noNd = n at *
  go_enter Tryz.func79, Tryz.ntmps79
  go_wp2_with fail
  refine (wdir_any H.out hk).mono ?_
  rintro e w1 ⟨rfl, hb⟩
  rw [HD.out]
  generalize (st.nd k).getD noNd = n at *
  obtain ⟨n1, n2, n3, n4, n5, n6⟩ := n
  simp only [encN]
  go_wp2
  go_ret2
  exact ⟨rfl, bl_alloc hb _⟩
/-- Dir of a directory. -/
theorem wDir_yes (h : WB B L w b t dm st) {k : Int} (hk : 1 ≤ k ∧ k ≤ 9223372036854775807) (hd : st.isDir k = true) :
    Calls Tryz.prog 79 #[.pointer (some ⟨b, 0, none⟩), .int .i64 k] w fun e w' => ∃ x, e = .returned (.tuple #[.pointer (some ⟨x, 0, none⟩), .bool true]) ∧ WD B L w' b t dm st k x ∧ KeptP B L w w' := by
  have H := Lib.hid h
  have HD := Lib.hid hd
  clear h hd
  go_enter Tryz.func79, Tryz.ntmps79
  go_wp2_with fail
  refine (wdir_any H.out (by omega)).mono ?_
  rintro e w1 ⟨rfl, hb⟩
  rw [HD.out]
  generalize (st.nd k).getD noNd = n at *
  obtain ⟨n1, n2, n3, n4, n5, n6⟩ := n
  simp only [encN]
  have h1 : WB B L w1 b t dm st := H.out.below hb
  have hc1 := h1.c1
  have hlt1 := h1.lt.1
  have hl2 := h1.lt.2.2
  have K1 : KeptP B L w w1 := H.out.kept hb
  rcases h1.split k with h2 | ⟨x, h2⟩
  · have H1 := Lib.hid h2
    have K := Lib.hid K1
    clear h1 h2 hb H K1
    have hb2 : Below w1.heap.size w1 (w1.alloc (.cells #[.int .i64 n1, .int .i64 n2, .int .i64 n3, .int .i64 n4, .string n5, .int .i64 n6] 59)) := bl_alloc (Below.refl _ _) _
    have H2 := Lib.hid (H1.out.below hb2)
    have K2 := Lib.hid (K.out.trans (H1.out.kept hb2))
    have C2 := Lib.hid ((hb2.cell (p := ⟨b, 1, none⟩) hlt1).trans hc1)
    clear hb2
    go_wp2_with (first
      | (at_lookup; refine wpList_look rfl _ _ _ _ rfl (wl_look_no H2.out (by omega) (fun d hd => hd.2)) ?_))
    obtain ⟨w2, hr, h3, k3⟩ := wl_madd (x := w1.heap.size + 1) H2.out rfl (by simp) hk (fun d hd => hd.2)
    rw [hr]
    have h4 : WD B L w2 b t dm st k (w1.heap.size + 1) := h3.weak (by
      rintro d ⟨d0, ⟨h1, h2⟩, rfl⟩
      refine ⟨fun i hi => ?_, none, by unfold upd; rw [if_pos rfl]⟩
      unfold upd at hi
      split at hi
      · rename_i he; rw [he]; exact HD.out
      · exact h1 i hi)
    have H4 := Lib.hid h4
    have K4 := Lib.hid (K2.out.trans k3)
    have hc4 := h4.c1
    have hlt4 := h4.lt.1
    clear h3 k3 h4 hr C2 H2 K2
    go_wp2_with (at_lookup; refine wpList_look rfl _ _ _ _ rfl (wl_look H4.out (by omega) (fun d hd => hd.2)) ?_)
    go_ret2
    exact ⟨_, rfl, H4.out, K4.out⟩
  · have H1 := Lib.hid h2
    have K := Lib.hid K1
    clear h1 h2 hb H HD K1
    have hb2 : Below w1.heap.size w1 (w1.alloc (.cells #[.int .i64 n1, .int .i64 n2, .int .i64 n3, .int .i64 n4, .string n5, .int .i64 n6] 59)) := bl_alloc (Below.refl _ _) _
    have H2 := Lib.hid (H1.out.below hb2)
    have K2 := Lib.hid (K.out.trans (H1.out.kept hb2))
    clear hb2
    go_wp2_with (at_lookup; refine wpList_look rfl _ _ _ _ rfl (wl_look H2.out (by omega) (fun d hd => hd.2)) ?_)
    go_ret2
    exact ⟨x, rfl, H2.out, K2.out⟩
end
end Go.Proofs.YtjekpbkmhgfhoaaGreatDoor
end

section
/- The walks of package walk: entry, up, Put, Drop, Empty, New. -/
namespace Go.Proofs.YtjekpbkmhgfhoaaGreatDoor
open Go Go.RowKit
set_option maxRecDepth 100000
set_option linter.unusedSimpArgs false
set_option linter.unusedVariables false
attribute [local go_sem] giv
variable {E : Nat → Addr} {B : Nat}

section
variable {L : Nat → Prop} {w : World} {b t dm : Nat} {st : St}

theorem KeptP.set {a c : World} (h : KeptP B L a c) {p : Addr} (hp : B ≤ p.block) (hn : ¬ L p.block) (u : Value) : KeptP B L a (c.setCell p u) :=
  ⟨h.below.setCell hp u, fun x hx => (Below.heap_setCell _ _ _ _ (fun he => hn (he ▸ hx))).trans (h.loc x hx)⟩
theorem KeptP.then {a c d : World} (h : KeptP B L a c) (k : Below c.heap.size c d) (hB : B ≤ c.heap.size) (hL : ∀ x, L x → x < c.heap.size) : KeptP B L a d := h.trans (KeptP.of_below k hB hL)
/-- One new block of the law's own, then what the tree does: what stays. -/
theorem WL.out1 {nd : Int → Option Nd} {n : Nat} {last : Int} {de : Int → List En} {Q : Dirs → Prop} (h : WL B L w b t dm nd n last de Q) {o : Obj} {w' : World} (k : KeptP B (fun x => x = w.heap.size ∨ L x) (w.alloc o) w') :
    (∀ i, w'.cell? ⟨w.heap.size, i, none⟩ = (w.alloc o).cell? ⟨w.heap.size, i, none⟩) ∧ (∀ i, w'.frozen? ⟨w.heap.size, i, none⟩ = (w.alloc o).frozen? ⟨w.heap.size, i, none⟩) ∧ KeptP B L w w' :=
  ⟨fun i => k.cell (.inl rfl) i, fun i => k.froz (.inl rfl) i, KeptP.less (bl_alloc (Below.refl _ _) o) k h.1 h.2.1 (fun x hx => .inr hx)⟩
theorem WL.notL {nd : Int → Option Nd} {n : Nat} {last : Int} {de : Int → List En} {Q : Dirs → Prop} (h : WL B L w b t dm nd n last de Q) {x : Nat} (hx : w.heap.size ≤ x) : ¬ L x := fun hl => by have := h.2.1 x hl; omega

/-- A node's cells. -/
def ndC (n : Nd) : List Value := [.int .i64 n.id, .int .i64 n.kind, .int .i64 n.links, .int .i64 n.size, .string n.target, .int .i64 n.parent]
theorem wup_any (n : Nd) (w : World) : Calls Tryz.prog 135 #[encN n] w fun e w' => e = .returned (.int .i64 (upOf n)) ∧ Below w.heap.size w w' := by
  obtain ⟨n1, n2, n3, n4, n5, n6⟩ := n
  unfold encN upOf
  simp only
  by_cases h : n1 = 1
  · subst h
    go_enter Tryz.func135, Tryz.ntmps135
    go_wp2
    go_ret
    exact ⟨rfl, bl_alloc (Below.refl _ _) _⟩
  · have h2 : (n1 == 1) = false := by rw [beq_eq_false_iff_ne]; exact h
    rw [if_neg h]
    go_enter Tryz.func135, Tryz.ntmps135
    go_wp2
    go_ret
    exact ⟨rfl, bl_alloc (Below.refl _ _) _⟩

theorem wentry_no (h : WB B L w b t dm st) {k : Int} (hk : -9223372036854775808 ≤ k ∧ k ≤ 9223372036854775807) (hd : st.isDir k = false) (s : ByteArray) :
    Calls Tryz.prog 102 #[.pointer (some ⟨b, 0, none⟩), .int .i64 k, .string s] w fun e w' => e = .returned (.tuple #[encE noEn, .bool false]) ∧ Below w.heap.size w w' := by
  have H := Lib.hid h
  have HD := Lib.hid hd
  clear h hd
  go_enter Tryz.func102, Tryz.ntmps102
  go_wp2_with fail
  refine (wDir_no (H.out.below (bl_alloc (Below.refl _ _) _)) hk HD.out).mono ?_
  rintro e w1 ⟨rfl, hb⟩
  obtain ⟨k1, k2, k3, k4⟩ := new_kept hb
  have x0 : w1.cell? ⟨w.heap.size, 0, none⟩ = some (.string { data := #[] }) := (k1 0).trans (by simp)
  have x1 : w1.cell? ⟨w.heap.size, 1, none⟩ = some (.int .i64 0) := (k1 1).trans (by simp)
  have x2 : w1.cell? ⟨w.heap.size, 2, none⟩ = some (.int .i64 0) := (k1 2).trans (by simp)
  have xf : ∀ i, w1.frozen? ⟨w.heap.size, i, none⟩ = false := fun i => (k2 i).trans (by simp)
  have HB := Lib.hid k4
  clear k1 k2 k4 hb H HD
  go_wp2
  refine bodyPost_ret (v := .tuple #[encE noEn, .bool false]) (by simp [results, Tryz.results102, go_sem, x0, x1, x2, encE, noEn]) rfl ⟨rfl, ?_⟩
  exact ((HB.out.setCell (Nat.le_refl _) _).setCell (Nat.le_refl _) _).setCell (Nat.le_refl _) _
theorem entry_dir {k : Int} (hd : st.isDir k = true) (s : ByteArray) : st.entry k s = entOf (st.ents k) s := by
  unfold St.entry
  rw [dirOf_isDir hd]
  rfl
theorem entry_not {k : Int} (hd : st.isDir k = false) (s : ByteArray) : st.entry k s = none := by
  unfold St.entry
  rw [dirOf_not hd]
  rfl
theorem wentry_yes (h : WB B L w b t dm st) {k : Int} (hk : 1 ≤ k ∧ k ≤ 9223372036854775807) (hd : st.isDir k = true) {s : ByteArray} (hs : s.size ≤ maxLen) :
    Calls Tryz.prog 102 #[.pointer (some ⟨b, 0, none⟩), .int .i64 k, .string s] w fun e w' =>
      e = .returned (.tuple #[encE ((entOf (st.ents k) s).getD noEn), .bool (entOf (st.ents k) s).isSome]) ∧ WB B L w' b t dm st ∧ KeptP B L w w' := by
  have H := Lib.hid h
  have HD := Lib.hid hd
  have HS := Lib.hid hs
  obtain ⟨q, hq⟩ : ∃ q, (entOf (st.ents k) s).getD noEn = q := ⟨_, rfl⟩
  obtain ⟨is, his⟩ : ∃ is, (entOf (st.ents k) s).isSome = is := ⟨_, rfl⟩
  rw [hq, his]
  have HQ := Lib.hid hq
  have HI := Lib.hid his
  obtain ⟨q1, q2, q3⟩ := q
  simp only [encE]
  clear h hd hs hq his
  go_enter Tryz.func102, Tryz.ntmps102
  go_wp2_with fail
  refine (wDir_yes (WL.loc H.out _) hk HD.out).mono ?_
  rintro e w1 ⟨x, rfl, h1, k1⟩
  have H1 := Lib.hid h1
  have K1 := Lib.hid k1
  clear h1 k1
  go_wp2_with fail
  refine (wl_dget H1.out (fun d hd => hd.2) HS.out).mono ?_
  rintro e w2 ⟨rfl, hb⟩
  rw [HQ.out, HI.out]
  have h2 : WD B _ w2 b t dm st k x := H1.out.below hb
  have k2 := K1.out.trans (H1.out.kept hb)
  obtain ⟨c1, c2, c3⟩ := WL.out1 H.out k2
  have x0 : w2.cell? ⟨w.heap.size, 0, none⟩ = some (.string { data := #[] }) := (c1 0).trans (by simp)
  have x1 : w2.cell? ⟨w.heap.size, 1, none⟩ = some (.int .i64 0) := (c1 1).trans (by simp)
  have x2 : w2.cell? ⟨w.heap.size, 2, none⟩ = some (.int .i64 0) := (c1 2).trans (by simp)
  have xf : ∀ i, w2.frozen? ⟨w.heap.size, i, none⟩ = false := fun i => (c2 i).trans (by simp)
  have lx : w.heap.size < w2.heap.size := h2.2.1 _ (.inl rfl)
  have H2 := Lib.hid h2
  have K2 := Lib.hid c3
  clear c1 c2 c3 hb h2 k2 H1 K1
  simp only [encE]
  go_wp2
  refine bodyPost_ret (v := .tuple #[.agg #[.string q1, .int .i64 q2, .int .i64 q3], .bool is]) (by simp [results, Tryz.results102, go_sem, x0, x1, x2]) rfl ⟨rfl, ?_, ?_⟩
  · exact (((H2.out.wb.set (p := ⟨w.heap.size, 0, none⟩) (.inl rfl) _).set (p := ⟨w.heap.size, 1, none⟩) (.inl rfl) _).set (p := ⟨w.heap.size, 2, none⟩) (.inl rfl) _).less (fun x hx => .inr hx)
  · exact ((K2.out.set (H.out.1) (H.out.notL (Nat.le_refl _)) _).set (H.out.1) (H.out.notL (Nat.le_refl _)) _).set (H.out.1) (H.out.notL (Nat.le_refl _)) _
theorem wentry_any (h : WB B L w b t dm st) {k : Int} (hk : -9223372036854775808 ≤ k ∧ k ≤ 9223372036854775807) (h1 : st.isDir k = true → 1 ≤ k) {s : ByteArray} (hs : s.size ≤ maxLen) :
    Calls Tryz.prog 102 #[.pointer (some ⟨b, 0, none⟩), .int .i64 k, .string s] w fun e w' =>
      e = .returned (.tuple #[encE ((st.entry k s).getD noEn), .bool (st.entry k s).isSome]) ∧ WB B L w' b t dm st ∧ KeptP B L w w' := by
  cases hd : st.isDir k with
  | true => rw [entry_dir hd]; exact wentry_yes h ⟨h1 hd, hk.2⟩ hd hs
  | false =>
    rw [entry_not hd]
    exact (wentry_no h hk hd s).mono fun e w' ⟨he, hb⟩ => ⟨he, WL.below h hb, WL.kept h hb⟩

theorem put_ends {st : St} (hr : RiseN st.ns) (n : Nd) : (st.put n).ns.length = (if (st.nd n.id).isSome then st.ns.length else st.ns.length + 1) ∧ (st.put n).last = max st.last n.id := by
  refine ⟨?_, rfl⟩
  show (putN n st.ns).length = _
  rw [putN_length hr]
  unfold St.nd
  rw [St.get_eq]
  cases findN st.ns n.id <;> rfl
/-- A node put, its directory's block put out. -/
theorem WL.put_del {st : St} {n : Nd} (hr : RiseN st.ns) (hk : ¬ (n.kind = 2 ∧ ∃ q, st.nd n.id = some q ∧ q.kind = 2)) {w : World}
    (h : WL B L w b t dm (upd st.nd n.id n) (if (st.nd n.id).isSome then st.ns.length else st.ns.length + 1) (max st.last n.id) (fun i => if i = n.id then [] else st.ents i) (fun d => ∃ d0, Fit st d0 ∧ d = del d0 n.id)) : WB B L w b t dm (st.put n) := by
  unfold WB
  have hke : keepE n (st.get n.id) = [] := by
    unfold keepE
    cases hg : st.get n.id with
    | none => rfl
    | some r =>
      simp only
      rw [if_neg]
      intro h2
      exact hk ⟨h2.1, r.nd, by unfold St.nd; rw [hg]; rfl, h2.2⟩
  rw [nd_put hr, ents_put hr, (put_ends hr n).1, (put_ends hr n).2, hke]
  refine h.weak ?_
  rintro d ⟨d0, h1, rfl⟩ k hk2
  unfold del at hk2
  split at hk2
  · exact absurd rfl hk2
  · rename_i hne
    rw [St.isDir_nd, nd_put hr]
    unfold upd
    rw [if_neg hne, ← St.isDir_nd]
    exact h1 k hk2
/-- A directory put in place of one. -/
theorem WL.put_keep {st : St} {n : Nd} (hr : RiseN st.ns) (hk : n.kind = 2) {q : Nd} (hq : st.nd n.id = some q) (hq2 : q.kind = 2) {w : World}
    (h : WL B L w b t dm (upd st.nd n.id n) (if (st.nd n.id).isSome then st.ns.length else st.ns.length + 1) (max st.last n.id) st.ents (Fit st)) : WB B L w b t dm (st.put n) := by
  unfold WB
  have he : (fun k => if k = n.id then keepE n (st.get n.id) else st.ents k) = st.ents := by
    funext k
    by_cases hkn : k = n.id
    · subst hkn
      rw [if_pos rfl]
      unfold St.nd at hq
      unfold St.ents
      cases hg : st.get n.id with
      | none => rw [hg] at hq; cases hq
      | some r =>
        rw [hg] at hq
        cases hq
        exact keepE_both hk hq2
    · rw [if_neg hkn]
  rw [nd_put hr, ents_put hr, (put_ends hr n).1, (put_ends hr n).2, he]
  refine h.weak ?_
  intro d h1 k hk2
  have h3 := h1 k hk2
  rw [St.isDir_nd, nd_put hr]
  unfold upd
  by_cases hkn : k = n.id
  · rw [if_pos hkn]; simp [hk]
  · rw [if_neg hkn, ← St.isDir_nd]; exact h3
set_option maxHeartbeats 1000000 in
theorem wput_ok (h : WB B L w b t dm st) (hr : RiseN st.ns) (n : Nd) (hv : validB n = true) (hn : st.get n.id = none → st.ns.length < 512) (hE : Env E B w) :
    Calls Tryz.prog 96 #[.pointer (some ⟨b, 0, none⟩), encN n] w fun e w' => e = .returned .nilIface ∧ WB B L w' b t dm (st.put n) ∧ KeptP B L w w' := by
  have hid := valid_ids hv
  obtain ⟨is, his⟩ : ∃ is, (st.nd n.id).isSome = is := ⟨_, rfl⟩
  obtain ⟨q, hq⟩ : ∃ q, (st.nd n.id).getD noNd = q := ⟨_, rfl⟩
  generalize hP : (fun (e : Ending) (w' : World) => e = .returned .nilIface ∧ WB B L w' b t dm (st.put n) ∧ KeptP B L w w') = Post
  have HP := Lib.hid hP
  have H := Lib.hid h
  have HV := Lib.hid hv
  have HN := Lib.hid hn
  have HR := Lib.hid hr
  have HE := Lib.hid hE
  have HQ := Lib.hid hq
  have HI := Lib.hid his
  have HID := Lib.hid hid
  obtain ⟨n1, n2, n3, n4, n5, n6⟩ := n
  obtain ⟨q1, q2, q3, q4, q5, q6⟩ := q
  simp only [encN]
  simp only at his hq hid
  clear hP hv hn hr hE hq h
  go_enter Tryz.func96, Tryz.ntmps96
  go_wp2_with fail
  obtain ⟨w1, hw1⟩ : ∃ w1, w1 = w.alloc (.cells #[.int .i64 n1, .int .i64 n2, .int .i64 n3, .int .i64 n4, .string n5, .int .i64 n6] 59) := ⟨_, rfl⟩
  have h1 : WB B (fun x => x = w.heap.size ∨ L x) w1 b t dm st := hw1 ▸ WL.loc H.out _
  have s0 := h1.c0
  have R1 : Hid (Row w1 w.heap.size 59 (ndC ⟨n1, n2, n3, n4, n5, n6⟩)) := Lib.hid (hw1 ▸ Row.new w 59 (ndC ⟨n1, n2, n3, n4, n5, n6⟩))
  have hlt := h1.lt.1
  have hlt2 : w.heap.size < w1.heap.size := by rw [hw1]; simp
  rw [← hw1]
  have H1 := Lib.hid h1
  have B1 := Lib.hid (show Below w.heap.size w w1 by rw [hw1]; exact bl_alloc (Below.refl _ _) _)
  have S : ∀ w', ShH w1.heap.size (ndC ⟨q1, q2, q3, q4, q5, q6⟩) 59 w1 w' → w'.cell? ⟨b, 0, none⟩ = some (.pointer (some ⟨t, 0, none⟩)) ∧ w'.cell? ⟨w.heap.size, 0, none⟩ = some (.int .i64 n1) := fun w' hs => ⟨(hs.bel.cell (p := ⟨b, 0, none⟩) hlt).trans s0, (hs.bel.cell (p := ⟨w.heap.size, 0, none⟩) hlt2).trans ((R1.out.cell 0).trans rfl)⟩
  have HG : Hid (∀ w', ShH w1.heap.size (ndC ⟨q1, q2, q3, q4, q5, q6⟩) 59 w1 w' → Calls Tryz.prog 54 #[.pointer (some ⟨t, 0, none⟩), .int .i64 n1] w' fun e w'' => e = .returned (.tuple #[.agg #[.int .i64 q1, .int .i64 q2, .int .i64 q3, .int .i64 q4, .string q5, .int .i64 q6], .bool is]) ∧ Below w'.heap.size w' w'') := Lib.hid fun w' hs => by
    have := wl_get (H1.out.below hs.bel) (k := n1) (by omega)
    rw [HQ.out, HI.out] at this
    exact this
  clear hw1 h1
  apply wp_region_rel _ (by kernel_rfl) (by kernel_rfl) (fun w' => ShH w1.heap.size (ndC ⟨q1, q2, q3, q4, q5, q6⟩) 59 w1 w') (fun w' w'' => ShH w1.heap.size (ndC ⟨q1, q2, q3, q4, q5, q6⟩) 59 w' w'') (fun w' w'' h1 h2 => h1.trans h2) (ShH.refl _ _ _ _).drew
  repeat (first
    | (apply wpRel_fix (by rfl)
       · intro w' hC hf R hR
         have hS := S w' hC
         go_simp
         exact hR _ (ShH.refl _ _ _ _)
       simp only [Act.put, List.setIfInBounds_toArray, List.set_cons_zero, List.set_cons_succ])
    | (apply wpRel_fix (by rfl)
       · intro w' hC hf R hR
         have hS := S w' hC
         go_simp
         refine (HG.out w' hC).mono ?_
         rintro e w'' ⟨rfl, hb⟩
         exact ⟨_, rfl, hR _ (ShH.of_below hb (Nat.le_trans hC.bel.size (Nat.le_refl _)))⟩
       simp only [Act.put, List.setIfInBounds_toArray, List.set_cons_zero, List.set_cons_succ]))
  apply wpRel_rel (PtTy w1.heap.size ((ndC ⟨q1, q2, q3, q4, q5, q6⟩) : List Value).length 59) (by rfl) ptTy_keep
  · intro w' hC hf R hR
    go_simp
    exact hR _ _ ⟨_, rfl, hC.bel.size, TyB.new _ _ _ rfl⟩ (ShH.of_below (bl_alloc (Below.refl _ _) _) hC.bel.size)
  intro vptr
  simp only [Act.put, List.setIfInBounds_toArray, List.set_cons_zero, List.set_cons_succ]
  apply wpRel_dep 5 (PtRow w1.heap.size (ndC ⟨q1, q2, q3, q4, q5, q6⟩) 59) (by rfl) (by rfl) ptRow_keep
  · intro w' hC hf R hR
    obtain ⟨c, rfl, hc, hk⟩ := hf _ (List.mem_cons_self ..) (by kernel_rfl)
    obtain ⟨u0, e0⟩ := hk.cell (i := 0) (Nat.lt_of_lt_of_eq (by decide : 0 < 6) rfl)
    have f0 := hk.froz 0
    obtain ⟨u1, e1⟩ := hk.cell (i := 1) (Nat.lt_of_lt_of_eq (by decide : 1 < 6) rfl)
    have f1 := hk.froz 1
    obtain ⟨u2, e2⟩ := hk.cell (i := 2) (Nat.lt_of_lt_of_eq (by decide : 2 < 6) rfl)
    have f2 := hk.froz 2
    obtain ⟨u3, e3⟩ := hk.cell (i := 3) (Nat.lt_of_lt_of_eq (by decide : 3 < 6) rfl)
    have f3 := hk.froz 3
    obtain ⟨u4, e4⟩ := hk.cell (i := 4) (Nat.lt_of_lt_of_eq (by decide : 4 < 6) rfl)
    have f4 := hk.froz 4
    obtain ⟨u5, e5⟩ := hk.cell (i := 5) (Nat.lt_of_lt_of_eq (by decide : 5 < 6) rfl)
    have f5 := hk.froz 5
    have hN := Lib.hid hk
    clear hk
    go_simp
    exact hR _ _ (ptRow_mk hN.out hc) (ShH.setAll hN.out hc)
  intro vst
  simp only [Act.put, List.setIfInBounds_toArray, List.set_cons_zero, List.set_cons_succ]
  repeat (first
    | (apply wpRel_fix (by rfl)
       · intro w' hC hf R hR
         have hS := S w' hC
         go_simp
         exact hR _ (ShH.refl _ _ _ _)
       simp only [Act.put, List.setIfInBounds_toArray, List.set_cons_zero, List.set_cons_succ]))
  refine wpRel_nil (fun w2 hC hf => ?_)
  obtain ⟨c, rfl, hc0, rw2⟩ : PtRow w1.heap.size (ndC ⟨q1, q2, q3, q4, q5, q6⟩) 59 vptr w2 := hf _ (List.mem_cons_self ..)
  have B2 := Lib.hid (B1.out.trans (hC.bel.mono B1.out.size))
  have h2 := H1.out.loc' (L' := fun x => x = c ∨ x = w.heap.size ∨ L x) hC.bel (fun x hx => by
    rcases hx with rfl | hx
    · exact .inr ⟨hc0, rw2.lt⟩
    · exact .inl hx)
  have R2 := Lib.hid (R1.out.below hC.bel)
  have R3 := Lib.hid rw2
  have H2 := Lib.hid h2
  clear hf hC S HG rw2 h2 H1 R1 B1
  go_wp2_with fail
  have S : ∀ w', Below w2.heap.size w2 w' → w'.cell? ⟨b, 0, none⟩ = some (.pointer (some ⟨t, 0, none⟩)) ∧ w'.cell? ⟨w.heap.size, 0, none⟩ = some (.int .i64 n1) ∧ w'.cell? ⟨w.heap.size, 1, none⟩ = some (.int .i64 n2) ∧ w'.cell? ⟨w.heap.size, 2, none⟩ = some (.int .i64 n3) ∧
      w'.cell? ⟨w.heap.size, 3, none⟩ = some (.int .i64 n4) ∧ w'.cell? ⟨w.heap.size, 4, none⟩ = some (.string n5) ∧ w'.cell? ⟨w.heap.size, 5, none⟩ = some (.int .i64 n6) := by
    intro w' hb
    have r := R2.out.below hb
    exact ⟨(H2.out.below hb).c0, (r.cell 0).trans rfl, (r.cell 1).trans rfl, (r.cell 2).trans rfl, (r.cell 3).trans rfl, (r.cell 4).trans rfl, (r.cell 5).trans rfl⟩
  apply wp_region_tail 5 _ (by kernel_rfl) (by kernel_rfl) (by kernel_rfl) (by decide) (fun w' => Below w2.heap.size w2 w') (fun w' w'' => Below w'.heap.size w' w'') (fun w' w'' h1 h2 => bl_trans h1 h2) (Below.refl _ _).drew
  simp only [List.take_succ_cons, List.take_zero, List.drop_succ_cons, List.drop_zero]
  repeat (first
    | (apply wpRel_skip (by rfl)
       simp only [Act.put, List.setIfInBounds_toArray, List.set_cons_zero, List.set_cons_succ])
    | (apply wpRel_fix (by rfl)
       · intro w' hC hf R hR
         have hS := S w' hC
         go_simp
         exact hR _ (Below.refl _ _)
       simp only [Act.put, List.setIfInBounds_toArray, List.set_cons_zero, List.set_cons_succ]))
  refine wpRel_nil (fun w3 hC hf => ?_)
  clear S hf
  have H3 := Lib.hid (H2.out.below hC)
  have R3' := Lib.hid (R3.out.below hC)
  have R2' := Lib.hid (R2.out.below hC)
  have B3 := Lib.hid (B2.out.trans (hC.mono B2.out.size))
  clear hC H2 R3 R2 B2
  go_wp2_with fail
  refine (wl_put H3.out ⟨n1, n2, n3, n4, n5, n6⟩ HV.out (fun hh => HN.out (by
    have h0 : st.nd n1 = none := by simpa using hh
    exact nd_none h0)) (HE.out.below B3.out)).mono ?_
  rintro e w4 ⟨rfl, h4, k4⟩
  have H4 := Lib.hid h4
  have K4 := Lib.hid k4
  have R4 := Lib.hid (R2'.out.keep (k4.loc _ (.inr (.inl rfl))))
  have R5 := Lib.hid (R3'.out.keep (k4.loc _ (.inl rfl)))
  have KB := Lib.hid (H.out.kept B3.out)
  clear h4 k4 H3 R2' R3'
  have y0 : w4.cell? ⟨w.heap.size, 0, none⟩ = some (.int .i64 n1) := (R4.out.cell 0).trans rfl
  have y1 : w4.cell? ⟨w.heap.size, 1, none⟩ = some (.int .i64 n2) := (R4.out.cell 1).trans rfl
  have z1 : w4.cell? ⟨c, 1, none⟩ = some (.int .i64 q2) := (R5.out.cell 1).trans rfl
  clear s0
  by_cases hn2 : n2 = 2
  case' neg =>
    have hb1 : (n2 == 2) = false := by rw [beq_eq_false_iff_ne]; exact hn2
    have hb2 : (n2 != 2) = true := by simp [bne, hb1]
    have HNK : Hid (¬ (n2 = 2 ∧ ∃ q, st.nd n1 = some q ∧ q.kind = 2)) := Lib.hid (fun h => hn2 h.1)
  case' pos =>
    subst hn2
    cases is
    case' false =>
      have HNK : Hid (¬ ((2 : Int) = 2 ∧ ∃ q, st.nd n1 = some q ∧ q.kind = 2)) := Lib.hid (by
        rintro ⟨h1, q, h2, h3⟩
        have h4 := HI.out
        rw [h2] at h4
        cases h4)
    case' true =>
      by_cases hq2 : q2 = 2
      case' neg =>
        have hb1 : (q2 == 2) = false := by rw [beq_eq_false_iff_ne]; exact hq2
        have hb2 : (q2 != 2) = true := by simp [bne, hb1]
        have HNK : Hid (¬ ((2 : Int) = 2 ∧ ∃ q, st.nd n1 = some q ∧ q.kind = 2)) := Lib.hid (by
          rintro ⟨h1, q, h2, h3⟩
          have h4 := HQ.out
          rw [h2] at h4
          have h5 : q = _ := h4
          rw [h5] at h3
          exact hq2 h3)
      case' pos =>
        subst hq2
  all_goals
    go_wp2_with fail
  · rw [← HP.out]
    refine ⟨rfl, ?_, KB.out.trans (K4.out.mono (fun x hx => .inr (.inr hx)))⟩
    have hs : ∃ q, st.nd n1 = some q ∧ q.kind = 2 := by
      have h1 := HQ.out
      cases hh : st.nd n1 with
      | none => have := HI.out; rw [hh] at this; cases this
      | some q => rw [hh] at h1; exact ⟨q, rfl, by rw [show q = _ from h1]⟩
    obtain ⟨q, h1, h2⟩ := hs
    exact WL.put_keep HR.out rfl h1 h2 (H4.out.less (fun x hx => .inr (.inr hx)))
  all_goals
    have S : ∀ w', Below w4.heap.size w4 w' → w'.cell? ⟨b, 1, none⟩ = some (.map (some dm)) ∧ w'.cell? ⟨w.heap.size, 0, none⟩ = some (.int .i64 n1) := by
      intro w' hb
      exact ⟨(H4.out.below hb).c1, ((R4.out.below hb).cell 0).trans rfl⟩
    have hlt4 := H4.out.lt.1
    apply wp_region_tail 6 _ (by kernel_rfl) (by kernel_rfl) (by kernel_rfl) (by decide) (fun w' => Below w4.heap.size w4 w') (fun w' w'' => Below w'.heap.size w' w'') (fun w' w'' h1 h2 => bl_trans h1 h2) (Below.refl _ _).drew
    simp only [List.take_succ_cons, List.take_zero, List.drop_succ_cons, List.drop_zero]
    repeat (first
      | (apply wpRel_skip (by rfl)
         simp only [Act.put, List.setIfInBounds_toArray, List.set_cons_zero, List.set_cons_succ])
      | (apply wpRel_fix (by rfl)
         · intro w' hC hf R hR
           have hS := S w' hC
           go_simp
           exact hR _ (Below.refl _ _)
         simp only [Act.put, List.setIfInBounds_toArray, List.set_cons_zero, List.set_cons_succ]))
    refine wpRel_nil (fun w5 hC hf => ?_)
    clear S hf
    apply wpList_drop rfl _ _ _ _ rfl
    · exact wl_mdel (H4.out.below hC) (k := n1) (by omega) _
    rintro w6 ⟨h6, k6⟩
    have H6 := Lib.hid h6
    have K6 := Lib.hid ((K4.out.trans (H4.out.kept hC)).trans k6)
    clear h6 k6 hC
    go_wp2
    rw [← HP.out]
    exact ⟨rfl, WL.put_del HR.out (fun h => HNK.out ⟨by first | trivial | exact h.1, h.2⟩) (H6.out.less (fun x hx => .inr (.inr hx))), KB.out.trans (K6.out.mono (fun x hx => .inr (.inr hx)))⟩
theorem WL.drop_del {st : St} {k : Int} {n : Nat} (hn : n = (st.drop k).ns.length) {w : World}
    (h : WL B L w b t dm (del st.nd k) n st.last (fun i => if i = k then [] else st.ents i) (fun d => ∃ d0, Fit st d0 ∧ d = del d0 k)) : WB B L w b t dm (st.drop k) := by
  unfold WB
  rw [nd_drop, ents_drop, ← hn]
  refine h.weak ?_
  rintro d ⟨d0, h1, rfl⟩ i hi
  unfold del at hi
  split at hi
  · exact absurd rfl hi
  · rename_i hne
    rw [St.isDir_nd, nd_drop]
    unfold del
    rw [if_neg hne, ← St.isDir_nd]
    exact h1 i hi
theorem drop_len {st : St} (hr : RiseN st.ns) (k : Int) : (st.drop k).ns.length = if (st.nd k).isSome then st.ns.length - 1 else st.ns.length := by
  have h1 : ∀ l : List NR, RiseN l → (l.filter fun r => r.nd.id != k).length = if (findN l k).isSome then l.length - 1 else l.length := by
    intro l
    induction l with
    | nil => intro _; rfl
    | cons x l ih =>
      intro hr
      obtain ⟨h1, h2⟩ := List.pairwise_cons.1 hr
      have ih := ih h2
      rw [List.filter_cons, findN_cons]
      by_cases hx : x.nd.id = k
      · rw [if_neg (by simp [hx]), if_pos hx, ih, if_neg]
        · simp
        · rw [findN_none_of_lt (fun r hr => by have := h1 r hr; omega)]; simp
      · rw [if_pos (by simp [hx]), if_neg hx, List.length_cons, ih, List.length_cons]
        cases hf : findN l k with
        | none => simp
        | some r =>
          have : 0 < l.length := List.length_pos_of_mem (findN_mem hf)
          simp
          omega
  show (st.ns.filter fun r => r.nd.id != k).length = _
  rw [h1 _ hr]
  unfold St.nd
  rw [St.get_eq]
  cases findN st.ns k <;> rfl
theorem wdrop_any (h : WB B L w b t dm st) (hr : RiseN st.ns) {k : Int} (hk : -9223372036854775808 ≤ k ∧ k ≤ 9223372036854775807) :
    Calls Tryz.prog 115 #[.pointer (some ⟨b, 0, none⟩), .int .i64 k] w fun e w' => e = .returned (.bool (st.nd k).isSome) ∧ WB B L w' b t dm (st.drop k) ∧ KeptP B L w w' := by
  have HR := Lib.hid hr
  have H := Lib.hid h
  have hc1 := h.c1
  have hlt := h.lt.1
  clear hr h
  go_enter Tryz.func115, Tryz.ntmps115
  go_wp2_with (at_delete; refine wpList_drop rfl _ _ _ _ rfl (wl_mdel H.out (k := k) hk _) ?_; rintro w1 ⟨h1, k1⟩; have c0 := h1.c0; have lt1 := h1.lt.1; have H1 := Lib.hid h1; have K1 := Lib.hid k1; clear h1 k1)
  refine (wl_ndel H1.out hk).mono ?_
  rintro e w2 ⟨rfl, h2, k2⟩
  have H2 := Lib.hid h2
  have K2 := Lib.hid (K1.out.trans k2)
  clear h2 k2
  go_wp2
  go_ret
  exact ⟨rfl, WL.drop_del (drop_len HR.out k).symm H2.out, K2.out⟩
/-- Without any node. -/
def empSt : St := ⟨0, []⟩
theorem wempty_any (w : World) (hB : B ≤ w.heap.size) (hL : ∀ x, L x → x < w.heap.size) : Calls Tryz.prog 95 #[] w fun e w' =>
    e = .returned (.pointer (some ⟨w.heap.size + 2, 0, none⟩)) ∧ WB B L w' (w.heap.size + 2) w.heap.size (w.heap.size + 1) empSt ∧ Below w.heap.size w w' := by
  have hmm := @run_makeMap Tryz.prog
  go_enter Tryz.func95, Tryz.ntmps95
  go_wp2
  go_ret
  refine ⟨rfl, ?_, by repeat (first | exact Below.refl _ _ | refine bl_alloc ?_ _)⟩
  have s1 : (w.alloc (.cells #[.map none, .int .i64 0] 154)).heap.size = w.heap.size + 1 := by simp
  have s2 : ((w.alloc (.cells #[.map none, .int .i64 0] 154)).alloc (.map #[] 0)).heap.size = w.heap.size + 2 := by simp
  have r := Row.new ((w.alloc (.cells #[.map none, .int .i64 0] 154)).alloc (.map #[] 0)) 92 [.pointer (some ⟨w.heap.size, 0, none⟩), .map (some (w.heap.size + 1))]
  rw [s2] at r
  have rt := ((Row.new w 154 [.map none, .int .i64 0]).alloc (.map #[] 0)).alloc (.cells #[.pointer (some ⟨w.heap.size, 0, none⟩), .map (some (w.heap.size + 1))] 92)
  have rm : PMap (((w.alloc (.cells #[.map none, .int .i64 0] 154)).alloc (.map #[] 0)).alloc (.cells #[.pointer (some ⟨w.heap.size, 0, none⟩), .map (some (w.heap.size + 1))] 92)) (w.heap.size + 1) (fun _ => none) 0 :=
    (mapAt_new' _ _ _ _ (w.alloc (.cells #[.map none, .int .i64 0] 154)) s1.symm).alloc _
  have hsz : (((w.alloc (.cells #[.map none, .int .i64 0] 154)).alloc (.map #[] 0)).alloc (.cells #[.pointer (some ⟨w.heap.size, 0, none⟩), .map (some (w.heap.size + 1))] 92)).heap.size = w.heap.size + 3 := by simp
  refine ⟨by omega, fun x hx => by have := hL x hx; omega, none, fun _ => none, 0, fun x => if x = w.heap.size + 2 then -1 else if x = w.heap.size then -2 else if x = w.heap.size + 1 then -4 else 0, ?_, ?_, ?_⟩
  · refine ⟨r.cell 0, r.cell 1, ?_, rm, fun k p hp => (by cases hp), fun _ _ => rfl, ?_, fun k p hp => (by cases hp), ?_, ?_, ?_⟩
    · exact ⟨rt.cell 0, rt.cell 1, rt.froz 0, rt.froz 1, rt.lt, rfl, fun _ => rfl⟩
    · rintro x (rfl | hx)
      · simp
      · cases hx
    · simp
    · simp
    · intro x hx
      rw [hsz]
      split at hx
      · omega
      · split at hx
        · omega
        · split at hx
          · omega
          · exact absurd rfl hx
  · intro x hx
    replace hx : (if x = w.heap.size + 2 then (-1 : Int) else if x = w.heap.size then -2 else if x = w.heap.size + 1 then -4 else 0) ≠ 0 := hx
    refine ⟨?_, fun hl => ?_⟩
    · split at hx
      · omega
      · split at hx
        · omega
        · split at hx
          · omega
          · exact absurd rfl hx
    · have := hL x hl
      rw [if_neg (by omega), if_neg (by omega), if_neg (by omega)] at hx
      exact absurd rfl hx
  · intro k hk
    exact absurd rfl hk
theorem wnew_any (w : World) (hB : B ≤ w.heap.size) (hL : ∀ x, L x → x < w.heap.size) (hE : Env E B w) : Calls Tryz.prog 51 #[] w fun e w' =>
    e = .returned (.pointer (some ⟨w.heap.size + 2, 0, none⟩)) ∧ WB B L w' (w.heap.size + 2) w.heap.size (w.heap.size + 1) newSt ∧ KeptP B L w w' := by
  have HE := Lib.hid hE
  have HB := Lib.hid hB
  have HL := Lib.hid hL
  clear hE hB hL
  go_enter Tryz.func51, Tryz.ntmps51
  go_wp2_with fail
  refine (wempty_any w HB.out HL.out).mono ?_
  rintro e w1 ⟨rfl, h1, b1⟩
  have H1 := Lib.hid h1
  have B1 := Lib.hid b1
  clear h1 b1
  go_wp2_with fail
  refine (wput_ok H1.out List.Pairwise.nil ⟨1, 2, 1, 0, ⟨#[]⟩, 1⟩ newNd_valid' (fun _ => by decide) (HE.out.below B1.out)).mono ?_
  rintro e w2 ⟨rfl, h2, k2⟩
  have H2 := Lib.hid h2
  have K2 := Lib.hid ((KeptP.of_below B1.out HB.out HL.out).trans k2)
  clear h2 k2
  go_wp2
  go_ret
  exact ⟨rfl, H2.out, K2.out⟩
end
end Go.Proofs.YtjekpbkmhgfhoaaGreatDoor
end
