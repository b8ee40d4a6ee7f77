/- Merged texts: TreeLawP Vol VolFile VolOpen VolHolesP VolFullP VolLinksP VolOpenP VolListsP VolWf VolKeep Span. -/
import Derived.Test.YtjekpbkmhgfhoaaGreatDoorGBase21
import Derived.Test.YtjekpbkmhgfhoaaGreatDoorGBase06
import Derived.Test.YtjekpbkmhgfhoaaGreatDoorGBase09
import Derived.Test.YtjekpbkmhgfhoaaGreatDoorGBase08
import Derived.Test.YtjekpbkmhgfhoaaGreatDoorGBase15
import Derived.Deep.QuietTactic
import Derived.BigQuiet
import Derived.Deep.DeepMust
section
/- The plain laws TreeOver, TreeRings, TreeSlash, TreeMany, TreeDeep on the plain tree. -/
namespace Go.Proofs.YtjekpbkmhgfhoaaGreatDoor
open Go
set_option maxRecDepth 100000
/-- TreeOver -/
def nmA (l : List UInt8) : ByteArray := ⟨l.toArray⟩
def overL : List ByteArray := [nmA [47,102], nmA [47,103], nmA [47,100], nmA [47,101], nmA [47,104]]
def overS : St :=
  let s1 := (makeT newSt (overL.getD 0 noText) 1 noText).2.2
  let s2 := (makeT s1 (overL.getD 1 noText) 1 noText).2.2
  let s3 := (makeT s2 (overL.getD 2 noText) 2 noText).2.2
  let s4 := (makeT s3 (overL.getD 3 noText) 2 noText).2.2
  let s5 := (hardT s4 (overL.getD 0 noText) (overL.getD 4 noText)).2
  (makeT s5 (nmA [47,101,47,120]) 1 noText).2.2
def overOk (from' to' : Nat) : Bool :=
  let r := renameT overS (overL.getD from' noText) (overL.getD to' noText)
  let a := from' == 2 || from' == 3
  let b := to' == 2 || to' == 3
  let ids : List Int := [2, 3, 4, 5, 2]
  let s := r.2.2
  if ids.getD from' 0 = ids.getD to' 0 then r.1 == 0 && r.2.1 == 0 && s.count == 6 else
  if a && !b then r.1 == 111 && s.count == 6 else
  if !a && b then r.1 == 112 && s.count == 6 else
  if to' = 3 then r.1 == 113 && s.count == 6 else
  let x := lookT s (overL.getD to' noText) false
  let y := lookT s (overL.getD from' noText) false
  r.1 == 0 && r.2.1 == ids.getD to' 0 && x.1 == 0 && x.2.id == ids.getD from' 0 && y.1 == 109 && s.count == 5 &&
   (if b then (s.get (ids.getD to' 0)).isNone else match s.get (ids.getD to' 0) with | some n => n.nd.links == (if ids.getD to' 0 = 2 then 1 else 0) | none => false)
def ringS : Nat → ByteArray × St
  | 0 => (noText, newSt)
  | k + 1 => let r := ringS k; let s := nmA (r.1.data.toList ++ [47, 100]); (s, (makeT r.2 s 2 noText).2.2)
def ringOk (deep a b : Nat) : Bool :=
  let s := (ringS deep).2
  let pa := (ringS a).1
  let pb := nmA ((ringS b).1.data.toList ++ [47, 120])
  let r := renameT s pa pb
  if a ≤ b then r.1 == 114 && r.2.2.within (b+1) (a+1) else
  let x := lookT r.2.2 pb false
  r.1 == 0 && x.1 == 0 && x.2.id == a + 1 && x.2.parent == b+1 && r.2.2.within (a+1) (b+1) && !r.2.2.within (b+1) (a+1) && r.2.2.count == deep
/-- TreeSlash -/
def slashOk (kind : Int) : Bool :=
  let none' := nmA [47,110,111,110,101]
  let a := makeT newSt (nmA [47,97]) kind none'
  let b := makeT a.2.2 (nmA [47,110,47]) kind none'
  let c := hardT b.2.2 (nmA [47,97]) (nmA [47,104,47])
  let d := unlinkT c.2 (nmA [47,97,47])
  let e := renameT d.2.2 (nmA [47,97]) (nmA [47,98,47])
  a.1 == 0 && (if kind = 2 then b.1 == 0 && c.1 == 114 && d.1 == 112 && e.1 == 0 else b.1 == 109 && c.1 == 109 && d.1 == 111 && e.1 == 111)
def decT (i : Nat) : List UInt8 := if i < 10 then [48 + i.toUInt8] else [49, 48 + (i - 10).toUInt8]
/-- TreeMany -/
def gNm (i : Nat) : ByteArray := nmA ([47,103] ++ decT i)
def fNm : ByteArray := nmA [47,102]
def manyS : Nat → St
  | 0 => (makeT newSt fNm 1 noText).2.2
  | k + 1 => (hardT (manyS k) fNm (gNm (k+1))).2
def manyCode (k : Nat) : Int := (hardT (manyS k) fNm (gNm (k+1))).1
def manyU (n : Nat) : Nat → St
  | 0 => manyS n
  | k + 1 => (unlinkT (manyU n k) (gNm (k + 1))).2.2
def manyOk (n : Nat) : Bool :=
  ((List.range n).all fun k => manyCode k == (if k + 1 < 16 then 0 else 117)) && !(freeT (manyS n) 2).1 &&
  ((List.range (min n 15)).all fun k => let r := unlinkT (manyU n k) (gNm (k + 1)); r.1 == 0 && r.2.1 == 2) &&
  (let s := manyU n (min n 15); let r := unlinkT s fNm; r.1 == 0 && r.2.1 == 2 && (r.2.2.get 2).isSome && r.2.2.count == 0 && (freeT r.2.2 2).1 && !(freeT (freeT r.2.2 2).2 2).1 && (freeT r.2.2 2).2.ns.length == 1)
/-- TreeDeep -/
def deepP : Nat → ByteArray
  | 0 => noText
  | k + 1 => nmA ((deepP k).data.toList ++ [47,100] ++ decT k)
def deepS : Nat → St
  | 0 => newSt
  | k + 1 => (makeT (deepS k) (deepP (k+1)) 2 noText).2.2
def deepUp (deep : Nat) : Nat → ByteArray
  | 0 => deepP deep
  | k + 1 => nmA ((deepUp deep k).data.toList ++ [47,46,46])
def deepOk (deep up : Nat) : Bool :=
  let s := deepS deep
  let p := deepUp deep up
  let x := lookT s p true
  let f := rmdirT s (nmA (p.data.toList ++ [47,46]))
  x.1 == 0 && x.2.id == (deep : Int) + 1 - up && x.2.parent == max 1 ((deep : Int) - up) && (if up > 0 then f.1 != 0 else f.1 == 0)
/-- .. and from the deepest on -/
def deepD (deep : Nat) (s : St) : Nat → St
  | 0 => s
  | k + 1 => (rmdirT (deepD deep s k) (deepP (deep - k))).2.2
def deepDown (deep up : Nat) : Bool :=
  let f := rmdirT (deepS deep) (nmA ((deepUp deep up).data.toList ++ [47,46]))
  let from' := if up = 0 then deep - 1 else deep
  ((List.range from').all fun j =>
    let s := deepD from' f.2.2 j
    let k := from' - j
    (if k > 1 then (rmdirT s (deepP (k - 1))).1 == 113 else true) && (let r := rmdirT s (deepP k); r.1 == 0 && r.2.1 == (k : Int) + 1)) &&
  (deepD from' f.2.2 from').count == 0 && (deepD from' f.2.2 from').ns.length == 1
end Go.Proofs.YtjekpbkmhgfhoaaGreatDoor
end

section
/- A volume in plain words: names and nodes, files' blocks, what is open; what each call answers and leaves. No program in sight. -/
namespace Go.Proofs.YtjekpbkmhgfhoaaGreatDoor
set_option linter.unusedSimpArgs false
set_option linter.unusedVariables false
structure Hdl where
  node : Int
  pos : Int
structure V where
  st : St
  g : Int → Nat → FBlk
  fs : Nat → Option Hdl
  quota : Int
def newV (q : Int) : V := ⟨newSt, fun _ _ => none, fun _ => none, q⟩
/-- How many blocks a node has. -/
def nBlk (g : Nat → FBlk) : Nat := ((List.range 64).filter fun i => (g i).isSome).length
def V.nodes (v : V) : Int := v.st.ns.length
def V.blocks (v : V) : Int := ((v.st.ns.map fun r => nBlk (v.g r.nd.id)).sum : Nat)
def V.charge (v : V) : Int := min (v.nodes + v.st.count + v.blocks) 2147483647
/-- A call tried on a copy, and taken if it may be. -/
def triedV (v : V) (act : V → Int × V) : Int × V :=
  let c := act v
  if c.1 ≠ 0 then (c.1, v) else
  if v.quota < c.2.charge ∧ v.charge < c.2.charge then (119, v) else c
def madeV (v : V) (s : ByteArray) (kind : Int) (to : ByteArray) : Int × V := triedV v fun c => let r := makeT c.st s kind to; (r.1, { c with st := r.2.2 })
def mkdirV (v : V) (s : ByteArray) : Int × V := madeV v s 2 noText
def symlinkV (v : V) (target s : ByteArray) : Int × V := madeV v s 3 target
def readlinkV (v : V) (s : ByteArray) : Int × ByteArray :=
  let l := lookT v.st s false
  if l.1 ≠ 0 then (l.1, noText) else if l.2.kind ≠ 3 then (114, noText) else (0, l.2.target)
def linkV (v : V) (a b : ByteArray) : Int × V := triedV v fun c => let r := hardT c.st a b; (r.1, { c with st := r.2 })
def V.holds (v : V) (id : Int) : Bool := (List.range 16).any fun fd => match v.fs fd with
  | some h => h.node == id
  | none => false
def delG (g : Int → Nat → FBlk) (id : Int) : Int → Nat → FBlk := fun k i => if k = id then none else g k i
def freeV (v : V) (id : Int) : V := if v.holds id then v else
  let r := freeT v.st id
  if r.1 then { v with st := r.2, g := delG v.g id } else v
def unlinkV (v : V) (s : ByteArray) : Int × V :=
  let r := unlinkT v.st s
  if r.1 ≠ 0 then (r.1, v) else (0, freeV { v with st := r.2.2 } r.2.1)
def rmdirV (v : V) (s : ByteArray) : Int × V :=
  let r := rmdirT v.st s
  (r.1, { v with st := r.2.2 })
def renameV (v : V) (a b : ByteArray) : Int × V :=
  let r := renameT v.st a b
  if r.1 ≠ 0 then (r.1, v) else (0, if 0 < r.2.1 then freeV { v with st := r.2.2 } r.2.1 else { v with st := r.2.2 })
/-- The least number that is free. -/
def fdOf (fs : Nat → Option Hdl) : Option Nat := (List.range 16).find? fun fd => (fs fd).isNone
def openF (v : V) (id : Int) : Int × Nat × V := match fdOf v.fs with
  | none => (120, 0, v)
  | some fd => (0, fd, { v with fs := fun k => if k = fd then some ⟨id, 0⟩ else v.fs k })
def createA (s : ByteArray) (c : V) : Int × Nat × V :=
  let r := makeT c.st s 1 noText
  if r.1 ≠ 0 then (r.1, 0, { c with st := r.2.2 }) else openF { c with st := r.2.2 } r.2.1
def createV (v : V) (s : ByteArray) : Int × Nat × V :=
  let p := parseP s
  if p.1 ≠ 0 then (p.1, 0, v) else
  let f := lastP v.st p.2
  if f.1 ≠ 0 then (f.1, 0, v) else if 0 < f.2.node then (109, 0, v) else
  let t := triedV v fun c => ((createA s c).1, (createA s c).2.2)
  if t.1 ≠ 0 then (t.1, 0, t.2) else (0, (createA s v).2.1, t.2)
def openV (v : V) (s : ByteArray) (create : Bool) : Int × Nat × V :=
  let l := lookT v.st s true
  if l.1 = 109 ∧ create = true then createV v s else
  if l.1 ≠ 0 then (l.1, 0, v) else if l.2.kind = 2 then (112, 0, v) else openF v l.2.id
def closeV (v : V) (fd : Nat) : Int × V := match v.fs fd with
  | none => (121, v)
  | some h => (0, freeV { v with fs := fun k => if k = fd then none else v.fs k } h.node)
/-- What a number has open, and its node. -/
def atV (v : V) (fd : Nat) : Option (Hdl × Nd) := (v.fs fd).map fun h => (h, ((v.st.get h.node).map NR.nd).getD noNd)
def seekV (v : V) (fd : Nat) (pos : Int) : Int × V := match v.fs fd with
  | none => (121, v)
  | some h => if pos < 0 ∨ 1099511627776 < pos then (114, v) else (0, { v with fs := fun k => if k = fd then some ⟨h.node, pos⟩ else v.fs k })
def lostB : FBlk → Bool
  | some none => true
  | _ => false
theorem lostB_no {o : FBlk} (h : o ≠ some none) : lostB o = false := by
  match o, h with
  | none, _ => rfl
  | some none, h => exact absurd rfl h
  | some (some l), _ => rfl
def readV (v : V) (fd : Nat) (n : Int) : Int × List Int × V := match atV v fd with
  | none => (121, [], v)
  | some (h, x) => if n < 0 then (114, [], v) else if x.size ≤ h.pos then (0, [], v) else
    let k := (min (min n 1024) (x.size - h.pos)).toNat
    if (spanP h.pos.toNat k).any (fun p => lostB (v.g x.id p.1)) then (107, [], v) else
    (0, readAt (v.g x.id) h.pos.toNat k, (seekV v fd (h.pos + k)).2)
/-- Has a piece all bytes that a file of a size has of its block? -/
def hasB (i : Nat) (size : Int) : Int := if size / 256 < i then 0 else if size / 256 = i then size % 256 else 256
def wholeP (p : Nat × Nat × Nat) (size : Int) : Bool := p.2.1 == 0 && decide (hasB p.1 size ≤ p.2.2)
/-- Bytes laid at a place of an open file. -/
def laidV (c : V) (fd : Nat) (h : Hdl) (x : Nd) (b : List Int) : V :=
  (seekV { c with g := fun k => if k = x.id then layAt (c.g x.id) h.pos.toNat b else c.g k, st := c.st.put ⟨x.id, x.kind, x.links, max x.size (h.pos + b.length), x.target, x.parent⟩ } fd (h.pos + b.length)).2
def writeV (v : V) (fd : Nat) (b0 : List Int) : Int × Int × V := match atV v fd with
  | none => (121, 0, v)
  | some (h, x) =>
    let b := b0.take 1024
    if b = [] then (0, 0, v) else if 16384 < h.pos + b.length then (118, 0, v) else
    if (spanP h.pos.toNat b.length).any (fun p => lostB (v.g x.id p.1) && !wholeP p x.size) then (107, 0, v) else
    let t := triedV v fun c => (0, laidV c fd h x b)
    if t.1 ≠ 0 then (t.1, 0, t.2) else (0, b.length, t.2)
def blocksOf (n : Int) : Int := if n ≤ 0 then 0 else (n - 1) / 256 + 1
/-- A file's blocks, cut or made longer. -/
def truncG (g : Nat → FBlk) (sz size : Int) : Nat → FBlk := fun k =>
  if blocksOf size ≤ k then none else
  if (0 < (size % 256).toNat ∧ size < sz ∧ (g (size / 256).toNat).isSome = true) ∧ k = (size / 256).toNat then some (some ((bytesOf (g k)).take (size % 256).toNat ++ List.replicate (256 - (size % 256).toNat) 0)) else g k
def truncV (v : V) (fd : Nat) (size : Int) : Int × V := match atV v fd with
  | none => (121, v)
  | some (_, x) => if size < 0 then (114, v) else if 16384 < size then (118, v) else
    if 0 < (size % 256).toNat ∧ size < x.size ∧ lostB (v.g x.id (size / 256).toNat) = true then (107, v) else
    (0, { v with g := fun k => if k = x.id then truncG (v.g x.id) x.size size else v.g k, st := v.st.put ⟨x.id, x.kind, x.links, size, x.target, x.parent⟩ })
structure Sta where
  node : Int
  kind : Int
  links : Int
  size : Int
  blocks : Int
def statN (v : V) (n : Nd) : Sta := ⟨n.id, n.kind, n.links, n.size, nBlk (v.g n.id)⟩
def statV (v : V) (s : ByteArray) (fo : Bool) : Int × Option Sta :=
  let l := lookT v.st s fo
  if l.1 ≠ 0 then (l.1, none) else (0, some (statN v l.2))
def fstatV (v : V) (fd : Nat) : Int × Option Sta := match atV v fd with
  | none => (121, none)
  | some (_, x) => (0, some (statN v x))
/-- A directory's entries behind a name; are there more? (as fromL of DirFrom) -/
def listV (v : V) (s after : ByteArray) (n : Int) : Int × List En × Bool :=
  let d : Int × List En := let l := lookT v.st s true; if l.1 ≠ 0 then (l.1, []) else if l.2.kind ≠ 2 then (111, []) else (0, ((v.st.get l.2.id).map NR.ents).getD [])
  if d.1 ≠ 0 then (d.1, [], false) else
  let l := d.2.filter fun e => decide (after.data.toList < e.name.data.toList)
  (0, if (l.length : Int) ≤ max n 0 then (l, false) else (l.take n.toNat, true))
def settleV (v : V) : V :=
  let a := (List.range 16).foldl (fun v fd => (closeV v fd).2) v
  (a.st.ns.map fun r => r.nd.id).foldl freeV a
theorem writeV_ok {v : V} {fd : Nat} {h : Hdl} {x : Nd} {b : List Int} (hat : atV v fd = some (h, x)) (hn : b.length ≤ 1024) (hb : b ≠ []) (hp : h.pos + b.length ≤ 16384)
    (hl : ∀ i, v.g x.id i ≠ some none) (hq : (laidV v fd h x b).charge ≤ max v.quota v.charge) : writeV v fd b = (0, (b.length : Int), laidV v fd h x b) := by
  have ht : b.take 1024 = b := List.take_of_length_le hn
  have ha : (spanP h.pos.toNat b.length).any (fun p => lostB (v.g x.id p.1) && !wholeP p x.size) = false := by
    rw [List.any_eq_false]
    intro p _
    rw [lostB_no (hl p.1)]
    simp
  have hT : triedV v (fun c => (0, laidV c fd h x b)) = (0, laidV v fd h x b) := by
    unfold triedV
    simp only
    rw [if_neg (by simp), if_neg (by omega)]
  unfold writeV
  rw [hat]
  simp only
  rw [ht, if_neg hb, if_neg (by omega), ha, if_neg (by simp), hT]
  simp
theorem writeV_none {v : V} {fd : Nat} {h : Hdl} {x : Nd} (hat : atV v fd = some (h, x)) : writeV v fd [] = (0, 0, v) := by
  unfold writeV
  rw [hat]
  simp
theorem seekV_ok {v : V} {fd : Nat} {h : Hdl} (hf : v.fs fd = some h) {p : Int} (h0 : 0 ≤ p) (h1 : p ≤ 1099511627776) : seekV v fd p = (0, { v with fs := fun k => if k = fd then some ⟨h.node, p⟩ else v.fs k }) := by
  unfold seekV
  rw [hf]
  simp only
  rw [if_neg (by omega)]
theorem laidV_eq {v : V} {fd : Nat} {h h' : Hdl} {x : Nd} {b : List Int} (hf : v.fs fd = some h') (h0 : 0 ≤ h.pos) (hp : h.pos + b.length ≤ 16384) :
    laidV v fd h x b = ⟨v.st.put ⟨x.id, x.kind, x.links, max x.size (h.pos + b.length), x.target, x.parent⟩, fun k => if k = x.id then layAt (v.g x.id) h.pos.toNat b else v.g k, fun k => if k = fd then some ⟨h'.node, h.pos + b.length⟩ else v.fs k, v.quota⟩ := by
  unfold laidV
  rw [seekV_ok (h := h') (by exact hf) (by omega) (by omega)]
end Go.Proofs.YtjekpbkmhgfhoaaGreatDoor
end

section
/- A volume with one file that is open: what its calls leave, in plain words. No program in sight. -/
namespace Go.Proofs.YtjekpbkmhgfhoaaGreatDoor
set_option linter.unusedSimpArgs false
set_option linter.unusedVariables false
/-- One file in the first directory, open as 0, at a place. -/
def fileV (nm : ByteArray) (g : Nat → FBlk) (sz pos q : Int) : V :=
  ⟨⟨2, [⟨⟨1, 2, 1, 0, noText, 1⟩, [⟨nm, 2, 1⟩]⟩, ⟨⟨2, 1, 1, sz, noText, 0⟩, []⟩]⟩, fun k => if k = 2 then g else fun _ => none, fun k => if k = 0 then some ⟨2, pos⟩ else none, q⟩
variable {nm : ByteArray} {g : Nat → FBlk} {sz pos q : Int}
theorem file_at : atV (fileV nm g sz pos q) 0 = some (⟨2, pos⟩, ⟨2, 1, 1, sz, noText, 0⟩) := by
  unfold atV fileV St.get
  simp
theorem file_put (s' : Int) : (fileV nm g sz pos q).st.put ⟨2, 1, 1, s', noText, 0⟩ = (fileV nm g s' pos q).st := by
  unfold fileV St.put
  simp [putN]
theorem file_seek {p : Int} (h0 : 0 ≤ p) (h1 : p ≤ 1099511627776) : seekV (fileV nm g sz pos q) 0 p = (0, fileV nm g sz p q) := by
  rw [seekV_ok (h := ⟨2, pos⟩) (by simp [fileV]) h0 h1]
  unfold fileV
  simp only [Prod.mk.injEq, true_and, V.mk.injEq]
  refine ⟨?_, trivial⟩
  funext k
  by_cases hk : k = 0 <;> simp [hk]
theorem nBlk_le (g : Nat → FBlk) : nBlk g ≤ 64 := by
  unfold nBlk
  exact Nat.le_trans (List.length_filter_le _ _) (by simp)
theorem nBlk_none : nBlk (fun _ => none) = 0 := by
  unfold nBlk
  simp
theorem file_charge : (fileV nm g sz pos q).charge = 3 + nBlk g := by
  have h := nBlk_le g
  have hb : (fileV nm g sz pos q).blocks = nBlk g := by
    unfold V.blocks fileV
    simp [nBlk_none]
  unfold V.charge
  rw [hb]
  have hn : (fileV nm g sz pos q).nodes = 2 := rfl
  have hc : (fileV nm g sz pos q).st.count = 1 := by
    unfold St.count fileV
    simp
  rw [hn, hc]
  omega
theorem file_laid {b : List Int} (h0 : 0 ≤ pos) (hp : pos + b.length ≤ 16384) :
    laidV (fileV nm g sz pos q) 0 ⟨2, pos⟩ ⟨2, 1, 1, sz, noText, 0⟩ b = fileV nm (layAt g pos.toNat b) (max sz (pos + b.length)) (pos + b.length) q := by
  rw [laidV_eq (h' := ⟨2, pos⟩) (by simp [fileV]) h0 hp]
  simp only
  rw [file_put]
  unfold fileV
  simp only [V.mk.injEq, true_and]
  refine ⟨?_, ?_, trivial⟩
  · funext k
    by_cases hk : k = 2
    · subst hk; simp
    · simp [hk]
  · funext k
    split <;> rfl
/-- What is written is laid, if it may be. -/
theorem file_write {b : List Int} (h0 : 0 ≤ pos) (hn : b.length ≤ 1024) (hb : b ≠ []) (hp : pos + b.length ≤ 16384) (hl : ∀ i, g i ≠ some none) (hq : 3 + (nBlk (layAt g pos.toNat b) : Int) ≤ q) :
    writeV (fileV nm g sz pos q) 0 b = (0, (b.length : Int), fileV nm (layAt g pos.toNat b) (max sz (pos + b.length)) (pos + b.length) q) := by
  rw [writeV_ok file_at hn hb hp (by intro i; simp only [fileV, if_pos]; exact hl i), file_laid h0 hp]
  rw [file_laid h0 hp, file_charge]
  show _ ≤ max q _
  omega
/-- What is read, where all is there. -/
theorem file_read {n : Int} (h0 : 0 ≤ pos) (hs : sz ≤ 16384) (hn : 0 ≤ n) (hlt : pos < sz) (hl : ∀ i, g i ≠ some none) :
    readV (fileV nm g sz pos q) 0 n = (0, readAt g pos.toNat (min (min n 1024) (sz - pos)).toNat, fileV nm g sz (pos + min (min n 1024) (sz - pos)) q) := by
  have ha : ∀ l : List (Nat × Nat × Nat), l.any (fun p => lostB ((fileV nm g sz pos q).g 2 p.1)) = false := by
    intro l
    rw [List.any_eq_false]
    intro p _
    show ¬ lostB (g p.1) = true
    rw [lostB_no (hl p.1)]
    simp
  unfold readV
  rw [file_at]
  simp only
  rw [if_neg (by omega), if_neg (by omega), ha, if_neg (by simp)]
  have hk : (((min (min n 1024) (sz - pos)).toNat : Nat) : Int) = min (min n 1024) (sz - pos) := by omega
  rw [hk, file_seek (by omega) (by omega)]
  rfl
theorem file_end {n : Int} (hn : 0 ≤ n) (hlt : sz ≤ pos) : readV (fileV nm g sz pos q) 0 n = (0, [], fileV nm g sz pos q) := by
  unfold readV
  rw [file_at]
  simp only
  rw [if_neg (by omega), if_pos hlt]
/-! ### what is in a file -/
end Go.Proofs.YtjekpbkmhgfhoaaGreatDoor
end

section
/- A new volume's first file, made by an Open. No program in sight. -/
namespace Go.Proofs.YtjekpbkmhgfhoaaGreatDoor
set_option linter.unusedSimpArgs false
set_option linter.unusedVariables false
abbrev nmF : ByteArray := ⟨#[102]⟩
abbrev pF : ByteArray := ⟨#[47, 102]⟩
theorem openF_new (s : St) (q : Int) (id : Int) (g : Int → Nat → FBlk) : openF ⟨s, g, fun _ => none, q⟩ id = (0, 0, ⟨s, g, fun k => if k = 0 then some ⟨id, 0⟩ else none, q⟩) := by
  rfl
end Go.Proofs.YtjekpbkmhgfhoaaGreatDoor
end

section
/- What VolHoles asks, in plain words. No program in sight. -/
namespace Go.Proofs.YtjekpbkmhgfhoaaGreatDoor
set_option linter.unusedSimpArgs false
set_option linter.unusedVariables false
theorem range_between (lo hi : Nat) : ∀ m, ((List.range m).filter fun i => decide (lo ≤ i ∧ i ≤ hi)).length = min m (hi + 1) - lo
  | 0 => by simp
  | m + 1 => by
    rw [List.range_succ, List.filter_append, List.length_append, range_between lo hi m]
    by_cases h : lo ≤ m ∧ m ≤ hi
    · rw [List.filter_cons_of_pos (by simpa using h)]
      simp only [List.filter_nil, List.length_cons, List.length_nil]
      omega
    · rw [List.filter_cons_of_neg (by simpa using h)]
      simp only [List.filter_nil, List.length_nil]
      omega
/-- Laid into nothing, the blocks that it touches are there, and no others. -/
theorem nBlk_laid {at' : Nat} {b : List Int} (hb : b ≠ []) (hp : at' + b.length ≤ 16384) : nBlk (layAt (fun _ => none) at' b) = (at' + b.length - 1) / 256 - at' / 256 + 1 := by
  have hn : 0 < b.length := List.length_pos_iff.2 hb
  have hall : ∀ i, (layAt (fun _ => none) at' b i).isSome = decide (at' / 256 ≤ i ∧ i ≤ (at' + b.length - 1) / 256) := by
    intro i
    have h := layF_blocks b.length (fun _ => none) at' b (Nat.le_refl _) i
    by_cases hi : at' / 256 ≤ i ∧ i ≤ (at' + b.length - 1) / 256
    · obtain ⟨l, hl⟩ := h.2 hb hi.1 hi.2
      unfold layAt
      rw [hl, decide_eq_true hi]
      rfl
    · rw [decide_eq_false hi]
      by_cases hg : layF b.length (fun _ => none) at' b i = none
      · unfold layAt
        rw [hg]
        rfl
      · exact absurd ⟨(h.1 hg).1, (h.1 hg).2.2⟩ hi
  unfold nBlk
  simp only [hall]
  rw [range_between]
  have : (at' + b.length - 1) / 256 < 64 := by omega
  omega
theorem laid_lost {g : Nat → FBlk} (hl : ∀ i, g i ≠ some none) (at' : Nat) (b : List Int) : ∀ i, layAt g at' b i ≠ some none := by
  intro i h
  have hB := layF_blocks b.length g at' b (Nat.le_refl _) i
  by_cases hg : layF b.length g at' b i = g i
  · exact hl i (hg ▸ h)
  · have := hB.1 hg
    obtain ⟨l, hl'⟩ := hB.2 this.2.1 this.1 this.2.2
    unfold layAt at h
    rw [hl'] at h
    cases h
end Go.Proofs.YtjekpbkmhgfhoaaGreatDoor
end

section
/- What VolFull asks, in plain words. No program in sight. -/
namespace Go.Proofs.YtjekpbkmhgfhoaaGreatDoor
set_option linter.unusedSimpArgs false
set_option linter.unusedVariables false
/-- The first so many blocks are there, and no others. -/
def PreB (g : Nat → FBlk) (m : Nat) : Prop := ∀ i, (g i).isSome = decide (i < m)
abbrev nmD : ByteArray := ⟨#[100]⟩
abbrev pD : ByteArray := ⟨#[47, 100]⟩
variable {g : Nat → FBlk} {sz pos q : Int}
/-- The file's volume with a directory beside it. -/
def dirV (g : Nat → FBlk) (sz pos q : Int) : V :=
  ⟨⟨3, [⟨⟨1, 2, 1, 0, noText, 1⟩, [⟨nmD, 3, 2⟩, ⟨nmF, 2, 1⟩]⟩, ⟨⟨2, 1, 1, sz, noText, 0⟩, []⟩, ⟨⟨3, 2, 1, 0, noText, 1⟩, []⟩]⟩, fun k => if k = 2 then g else fun _ => none, fun k => if k = 0 then some ⟨2, pos⟩ else none, q⟩
end Go.Proofs.YtjekpbkmhgfhoaaGreatDoor
end

section
/- What VolLinks asks, in plain words. No program in sight. -/
namespace Go.Proofs.YtjekpbkmhgfhoaaGreatDoor
set_option linter.unusedSimpArgs false
set_option linter.unusedVariables false
abbrev pG : ByteArray := ⟨#[47, 103]⟩
abbrev pL : ByteArray := ⟨#[47, 108]⟩
abbrev pM : ByteArray := ⟨#[47, 109]⟩
abbrev txNone : ByteArray := ⟨#[110, 111, 110, 101]⟩
def lkS1 (sz : Int) : St := ⟨2, [⟨⟨1, 2, 1, 0, noText, 1⟩, [⟨nmF, 2, 1⟩, ⟨⟨#[103]⟩, 2, 1⟩]⟩, ⟨⟨2, 1, 2, sz, noText, 0⟩, []⟩]⟩
def lkS2 (sz : Int) : St := ⟨3, [⟨⟨1, 2, 1, 0, noText, 1⟩, [⟨nmF, 2, 1⟩, ⟨⟨#[103]⟩, 2, 1⟩, ⟨⟨#[108]⟩, 3, 3⟩]⟩, ⟨⟨2, 1, 2, sz, noText, 0⟩, []⟩, ⟨⟨3, 3, 1, 0, pG, 0⟩, []⟩]⟩
def lkS3 (sz : Int) : St := ⟨4, [⟨⟨1, 2, 1, 0, noText, 1⟩, [⟨nmF, 2, 1⟩, ⟨⟨#[103]⟩, 2, 1⟩, ⟨⟨#[108]⟩, 3, 3⟩, ⟨⟨#[109]⟩, 4, 3⟩]⟩, ⟨⟨2, 1, 2, sz, noText, 0⟩, []⟩, ⟨⟨3, 3, 1, 0, pG, 0⟩, []⟩, ⟨⟨4, 3, 1, 0, txNone, 0⟩, []⟩]⟩
variable {g : Nat → FBlk} {sz pos q : Int}
end Go.Proofs.YtjekpbkmhgfhoaaGreatDoor
end

section
/- What VolOpen asks of the tree, in plain words. No program in sight. -/
namespace Go.Proofs.YtjekpbkmhgfhoaaGreatDoor
set_option linter.unusedSimpArgs false
set_option linter.unusedVariables false
variable {g : Nat → FBlk} {sz pos q : Int}
/-- No name, one node without links; the last number that was given. -/
def opS (last sz : Int) : St := ⟨last, [⟨⟨1, 2, 1, 0, noText, 1⟩, []⟩, ⟨⟨2, 1, 0, sz, noText, 0⟩, []⟩]⟩
def opS2 (sz : Int) : St := ⟨3, [⟨⟨1, 2, 1, 0, noText, 1⟩, [⟨nmF, 2, 1⟩, ⟨⟨#[103]⟩, 3, 1⟩]⟩, ⟨⟨2, 1, 1, sz, noText, 0⟩, []⟩, ⟨⟨3, 1, 1, 0, noText, 0⟩, []⟩]⟩
def opS3 (sz : Int) : St := ⟨3, [⟨⟨1, 2, 1, 0, noText, 1⟩, [⟨nmF, 3, 1⟩]⟩, ⟨⟨2, 1, 0, sz, noText, 0⟩, []⟩, ⟨⟨3, 1, 1, 0, noText, 0⟩, []⟩]⟩
def opS4 (sz : Int) : St := ⟨3, [⟨⟨1, 2, 1, 0, noText, 1⟩, []⟩, ⟨⟨2, 1, 0, sz, noText, 0⟩, []⟩, ⟨⟨3, 1, 0, 0, noText, 0⟩, []⟩]⟩
end Go.Proofs.YtjekpbkmhgfhoaaGreatDoor
end

section
/- What VolLists asks of the tree, in plain words. No program in sight. -/
namespace Go.Proofs.YtjekpbkmhgfhoaaGreatDoor
set_option linter.unusedSimpArgs false
set_option linter.unusedVariables false
set_option maxRecDepth 100000
def nm3 (k : Nat) : ByteArray := ⟨#[110, UInt8.ofNat (48 + k / 100), UInt8.ofNat (48 + k / 10 % 10), UInt8.ofNat (48 + k % 10)]⟩
def pN (k : Nat) : ByteArray := ⟨#[47, 100, 47, 110, UInt8.ofNat (48 + k / 100), UInt8.ofNat (48 + k / 10 % 10), UInt8.ofNat (48 + k % 10)]⟩
def dEnts (n : Nat) : List En := (List.range n).map fun i => ⟨nm3 (100 + i), ((3 + i : Nat) : Int), 2⟩
/-- A directory with so many in it. -/
def dS (n : Nat) : St := ⟨((2 + n : Nat) : Int), ⟨⟨1, 2, 1, 0, noText, 1⟩, [⟨nmD, 2, 2⟩]⟩ :: ⟨⟨2, 2, 1, 0, noText, 1⟩, dEnts n⟩ :: (List.range n).map fun i => ⟨⟨((3 + i : Nat) : Int), 2, 1, 0, noText, 2⟩, []⟩⟩
theorem ls_first : makeT newSt pD 2 noText = (0, 2, dS 0) := by rfl
theorem ls_make : ∀ n, n < 20 → makeT (dS n) (pN (100 + n)) 2 noText = (0, ((3 + n : Nat) : Int), dS (n + 1))
  | 0, _ => by rfl
  | 1, _ => by rfl
  | 2, _ => by rfl
  | 3, _ => by rfl
  | 4, _ => by rfl
  | 5, _ => by rfl
  | 6, _ => by rfl
  | 7, _ => by rfl
  | 8, _ => by rfl
  | 9, _ => by rfl
  | 10, _ => by rfl
  | 11, _ => by rfl
  | 12, _ => by rfl
  | 13, _ => by rfl
  | 14, _ => by rfl
  | 15, _ => by rfl
  | 16, _ => by rfl
  | 17, _ => by rfl
  | 18, _ => by rfl
  | 19, _ => by rfl
  | n + 20, h => absurd h (by omega)
theorem nm3_lt : ∀ i, i < 20 → ∀ k, k < 20 → decide ((nm3 (100 + k)).data.toList < (nm3 (100 + i)).data.toList) = decide (k < i) := by decide
theorem nm3_none : ∀ i, i < 20 → decide (noText.data.toList < (nm3 (100 + i)).data.toList) = true := by decide
theorem nm3_a : ∀ k, k < 20 → decide ((nm3 (100 + k)).data.toList < [(97 : UInt8)]) = false := by decide
theorem range_above (k : Nat) : ∀ n, (List.range n).filter (fun i => decide (k < i)) = (List.range n).drop (k + 1)
  | 0 => by simp
  | n + 1 => by
    rw [List.range_succ, List.filter_append, range_above k n, List.drop_append]
    congr 1
    rw [List.length_range]
    by_cases h : k < n
    · rw [List.filter_cons_of_pos (by simpa using h), show k + 1 - n = 0 by omega]
      rfl
    · rw [List.filter_cons_of_neg (by simpa using h)]
      obtain ⟨j, hj⟩ : ∃ j, k + 1 - n = j + 1 := ⟨k - n, by omega⟩
      rw [hj]
      simp
/-- Those behind one are the rest. -/
theorem ls_behind {n k : Nat} (hn : n ≤ 20) (hk : k < 20) : (dEnts n).filter (fun e => decide ((nm3 (100 + k)).data.toList < e.name.data.toList)) = (dEnts n).drop (k + 1) := by
  unfold dEnts
  rw [List.filter_map, ← List.map_drop, ← range_above]
  congr 1
  refine List.filter_congr fun i hi => ?_
  have := List.mem_range.1 hi
  exact nm3_lt i (by omega) k hk
theorem ls_all {n : Nat} (hn : n ≤ 20) : (dEnts n).filter (fun e => decide (noText.data.toList < e.name.data.toList)) = dEnts n := by
  rw [List.filter_eq_self]
  intro e he
  obtain ⟨i, hi, rfl⟩ := List.mem_map.1 he
  have := List.mem_range.1 hi
  exact nm3_none i (by omega)
/-- With one made ahead. -/
def dSa (n : Nat) : St := ⟨((3 + n : Nat) : Int), ⟨⟨1, 2, 1, 0, noText, 1⟩, [⟨nmD, 2, 2⟩]⟩ :: ⟨⟨2, 2, 1, 0, noText, 1⟩, ⟨⟨#[97]⟩, ((3 + n : Nat) : Int), 2⟩ :: dEnts n⟩ :: ((List.range n).map fun i => ⟨⟨((3 + i : Nat) : Int), 2, 1, 0, noText, 2⟩, []⟩) ++ [⟨⟨((3 + n : Nat) : Int), 2, 1, 0, noText, 2⟩, []⟩]⟩
theorem ls_look (n : Nat) : lookT (dS n) pD true = (0, ⟨2, 2, 1, 0, noText, 1⟩) ∧ ((dS n).get 2).map NR.ents = some (dEnts n) := ⟨rfl, rfl⟩
theorem ls_look_a (n : Nat) : lookT (dSa n) pD true = (0, ⟨2, 2, 1, 0, noText, 1⟩) ∧ ((dSa n).get 2).map NR.ents = some (⟨⟨#[97]⟩, ((3 + n : Nat) : Int), 2⟩ :: dEnts n) := ⟨rfl, rfl⟩
end Go.Proofs.YtjekpbkmhgfhoaaGreatDoor
end

section
/- A volume in plain words: what holds of it: blocks are of files that are there, what is open is a file. No program in sight. -/
namespace Go.Proofs.YtjekpbkmhgfhoaaGreatDoor
set_option linter.unusedSimpArgs false
set_option linter.unusedVariables false
structure VWf (s : V) : Prop where
  full : Full s.st
  blk : ∀ k i, s.g k i ≠ none → i < 64 ∧ ∃ r, s.st.get k = some r ∧ r.nd.kind = 1
  wf : ∀ k, Wf (s.g k)
  fs : ∀ fd h, s.fs fd = some h → fd < 16 ∧ 0 ≤ h.pos ∧ h.pos ≤ 1099511627776 ∧ ∃ r, s.st.get h.node = some r ∧ r.nd.kind = 1
theorem valid_size {n : Nd} (h : validB n = true) : 0 ≤ n.size ∧ n.size ≤ 16384 := by
  simp only [validB, Bool.and_eq_true, decide_eq_true_eq] at h
  exact ⟨h.2.2.2.2.1, h.2.2.2.2.2.1⟩
theorem valid_sized {n : Nd} (h : validB n = true) (hk : n.kind = 1) {z : Int} (h0 : 0 ≤ z) (h1 : z ≤ 16384) : validB ⟨n.id, n.kind, n.links, z, n.target, n.parent⟩ = true := by
  simp only [validB, Bool.and_eq_true, decide_eq_true_eq, hk] at h ⊢
  obtain ⟨a1, a2, a3, a4, a5, a6, a7, a8⟩ := h
  exact ⟨a1, a2, a3, a4, h0, h1, by simp, a8⟩
/-- A file of another size. -/
def sized (n : Nd) (z : Int) : Nd := ⟨n.id, n.kind, n.links, z, n.target, n.parent⟩
theorem get_sized {st : St} (f : Full st) {k : Int} {r : NR} (hr : st.get k = some r) (hk : r.nd.kind = 1) (z : Int) (i : Int) : (st.put (sized r.nd z)).get i = if i = k then some ⟨sized r.nd z, []⟩ else st.get i := by
  have hid := findN_id hr
  rw [get_put f.rise]
  show (if i = r.nd.id then _ else _) = _
  rw [hid]
  split
  · rw [show st.get (sized r.nd z).id = some r by rw [show (sized r.nd z).id = k from hid]; exact hr]
    simp [keepE, sized, hk]
  · rfl
theorem sized_full {st : St} (f : Full st) {k : Int} {r : NR} (hr : st.get k = some r) (hk : r.nd.kind = 1) {z : Int} (h0 : 0 ≤ z) (h1 : z ≤ 16384) : Full (st.put (sized r.nd z)) := by
  have hid := findN_id hr
  have hv := f.val r (findN_mem hr)
  have hkk : ∀ x, st.get (sized r.nd z).id = some x → x.nd.kind = (sized r.nd z).kind := fun x hx => by
    rw [show (sized r.nd z).id = k from hid, hr] at hx
    injection hx with hx
    rw [hx]
    rfl
  have hroot : k ≠ 1 := fun e => by
    obtain ⟨x, h2, h3, _⟩ := f.root
    rw [e, h2] at hr
    injection hr with hr
    rw [hr, hk] at h3
    exact absurd h3 (by decide)
  have g2 : Good (st.put (sized r.nd z)) := f.toGood.put (valid_sized hv hk h0 h1) hkk (fun h => by rw [show (sized r.nd z).id = k from hid, hr] at h; cases h) (fun h => by rw [show (sized r.nd z).id = k from hid] at h; exact absurd h hroot)
  have hnm : ∀ i, (st.put (sized r.nd z)).names i = st.names i := names_put f.toGood hkk
  have hold : ∀ i x, (st.put (sized r.nd z)).get i = some x → ∃ y, st.get i = some y ∧ x.nd.kind = y.nd.kind ∧ x.nd.links = y.nd.links ∧ x.nd.parent = y.nd.parent ∧ (∀ e ∈ x.ents, e ∈ y.ents) := fun i x hx => by
    rw [get_sized f hr hk] at hx
    split at hx
    · rename_i he
      injection hx with hx
      subst hx
      exact ⟨r, by rw [he]; exact hr, rfl, rfl, rfl, fun e he => by cases he⟩
    · exact ⟨x, hx, rfl, rfl, rfl, fun e he => he⟩
  refine { g2 with cnt := ?_, par := ?_, one := ?_ }
  · intro i x hx
    obtain ⟨y, h2, h3, h4, h5, h6⟩ := hold i x hx
    rw [h4, hnm]
    exact f.cnt i y h2
  · intro d x hx e he y hy hy2
    obtain ⟨x', h2, h3, h4, h5, h6⟩ := hold d x hx
    obtain ⟨y', h7, h8, h9, h10, h11⟩ := hold _ y hy
    rw [h10]
    exact f.par d x' h2 e (h6 e he) y' h7 (by rw [← h8]; exact hy2)
  · intro i x hx h2k
    obtain ⟨y, h2, h3, h4, h5, h6⟩ := hold i x hx
    rw [h4]
    exact f.one i y h2 (by rw [← h3]; exact h2k)
theorem newV_wf (q : Int) : VWf (newV q) := ⟨newSt_full, fun k i h => absurd rfl h, fun k i l h => (by cases h), fun fd h hf => (by cases hf)⟩
/-! ### layAt and truncG within a file's blocks -/
/-- Behind a turn of one file's blocks, and its size, and a place. -/
theorem VWf.laid {s : V} (h : VWf s) {k : Int} {r : NR} (hr : s.st.get k = some r) (hk : r.nd.kind = 1) {z : Int} (h0 : 0 ≤ z) (h1 : z ≤ 16384) {g' : Nat → FBlk} (hg : ∀ i, g' i ≠ none → i < 64) (hw : Wf g') {fs' : Nat → Option Hdl}
    (hf : ∀ fd h, fs' fd = some h → fd < 16 ∧ 0 ≤ h.pos ∧ h.pos ≤ 1099511627776 ∧ ∃ h0, s.fs fd = some h0 ∧ h0.node = h.node) : VWf ⟨s.st.put (sized r.nd z), fun i => if i = k then g' else s.g i, fs', s.quota⟩ := by
  have hget : ∀ i y, s.st.get i = some y → y.nd.kind = 1 → ∃ x, (s.st.put (sized r.nd z)).get i = some x ∧ x.nd.kind = 1 := fun i y hy hyk => by
    rw [get_sized h.full hr hk]
    split
    · exact ⟨_, rfl, hk⟩
    · exact ⟨y, hy, hyk⟩
  refine ⟨sized_full h.full hr hk h0 h1, fun i j hij => ?_, fun i => ?_, fun fd x hx => ?_⟩
  · simp only at hij
    split at hij
    · rename_i he
      obtain ⟨x, hx⟩ := hget k r hr hk
      exact ⟨hg j hij, x, by rw [he]; exact hx⟩
    · obtain ⟨h2, y, h3, h4⟩ := h.blk i j hij
      exact ⟨h2, hget i y h3 h4⟩
  · simp only
    split
    · exact hw
    · exact h.wf i
  · obtain ⟨h2, h3, h4, y, h5, h6⟩ := hf fd x hx
    obtain ⟨_, _, _, z, h7, h8⟩ := h.fs fd y h5
    refine ⟨h2, h3, h4, ?_⟩
    rw [← h6]
    exact hget _ z h7 h8
end Go.Proofs.YtjekpbkmhgfhoaaGreatDoor
end

section
/- The tree's calls keep files: what is a volume stays one. No program in sight. -/
namespace Go.Proofs.YtjekpbkmhgfhoaaGreatDoor
set_option linter.unusedSimpArgs false
set_option linter.unusedVariables false
/-- Each file is there still, as a file. -/
def KeepF (a b : St) : Prop := ∀ k r, a.get k = some r → r.nd.kind = 1 → ∃ r', b.get k = some r' ∧ r'.nd.kind = 1
theorem KeepF.refl (a : St) : KeepF a a := fun k r h1 h2 => ⟨r, h1, h2⟩
theorem KeepF.trans {a b c : St} (h : KeepF a b) (k : KeepF b c) : KeepF a c := fun i r h1 h2 => by
  obtain ⟨r', h3, h4⟩ := h i r h1 h2
  exact k i r' h3 h4
theorem KeepF.addE (a : St) (d : Int) (e : En) : KeepF a (a.addE d e) := fun k r h1 h2 => by
  rw [get_addE, h1]
  refine ⟨_, rfl, ?_⟩
  simp only
  split <;> exact h2
theorem KeepF.put {a : St} (hr : RiseN a.ns) (n : Nd) (h : ∀ r, a.get n.id = some r → r.nd.kind = 1 → n.kind = 1) : KeepF a (a.put n) := fun k r h1 h2 => by
  rw [get_put hr]
  split
  · rename_i he
    exact ⟨_, rfl, h r (by rw [← he]; exact h1) h2⟩
  · exact ⟨r, h1, h2⟩
theorem VWf.tree {s : V} (h : VWf s) {st' : St} (f : Full st') (k : KeepF s.st st') : VWf { s with st := st' } :=
  ⟨f, fun i j hij => by
    obtain ⟨h1, r, h2, h3⟩ := h.blk i j hij
    exact ⟨h1, k i r h2 h3⟩, h.wf, fun fd x hx => by
    obtain ⟨h1, h2, h3, r, h4, h5⟩ := h.fs fd x hx
    exact ⟨h1, h2, h3, k _ r h4 h5⟩⟩
theorem makeT_keep {s : St} (f : Full s) (a : ByteArray) (kind : Int) (to : ByteArray) : KeepF s (makeT s a kind to).2.2 := by
  unfold makeT
  simp only
  split
  · exact KeepF.refl _
  · split
    · exact KeepF.refl _
    · split
      · exact KeepF.refl _
      · split
        · exact KeepF.refl _
        · split
          · exact KeepF.refl _
          · refine (KeepF.put f.rise _ fun r hr hk => ?_).trans (KeepF.addE _ _ _)
            have h1 := f.ids r (findN_mem hr)
            have h2 := findN_id hr
            simp only at h2
            omega
end Go.Proofs.YtjekpbkmhgfhoaaGreatDoor
end

section
/- The walks of package span: Pieces, is, has, Whole, Blocks. -/
namespace Go.Proofs.YtjekpbkmhgfhoaaGreatDoor
open Go Go.RowKit
set_option maxRecDepth 100000
set_option linter.unusedSimpArgs false
set_option linter.unusedVariables false
attribute [local go_sem] giv
def encPc (p : Nat × Nat × Nat) : List Value := [.int .i64 p.1, .int .i64 p.2.1, .int .i64 p.2.2]
theorem pc_inf : (Tryz.prog.info? 74).map (fun i => (i.zero, i.size, i.bytes)) = some (some (.agg #[.int .i64 0, .int .i64 0, .int .i64 0]), 3, 24) := by kernel_rfl
theorem pcT : ElemT Tryz.prog 71 74 3 24 encPc :=
  ⟨Tryz.underlying71, ⟨.agg #[.int .i64 0, .int .i64 0, .int .i64 0], rfl, pc_inf⟩, fun _ => rfl, fun x u hu => by simp [encPc] at hu; rcases hu with rfl | rfl | rfl <;> rfl, by omega⟩
theorem RdE.pc1 {w : World} {h : Nat} {a b c : Nat} (r : Row w h 74 [.int .i64 a, .int .i64 b, .int .i64 c]) : RdE w 3 encPc (.slice (some ⟨h, 0, none⟩) 1 1) [(a, b, c)] := by
  refine ⟨_, _, rfl, by simp, (fun h => by cases h), fun _ => ⟨_, _, rfl, r.lt, fun i j hi hj => ?_⟩⟩
  obtain rfl : i = 0 := by simpa using hi
  rw [Nat.zero_mul, Nat.add_zero, Nat.zero_add, r.cell]
  rfl
theorem spanF_fuel : ∀ (f f' a n : Nat), n ≤ f → n ≤ f' → spanF f a n = spanF f' a n
  | 0, f', a, n, h, h' => by
    obtain rfl : n = 0 := by omega
    cases f' <;> simp [spanF]
  | f + 1, 0, a, n, h, h' => by
    obtain rfl : n = 0 := by omega
    simp [spanF]
  | f + 1, f' + 1, a, n, h, h' => by
    unfold spanF
    by_cases hn : n = 0
    · rw [if_pos hn, if_pos hn]
    · rw [if_neg hn, if_neg hn]
      have hm := Nat.mod_lt a (show 256 > 0 by decide)
      simp only
      rw [spanF_fuel f f' _ _ (by omega) (by omega)]
theorem spanP_zero (a : Nat) : spanP a 0 = [] := rfl
theorem spanP_cons (a : Nat) {n : Nat} (hn : 0 < n) : spanP a n = (a / 256, a % 256, a % 256 + min n (256 - a % 256)) :: spanP (a + min n (256 - a % 256)) (n - min n (256 - a % 256)) := by
  obtain ⟨k, rfl⟩ : ∃ k, n = k + 1 := ⟨n - 1, by omega⟩
  have hm := Nat.mod_lt a (show 256 > 0 by decide)
  unfold spanP
  rw [spanF, if_neg (by omega)]
  simp only
  rw [spanF_fuel k _ _ _ (by omega) (Nat.le_refl _)]
theorem spanP_len : ∀ (n a : Nat), (spanP a n).length ≤ n := by
  intro n
  induction n using Nat.strongRecOn with
  | ind n ih =>
    intro a
    by_cases h : n = 0
    · subst h; simp [spanP_zero]
    · rw [spanP_cons a (by omega), List.length_cons]
      have hm := Nat.mod_lt a (show 256 > 0 by decide)
      have := ih (n - min n (256 - a % 256)) (by omega) (a + min n (256 - a % 256))
      omega
set_option maxHeartbeats 1000000 in
theorem spanP_any (a n : Nat) (ha : a ≤ 1099511627776) (h1 : 1 ≤ n) (h2 : n ≤ 1048576) (w : World) :
    Calls Tryz.prog 28 #[.int .i64 a, .int .i64 n] w fun e w' => (∃ v, e = .returned v ∧ SlE w' w.heap.size 74 3 encPc v (spanP a n)) ∧ Below w.heap.size w w' := by
  generalize hP : (fun (e : Ending) (w' : World) => (∃ v, e = .returned v ∧ SlE w' w.heap.size 74 3 encPc v (spanP a n)) ∧ Below w.heap.size w w') = Post
  have HP := Lib.hid hP
  clear hP
  have q1 : ¬ ((a : Int) < 0) := by omega
  have q2 : ¬ (1099511627776 < (a : Int)) := by omega
  have q3 : ¬ ((n : Int) < 1) := by omega
  have q4 : ¬ (1048576 < (n : Int)) := by omega
  go_enter Tryz.func28, Tryz.ntmps28
  go_wp2
  go_loopw [0, 1, 5, 6, 7] (fun v0 v1 v5 _ _ wr => ∃ (done : List (Nat × Nat × Nat)) (a' n' : Nat), v0 = .int .i64 a' ∧ v1 = .int .i64 n' ∧ done ++ spanP a' n' = spanP a n ∧ a' + n' = a + n ∧ done.length + n' ≤ n ∧ SlE wr w.heap.size 74 3 encPc v5 done ∧ Below w.heap.size w wr) (fun _ v1 _ _ _ _ => (intOf v1).toNat)
  case atStart => exact ⟨[], a, n, rfl, rfl, rfl, rfl, by simp, SlE.nil _ _ _ _ _, Below.refl _ _⟩
  case round =>
    obtain ⟨done, a', n', rfl, rfl, hp, hs, hl, hsl, hb⟩ := hrel
    have HPC := Lib.hid hp
    have HS := Lib.hid hsl
    have HB := Lib.hid hb
    have HL := Lib.hid hl
    have HSM := Lib.hid hs
    clear hp hsl hb hl hs q1 q2 q3 q4
    by_cases hn : n' = 0
    · subst hn
      go_wp2
      rw [← HP.out]
      have h := HPC.out
      rw [spanP_zero, List.append_nil] at h
      rw [← h]
      have hfin : (∃ v, (Ending.returned u5 : Ending) = .returned v ∧ SlE wr w.heap.size 74 3 encPc v done) ∧ Below w.heap.size w wr := ⟨⟨_, rfl, HS.out⟩, HB.out⟩
      first
        | exact hfin
        | (go_ret2; exact hfin)
    · have hn0 : (0 : Int) < (n' : Int) := by omega
      have hm := Nat.mod_lt a' (show 256 > 0 by decide)
      have hab : a' ≤ 1099512676352 := by have := HSM.out; omega
      have e1 : (a' : Int).tmod 256 = ((a' % 256 : Nat) : Int) := rfl
      have e2 : (a' : Int).tdiv 256 = ((a' / 256 : Nat) : Int) := rfl
      obtain ⟨q, hq⟩ : ∃ q, a' / 256 = q := ⟨_, rfl⟩
      obtain ⟨f, hf⟩ : ∃ f, a' % 256 = f := ⟨_, rfl⟩
      have hf2 : (a' : Int) % 256 = (f : Int) := by omega
      have hq2 : (a' : Int) / 256 = (q : Int) := by omega
      have hf3 : f < 256 := by omega
      obtain ⟨m, hmm⟩ : ∃ m, min n' (256 - f) = m := ⟨_, rfl⟩
      have hm2 : min (n' : Int) (256 - (f : Int)) = (m : Int) := by omega
      have hm3 : f + m ≤ 256 ∧ 1 ≤ m ∧ m ≤ n' := by omega
      have hPC := HPC.out
      rw [spanP_cons a' (by omega), hq, hf, hmm] at hPC
      have HPC2 := Lib.hid hPC
      have HNUM : Hid (f + m ≤ 256 ∧ 1 ≤ m ∧ m ≤ n' ∧ f < 256) := Lib.hid ⟨hm3.1, hm3.2.1, hm3.2.2, hf3⟩
      have hE1 : (n' : Int) ≤ 1048576 := by have := HL.out; omega
      have hE2 : (a' : Int) ≤ 1099512676352 := by omega
      have hE3 : (f : Int) < 256 := by omega
      have hE4 : (m : Int) ≤ 256 := by omega
      have hE5 : (m : Int) ≤ (n' : Int) := by omega
      have HOWN : Hid (SlE (wr.alloc (.cells #[.int .i64 q, .int .i64 f, .int .i64 ((f : Int) + (m : Int))] 74)) w.heap.size 74 3 encPc u5 done) := Lib.hid (HS.out.below (bl_alloc (Below.refl _ _) _))
      have RNEW : Hid (RdE (wr.alloc (.cells #[.int .i64 q, .int .i64 f, .int .i64 ((f : Int) + (m : Int))] 74)) 3 encPc (.slice (some ⟨wr.heap.size, 0, none⟩) 1 1) [(q, f, f + m)]) := Lib.hid (by
        have r := Row.new wr 74 [.int .i64 q, .int .i64 f, .int .i64 ((f : Int) + (m : Int))]
        exact RdE.pc1 (c := f + m) (by rw [show ((f + m : Nat) : Int) = (f : Int) + (m : Int) by omega]; exact r))
      have HBS : Hid (w.heap.size ≤ (wr.alloc (.cells #[.int .i64 q, .int .i64 f, .int .i64 ((f : Int) + (m : Int))] 74)).heap.size) := Lib.hid (by have := HB.out.size; simp; omega)
      have hdl : done.length ≤ 1048576 := by have := HL.out; omega
      have HDL := Lib.hid hdl
      clear hq hf hmm hPC hm3 hdl e1 e2 hm hab hn
      go_wp2_with (at_builtin; refine wpList_app pcT rfl _ _ rfl rfl HOWN.out rfl RNEW.out (by have := HDL.out; unfold maxLen; simp; omega) (by have := HDL.out; simp; omega) HBS.out ?_; intro v' w' hs' ht'; have HS' := Lib.hid hs'; have HT' := Lib.hid ht'; clear hs' ht')
      have hbt := HT'.out.below HBS.out (fun x hx => (HOWN.out.lt x hx).1)
      have HBT := Lib.hid (HB.out.trans (((Below.refl w.heap.size wr).alloc HB.out.size _).trans hbt))
      clear hbt
      go_roundw
      case rel =>
        have hn4 := HNUM.out
        have hs4 := HSM.out
        have hl4 := HL.out
        refine ⟨done ++ [(q, f, f + m)], a' + m, n' - m, by go_num, by go_num, ?_, by omega, by simp; omega, HS'.out, HBT.out⟩
        rw [List.append_assoc]
        exact HPC2.out
      case measure => simp [intOf]; have := HNUM.out; omega
theorem is_any (i f t : Nat) (h1 : f ≤ t) (h2 : t ≤ 256) (w : World) : Calls Tryz.prog 109 #[.agg #[.int .i64 i, .int .i64 f, .int .i64 t]] w fun e w' => e = .returned (.bool true) ∧ Below w.heap.size w w' := by
  have q1 : (0 : Int) ≤ (f : Int) := by omega
  have q2 : (t : Int) ≤ 256 := by omega
  have q3 : (f : Int) ≤ (t : Int) := by omega
  go_enter Tryz.func109, Tryz.ntmps109
  go_wp2
  go_ret
  exact ⟨rfl, bl_alloc (Below.refl _ _) _⟩
theorem has_any (i : Nat) (n : Int) (h0 : 0 ≤ n) (h1 : n ≤ 1099511627776) (w : World) : Calls Tryz.prog 60 #[.int .i64 i, .int .i64 n] w fun e w' => e = .returned (.int .i64 (hasB i n)) ∧ w = w' := by
  have q0 : 0 ≤ n % 256 := by omega
  have q1 : ¬ (n % 256 < 0) := by omega
  unfold hasB
  by_cases c1 : n / 256 < (i : Int)
  · rw [if_pos c1]
    go_enter Tryz.func60, Tryz.ntmps60
    go_wp2
    go_ret
    exact ⟨rfl, rfl⟩
  · rw [if_neg c1]
    by_cases c2 : n / 256 = (i : Int)
    · rw [if_pos c2]
      have c3 : ((i : Int) == n / 256) = true := by rw [beq_iff_eq]; exact c2.symm
      clear c2
      go_enter Tryz.func60, Tryz.ntmps60
      go_wp2
      go_ret
      exact ⟨rfl, rfl⟩
    · rw [if_neg c2]
      have c3 : ((i : Int) == n / 256) = false := by rw [beq_eq_false_iff_ne]; exact fun e => c2 e.symm
      clear c2
      go_enter Tryz.func60, Tryz.ntmps60
      go_wp2
      go_ret
      exact ⟨rfl, rfl⟩
theorem whole_any (i f t : Nat) (n : Int) (h0 : 0 ≤ n) (h1 : n ≤ 1099511627776) (w : World) : Calls Tryz.prog 30 #[.agg #[.int .i64 i, .int .i64 f, .int .i64 t], .int .i64 n] w fun e w' => e = .returned (.bool (wholeP (i, f, t) n)) ∧ Below w.heap.size w w' := by
  have H0 := Lib.hid (And.intro h0 h1)
  generalize hP : (fun (e : Ending) (w' : World) => e = .returned (.bool (wholeP (i, f, t) n)) ∧ Below w.heap.size w w') = Post
  have HP := Lib.hid hP
  obtain ⟨w1, hw1⟩ : ∃ w1, w1 = w.alloc (.cells #[.int .i64 i, .int .i64 f, .int .i64 t] 74) := ⟨_, rfl⟩
  obtain ⟨C, hC⟩ : ∃ C, w.heap.size = C := ⟨_, rfl⟩
  have HB1 : Hid (Below w.heap.size w w1) := Lib.hid (by rw [hw1]; exact bl_alloc (Below.refl _ _) _)
  have HR : Hid (Row w1 C 74 [.int .i64 i, .int .i64 f, .int .i64 t]) := Lib.hid (by rw [hw1, ← hC]; exact Row.new _ _ _)
  have hwh : wholeP (i, f, t) n = (((f : Int) == 0) && decide (hasB i n ≤ (t : Int))) := by
    unfold wholeP
    simp only
    congr 1
    rw [Bool.eq_iff_iff]
    simp
  rw [hwh] at HP
  have K : ∀ w', Below w1.heap.size w1 w' → w'.cell? ⟨C, 0, none⟩ = some (.int .i64 i) ∧ w'.cell? ⟨C, 1, none⟩ = some (.int .i64 f) ∧ w'.cell? ⟨C, 2, none⟩ = some (.int .i64 t) := fun w' hb => by
    have r := HR.out.keep (hb.block _ HR.out.lt)
    exact ⟨r.cell 0, r.cell 1, r.cell 2⟩
  have HK := Lib.hid K
  clear h0 h1 hP hwh K
  cases hf0 : ((f : Int) == 0)
  all_goals
    rw [hf0] at HP
    go_enter Tryz.func30, Tryz.ntmps30
    go_wp2_with fail
    rw [← hw1]
    clear hw1
    have S := HK.out
    apply wp_region_rel _ (by kernel_rfl) (by kernel_rfl) (fun w' => Below w1.heap.size w1 w') (fun w' w'' => Below w'.heap.size w' w'') (fun w' w'' h1 h2 => bl_trans h1 h2) (Below.refl _ _).drew
    repeat (first
      | (apply wpRel_skip (by rfl)
         simp only [Act.put, List.setIfInBounds_toArray, List.set_cons_zero, List.set_cons_succ])
      | (apply wpRel_fix (by rfl)
         · intro w' hC hf R hR
           have hS := S w' hC
           go_simp
           exact hR _ (Below.refl _ _)
         simp only [Act.put, List.setIfInBounds_toArray, List.set_cons_zero, List.set_cons_succ])
      | (apply wpRel_fix (by rfl)
         · intro w' hC hf R hR
           have hS := S w' hC
           go_simp
           refine (has_any i n H0.out.1 H0.out.2 _).mono ?_
           rintro e w'' ⟨rfl, rfl⟩
           exact ⟨_, rfl, hR _ (Below.refl _ _)⟩
         simp only [Act.put, List.setIfInBounds_toArray, List.set_cons_zero, List.set_cons_succ]))
    refine wpRel_nil (fun w2 hC2 hf => ?_)
    go_wp2
    rw [← HP.out]
    exact ⟨rfl, HB1.out.trans (hC2.mono HB1.out.size)⟩
set_option maxHeartbeats 1000000 in
theorem lay_any {w : World} {sp spb : Option Addr} {capo capb : Nat} {lo b : List Int} (i f : Nat) (hlo : lo.length ≤ 256) (hino : SlIn w sp lo) (hb0 : 0 < b.length) (hfb : f + b.length ≤ 256) (hinb : SlIn w spb b) :
    Calls Tryz.prog 64 #[.slice sp lo.length capo, .agg #[.int .i64 i, .int .i64 f, .int .i64 (f + b.length : Nat)], .slice spb b.length capb] w fun e w' =>
      (∃ h, e = .returned (.slice (some ⟨h, 0, none⟩) 256 256) ∧ w.heap.size ≤ h ∧ Row w' h 5 ((laidB (pad lo) f b).map (Value.int .u8))) ∧ Below w.heap.size w w' := by
  generalize hP : (fun (e : Ending) (w' : World) => (∃ h, e = .returned (.slice (some ⟨h, 0, none⟩) 256 256) ∧ w.heap.size ≤ h ∧ Row w' h 5 ((laidB (pad lo) f b).map (Value.int .u8))) ∧ Below w.heap.size w w') = Post
  have HP := Lib.hid hP
  obtain ⟨t, ht⟩ : ∃ t, f + b.length = t := ⟨_, rfl⟩
  rw [ht]
  obtain ⟨nb, hnb⟩ : ∃ nb, b.length = nb := ⟨_, rfl⟩
  have HNB := Lib.hid hnb
  have HLO := Lib.hid hlo
  have HT := Lib.hid ht
  have HINO := fun w2 (hb2 : Below w.heap.size w w2) (h0 : 0 < lo.length) => slIn_below hino hb2 h0
  have HINB := fun w2 (hb2 : Below w.heap.size w w2) (h0 : 0 < b.length) => slIn_below hinb hb2 h0
  have HI1 := Lib.hid HINO
  have HI2 := Lib.hid HINB
  have HC1 : Hid (∀ u ∈ lo.map (Value.int .u8), u.oneCell' = true) := Lib.hid fun u hu => by
    obtain ⟨x, _, rfl⟩ := List.mem_map.1 hu
    rfl
  have HC2 : Hid (∀ u ∈ b.map (Value.int .u8), u.oneCell' = true) := Lib.hid fun u hu => by
    obtain ⟨x, _, rfl⟩ := List.mem_map.1 hu
    rfl
  have U8SZ : Hid ((Tryz.prog.info? 5).map (·.size) = some 1) := Lib.hid (by kernel_rfl)
  have q1 : (t : Int) ≤ 256 := by omega
  have q2 : (f : Int) ≤ (t : Int) := by omega
  rw [hnb] at hb0 ⊢
  obtain ⟨w0, hw0⟩ : ∃ w0, w0 = w.alloc (.cells #[.int .i64 i, .int .i64 f, .int .i64 t] 74) := ⟨_, rfl⟩
  have HB0 : Hid (Below w.heap.size w w0) := Lib.hid (by rw [hw0]; exact bl_alloc (Below.refl _ _) _)
  have HZ0 : Hid (w0.heap.size = w.heap.size + 1) := Lib.hid (by rw [hw0]; simp)
  have HR0 : Hid (Row w0 w.heap.size 74 [.int .i64 i, .int .i64 f, .int .i64 t]) := Lib.hid (by rw [hw0]; exact Row.new _ _ _)
  clear hP hlo hino hfb hinb ht hnb HINO HINB
  go_enter Tryz.func64, Tryz.ntmps64
  go_wp2_with (first
    | (at_make; rw [← hw0]; refine wpList_mk _ rfl _ _ _ rfl 5 (.int .u8 0) 1 Tryz.underlying31 u8_info rfl 256 rfl rfl (by omega) (by unfold maxLen; omega) ?_; intro w2 hr hb2; rw [HZ0.out] at hr hb2; have HR := Lib.hid hr; have HB2 := Lib.hid hb2; clear hr hb2)
    | (refine wpList_copy_splice (o := ⟨some 11, _, _, _, _, _⟩) (hgd := rfl) (.tmp 9) (.tmp 10) 31 31 (ho := rfl) 5 (hu := Tryz.underlying31) (hsz := U8SZ.out) (dp := some ⟨w.heap.size + 1, 0, none⟩) (sp := sp) (dLen := 256) (dCap := 256) (sLen := lo.length) (sCap := capo) (hd := rfl) (hs := rfl) (g := w.heap.size + 1) (off := 0) (cur := List.replicate 256 (.int .u8 0)) (t := 5) (hg := HR.out) (cs := lo.map (Value.int .u8)) (hn := by rw [List.length_map]; exact (Nat.min_eq_left HLO.out).symm) (hpos := fun h0 => ⟨rfl, HI1.out _ (HB0.out.trans (HB2.out.mono (by omega))) (by simpa using h0)⟩) (hfit := by simp; exact HLO.out) (h1 := HC1.out) (B := w.heap.size + 1) (w0 := w0) (hb := HB2.out) (hBg := Nat.le_refl _) ?_; intro w3 hg3 hb3; have HB3 := Lib.hid hb3; have r3 := HR0.out.keep (hb3.block _ (by omega)); have x0 := r3.cell' (i := 0) rfl; have x1 := r3.cell' (i := 1) rfl; have x2 := r3.cell' (i := 2) rfl; have R3 := Lib.hid r3; clear hb3 r3))
  refine (is_any i f t (by have := HT.out; omega) (by omega) _).mono ?_
  rintro e w4 ⟨rfl, hb4⟩
  have HB4 := Lib.hid hb4
  have hbb := HB3.out
  have hz3 : w.heap.size + 1 ≤ w3.heap.size := by have := HB2.out.size; have := HZ0.out; have := HB3.out.size; omega
  have r4 := R3.out.keep (hb4.block _ (by omega))
  have x0 := r4.cell' (i := 0) rfl
  have x1 := r4.cell' (i := 1) rfl
  have x2 := r4.cell' (i := 2) rfl
  have HG4 : Hid (w4.heap[w.heap.size + 1]? = some (.cells ((pad lo).map (Value.int .u8)).toArray 5 (0, 0))) := Lib.hid (by
    rw [hb4.block _ (by have := HB3.out.size; have := R3.out.lt; have := (Array.getElem?_eq_some_iff.1 hg3.out).1; omega)]
    have := hg3.out
    rw [splice_pad] at this
    exact this)
  have HB34 : Hid (Below (w.heap.size + 1) w0 w4) := Lib.hid (HB3.out.trans (hb4.mono hz3))
  have q5 : (f : Int) < 256 := by have := HT.out; have := HNB.out; omega
  have q6 : ¬ ((256 : Int) = (f : Int)) := by omega
  have HCS : Hid ((b.map (Value.int .u8)).length = min nb (t - f)) := Lib.hid (by have := HT.out; have := HNB.out; rw [List.length_map]; omega)
  clear r4 hb4 hbb hg3
  go_wp2_with (refine wpList_copy_splice (o := ⟨some 21, _, _, _, _, _⟩) (hgd := rfl) (.tmp 19) (.tmp 20) 31 31 (ho := rfl) 5 (hu := Tryz.underlying31) (hsz := U8SZ.out) (dp := some ⟨w.heap.size + 1, f, none⟩) (sp := spb) (dLen := t - f) (dCap := 256 - f) (sLen := nb) (sCap := capb) (hd := rfl) (hs := rfl) (g := w.heap.size + 1) (off := f) (cur := (pad lo).map (Value.int .u8)) (t := 5) (hg := HG4.out) (cs := b.map (Value.int .u8)) (hn := HCS.out) (hpos := fun h0 => ⟨rfl, HI2.out _ (HB0.out.trans (HB34.out.mono (by omega))) (by simpa using h0)⟩) (hfit := by rw [List.length_map, List.length_map, pad_len HLO.out]; have := HT.out; omega) (h1 := HC2.out) (B := w.heap.size + 1) (w0 := w0) (hb := HB34.out) (hBg := Nat.le_refl _) ?_; intro w5 hg5 hb5; have HB5 := Lib.hid hb5; clear hb5)
  rw [← HP.out]
  have hz0 := HZ0.out
  refine ⟨⟨w.heap.size + 1, rfl, by omega, ?_⟩, HB0.out.trans (HB5.out.mono (by omega))⟩
  have h5 := hg5.out
  have he : splice ((pad lo).map (Value.int .u8)) f (b.map (Value.int .u8)) = (laidB (pad lo) f b).map (Value.int .u8) := by
    unfold splice laidB
    simp only [List.map_append, List.map_take, List.map_drop, List.length_map, List.append_assoc]
  rw [he] at h5
  exact h5
end Go.Proofs.YtjekpbkmhgfhoaaGreatDoor
end
