/- Merged texts: TreeCnt TreeLawP Vol VolFile VolOpen VolHolesP VolFullP VolLinksP VolOpenP VolListsP VolWf VolKeep Span VolFullQ VolFreeP VolOpenQ. -/
import Derived.Test.YtjekpbkmhgfhoaaGreatDoorPBase21
import Derived.Test.YtjekpbkmhgfhoaaGreatDoorPBase06
import Derived.Test.YtjekpbkmhgfhoaaGreatDoorPBase09
import Derived.Test.YtjekpbkmhgfhoaaGreatDoorPBase08
import Derived.Test.YtjekpbkmhgfhoaaGreatDoorPBase15
import Derived.Deep.QuietTactic
import Derived.BigQuiet
import Derived.Deep.DeepMust
section
/- Trees in plain words: how many entries there are: as many as names. -/
namespace Go.Proofs.YtjekpbkmhgfhoaaGreatDoor
set_option maxRecDepth 100000
set_option linter.unusedSimpArgs false
set_option linter.unusedVariables false

theorem sum_zero' {ids : List Int} {k : Int} (h : k ∉ ids) : (ids.map fun i => if k = i then 1 else 0).sum = 0 := by
  induction ids with
  | nil => rfl
  | cons i l ih =>
    rw [List.map_cons, List.sum_cons, ih (fun hm => h (List.mem_cons_of_mem _ hm)), if_neg (fun e => h (by rw [e]; exact List.mem_cons_self ..))]
theorem sum_one {ids : List Int} (hn : ids.Nodup) {k : Int} (h : k ∈ ids) : (ids.map fun i => if k = i then 1 else 0).sum = 1 := by
  induction ids with
  | nil => cases h
  | cons i l ih =>
    obtain ⟨h1, h2⟩ := List.nodup_cons.1 hn
    rw [List.map_cons, List.sum_cons]
    rcases List.mem_cons.1 h with rfl | h
    · rw [if_pos rfl, sum_zero' h1]
    · rw [if_neg (fun e => h1 (by rw [← e]; exact h)), ih h2 h]
theorem sum_add (ids : List Int) (f g : Int → Nat) : (ids.map fun i => f i + g i).sum = (ids.map f).sum + (ids.map g).sum := by
  induction ids with
  | nil => rfl
  | cons i l ih => rw [List.map_cons, List.sum_cons, List.map_cons, List.sum_cons, List.map_cons, List.sum_cons, ih]; omega
theorem sum_nil (ids : List Int) : (ids.map fun _ => 0).sum = 0 := by
  induction ids with
  | nil => rfl
  | cons i l ih => rw [List.map_cons, List.sum_cons, ih]
theorem len_names {ids : List Int} (hn : ids.Nodup) : ∀ {l : List En}, (∀ e ∈ l, e.node ∈ ids) → l.length = (ids.map fun k => namesL k l).sum
  | [], _ => by
    have : (ids.map fun k => namesL k ([] : List En)) = ids.map fun _ => 0 := rfl
    rw [this, sum_nil]
    rfl
  | e :: l, h => by
    have ih := len_names hn (l := l) (fun x hx => h x (List.mem_cons_of_mem _ hx))
    have h1 : (ids.map fun k => namesL k (e :: l)) = ids.map fun k => namesL k l + if e.node = k then 1 else 0 := by
      refine List.map_congr_left fun k _ => ?_
      unfold namesL
      rw [List.countP_cons]
      by_cases hk : e.node = k <;> simp [hk]
    rw [h1, sum_add, sum_one hn (h e (List.mem_cons_self ..)), List.length_cons, ← ih]
def cntL (l : List NR) : Nat := (l.map fun r => r.ents.length).sum
theorem cntL_names {ids : List Int} (hn : ids.Nodup) : ∀ {l : List NR}, (∀ r ∈ l, ∀ e ∈ r.ents, e.node ∈ ids) → cntL l = (ids.map fun k => namesN k l).sum
  | [], _ => by
    have : (ids.map fun k => namesN k ([] : List NR)) = ids.map fun _ => 0 := rfl
    rw [this, sum_nil]
    rfl
  | r :: l, h => by
    have ih := cntL_names hn (l := l) (fun x hx => h x (List.mem_cons_of_mem _ hx))
    have h1 : (ids.map fun k => namesN k (r :: l)) = ids.map fun k => namesL k r.ents + namesN k l := rfl
    rw [h1, sum_add, ← ih, ← len_names hn (h r (List.mem_cons_self ..))]
    rfl
theorem rise_nodup {l : List NR} (h : RiseN l) : (l.map fun r => r.nd.id).Nodup := by
  unfold List.Nodup
  rw [List.pairwise_map]
  exact h.imp fun {a b} h => by omega
theorem cnt_names {st : St} (f : Full st) : cntL st.ns = ((st.ns.map fun r => r.nd.id).map fun k => st.names k).sum :=
  cntL_names (rise_nodup f.rise) fun r hr e he => by
    obtain ⟨x, hx, _⟩ := (f.ent r hr e he).node
    exact List.mem_map.2 ⟨x, findN_mem hx, findN_id hx⟩
theorem sum_le {l : List Int} {g : Int → Nat} (h : ∀ k ∈ l, g k ≤ 16) : (l.map g).sum ≤ l.length * 16 := by
  induction l with
  | nil => simp
  | cons a l ih =>
    have h1 := ih fun k hk => h k (List.mem_cons_of_mem _ hk)
    have h2 := h a (List.mem_cons_self ..)
    rw [List.map_cons, List.sum_cons, List.length_cons]
    omega
theorem cnt_le {st : St} (f : Full st) : cntL st.ns ≤ 8192 := by
  rw [cnt_names f]
  refine Nat.le_trans (sum_le fun k hk => ?_) ?_
  · obtain ⟨r, hr, rfl⟩ := List.mem_map.1 hk
    have h1 := f.cnt _ r (f.get_mem hr)
    have h2 := valid_lk (f.val r hr)
    omega
  · rw [List.length_map]
    have := f.len
    omega
theorem cntL_take (l : List NR) (j : Nat) (h : j < l.length) : cntL (l.take (j + 1)) = cntL (l.take j) + l[j].ents.length := by
  unfold cntL
  rw [List.take_succ_eq_append_getElem h, List.map_append, List.sum_append]
  simp
theorem cntL_take_le (l : List NR) (j : Nat) : cntL (l.take j) ≤ cntL l := by
  conv => rhs; rw [← List.take_append_drop j l]
  unfold cntL
  rw [List.map_append, List.sum_append]
  omega
theorem count_cntL (st : St) : st.count = (cntL st.ns : Int) := by
  unfold St.count cntL
  generalize st.ns = l
  induction l with
  | nil => rfl
  | cons r l ih => rw [List.map_cons, List.sum_cons, List.map_cons, List.sum_cons, ih]; omega
end Go.Proofs.YtjekpbkmhgfhoaaGreatDoor
end

section
/- The plain laws TreeOver, TreeRings, TreeSlash, TreeMany, TreeDeep on the plain tree. -/
namespace Go.Proofs.YtjekpbkmhgfhoaaGreatDoor
open Go
set_option maxRecDepth 100000
/-- TreeOver -/
def nmA (l : List UInt8) : ByteArray := ⟨l.toArray⟩
def overL : List ByteArray := [nmA [47,102], nmA [47,103], nmA [47,100], nmA [47,101], nmA [47,104]]
def overS : St :=
  let s1 := (makeT newSt (overL.getD 0 noText) 1 noText).2.2
  let s2 := (makeT s1 (overL.getD 1 noText) 1 noText).2.2
  let s3 := (makeT s2 (overL.getD 2 noText) 2 noText).2.2
  let s4 := (makeT s3 (overL.getD 3 noText) 2 noText).2.2
  let s5 := (hardT s4 (overL.getD 0 noText) (overL.getD 4 noText)).2
  (makeT s5 (nmA [47,101,47,120]) 1 noText).2.2
def overOk (from' to' : Nat) : Bool :=
  let r := renameT overS (overL.getD from' noText) (overL.getD to' noText)
  let a := from' == 2 || from' == 3
  let b := to' == 2 || to' == 3
  let ids : List Int := [2, 3, 4, 5, 2]
  let s := r.2.2
  if ids.getD from' 0 = ids.getD to' 0 then r.1 == 0 && r.2.1 == 0 && s.count == 6 else
  if a && !b then r.1 == 111 && s.count == 6 else
  if !a && b then r.1 == 112 && s.count == 6 else
  if to' = 3 then r.1 == 113 && s.count == 6 else
  let x := lookT s (overL.getD to' noText) false
  let y := lookT s (overL.getD from' noText) false
  r.1 == 0 && r.2.1 == ids.getD to' 0 && x.1 == 0 && x.2.id == ids.getD from' 0 && y.1 == 109 && s.count == 5 &&
   (if b then (s.get (ids.getD to' 0)).isNone else match s.get (ids.getD to' 0) with | some n => n.nd.links == (if ids.getD to' 0 = 2 then 1 else 0) | none => false)
def ringS : Nat → ByteArray × St
  | 0 => (noText, newSt)
  | k + 1 => let r := ringS k; let s := nmA (r.1.data.toList ++ [47, 100]); (s, (makeT r.2 s 2 noText).2.2)
def ringOk (deep a b : Nat) : Bool :=
  let s := (ringS deep).2
  let pa := (ringS a).1
  let pb := nmA ((ringS b).1.data.toList ++ [47, 120])
  let r := renameT s pa pb
  if a ≤ b then r.1 == 114 && r.2.2.within (b+1) (a+1) else
  let x := lookT r.2.2 pb false
  r.1 == 0 && x.1 == 0 && x.2.id == a + 1 && x.2.parent == b+1 && r.2.2.within (a+1) (b+1) && !r.2.2.within (b+1) (a+1) && r.2.2.count == deep
/-- TreeSlash -/
def slashOk (kind : Int) : Bool :=
  let none' := nmA [47,110,111,110,101]
  let a := makeT newSt (nmA [47,97]) kind none'
  let b := makeT a.2.2 (nmA [47,110,47]) kind none'
  let c := hardT b.2.2 (nmA [47,97]) (nmA [47,104,47])
  let d := unlinkT c.2 (nmA [47,97,47])
  let e := renameT d.2.2 (nmA [47,97]) (nmA [47,98,47])
  a.1 == 0 && (if kind = 2 then b.1 == 0 && c.1 == 114 && d.1 == 112 && e.1 == 0 else b.1 == 109 && c.1 == 109 && d.1 == 111 && e.1 == 111)
def decT (i : Nat) : List UInt8 := if i < 10 then [48 + i.toUInt8] else [49, 48 + (i - 10).toUInt8]
/-- TreeMany -/
def gNm (i : Nat) : ByteArray := nmA ([47,103] ++ decT i)
def fNm : ByteArray := nmA [47,102]
def manyS : Nat → St
  | 0 => (makeT newSt fNm 1 noText).2.2
  | k + 1 => (hardT (manyS k) fNm (gNm (k+1))).2
def manyCode (k : Nat) : Int := (hardT (manyS k) fNm (gNm (k+1))).1
def manyU (n : Nat) : Nat → St
  | 0 => manyS n
  | k + 1 => (unlinkT (manyU n k) (gNm (k + 1))).2.2
def manyOk (n : Nat) : Bool :=
  ((List.range n).all fun k => manyCode k == (if k + 1 < 16 then 0 else 117)) && !(freeT (manyS n) 2).1 &&
  ((List.range (min n 15)).all fun k => let r := unlinkT (manyU n k) (gNm (k + 1)); r.1 == 0 && r.2.1 == 2) &&
  (let s := manyU n (min n 15); let r := unlinkT s fNm; r.1 == 0 && r.2.1 == 2 && (r.2.2.get 2).isSome && r.2.2.count == 0 && (freeT r.2.2 2).1 && !(freeT (freeT r.2.2 2).2 2).1 && (freeT r.2.2 2).2.ns.length == 1)
/-- TreeDeep -/
def deepP : Nat → ByteArray
  | 0 => noText
  | k + 1 => nmA ((deepP k).data.toList ++ [47,100] ++ decT k)
def deepS : Nat → St
  | 0 => newSt
  | k + 1 => (makeT (deepS k) (deepP (k+1)) 2 noText).2.2
def deepUp (deep : Nat) : Nat → ByteArray
  | 0 => deepP deep
  | k + 1 => nmA ((deepUp deep k).data.toList ++ [47,46,46])
def deepOk (deep up : Nat) : Bool :=
  let s := deepS deep
  let p := deepUp deep up
  let x := lookT s p true
  let f := rmdirT s (nmA (p.data.toList ++ [47,46]))
  x.1 == 0 && x.2.id == (deep : Int) + 1 - up && x.2.parent == max 1 ((deep : Int) - up) && (if up > 0 then f.1 != 0 else f.1 == 0)
/-- .. and from the deepest on -/
def deepD (deep : Nat) (s : St) : Nat → St
  | 0 => s
  | k + 1 => (rmdirT (deepD deep s k) (deepP (deep - k))).2.2
def deepDown (deep up : Nat) : Bool :=
  let f := rmdirT (deepS deep) (nmA ((deepUp deep up).data.toList ++ [47,46]))
  let from' := if up = 0 then deep - 1 else deep
  ((List.range from').all fun j =>
    let s := deepD from' f.2.2 j
    let k := from' - j
    (if k > 1 then (rmdirT s (deepP (k - 1))).1 == 113 else true) && (let r := rmdirT s (deepP k); r.1 == 0 && r.2.1 == (k : Int) + 1)) &&
  (deepD from' f.2.2 from').count == 0 && (deepD from' f.2.2 from').ns.length == 1
end Go.Proofs.YtjekpbkmhgfhoaaGreatDoor
end

section
/- A volume in plain words: names and nodes, files' blocks, what is open; what each call answers and leaves. No program in sight. -/
namespace Go.Proofs.YtjekpbkmhgfhoaaGreatDoor
set_option linter.unusedSimpArgs false
set_option linter.unusedVariables false
structure Hdl where
  node : Int
  pos : Int
structure V where
  st : St
  g : Int → Nat → FBlk
  fs : Nat → Option Hdl
  quota : Int
def newV (q : Int) : V := ⟨newSt, fun _ _ => none, fun _ => none, q⟩
/-- How many blocks a node has. -/
def nBlk (g : Nat → FBlk) : Nat := ((List.range 64).filter fun i => (g i).isSome).length
def V.nodes (v : V) : Int := v.st.ns.length
def V.blocks (v : V) : Int := ((v.st.ns.map fun r => nBlk (v.g r.nd.id)).sum : Nat)
def V.charge (v : V) : Int := min (v.nodes + v.st.count + v.blocks) 2147483647
/-- A call tried on a copy, and taken if it may be. -/
def triedV (v : V) (act : V → Int × V) : Int × V :=
  let c := act v
  if c.1 ≠ 0 then (c.1, v) else
  if v.quota < c.2.charge ∧ v.charge < c.2.charge then (119, v) else c
def madeV (v : V) (s : ByteArray) (kind : Int) (to : ByteArray) : Int × V := triedV v fun c => let r := makeT c.st s kind to; (r.1, { c with st := r.2.2 })
def mkdirV (v : V) (s : ByteArray) : Int × V := madeV v s 2 noText
def symlinkV (v : V) (target s : ByteArray) : Int × V := madeV v s 3 target
def readlinkV (v : V) (s : ByteArray) : Int × ByteArray :=
  let l := lookT v.st s false
  if l.1 ≠ 0 then (l.1, noText) else if l.2.kind ≠ 3 then (114, noText) else (0, l.2.target)
def linkV (v : V) (a b : ByteArray) : Int × V := triedV v fun c => let r := hardT c.st a b; (r.1, { c with st := r.2 })
def V.holds (v : V) (id : Int) : Bool := (List.range 16).any fun fd => match v.fs fd with
  | some h => h.node == id
  | none => false
def delG (g : Int → Nat → FBlk) (id : Int) : Int → Nat → FBlk := fun k i => if k = id then none else g k i
def freeV (v : V) (id : Int) : V := if v.holds id then v else
  let r := freeT v.st id
  if r.1 then { v with st := r.2, g := delG v.g id } else v
def unlinkV (v : V) (s : ByteArray) : Int × V :=
  let r := unlinkT v.st s
  if r.1 ≠ 0 then (r.1, v) else (0, freeV { v with st := r.2.2 } r.2.1)
def rmdirV (v : V) (s : ByteArray) : Int × V :=
  let r := rmdirT v.st s
  (r.1, { v with st := r.2.2 })
def renameV (v : V) (a b : ByteArray) : Int × V :=
  let r := renameT v.st a b
  if r.1 ≠ 0 then (r.1, v) else (0, if 0 < r.2.1 then freeV { v with st := r.2.2 } r.2.1 else { v with st := r.2.2 })
/-- The least number that is free. -/
def fdOf (fs : Nat → Option Hdl) : Option Nat := (List.range 16).find? fun fd => (fs fd).isNone
def openF (v : V) (id : Int) : Int × Nat × V := match fdOf v.fs with
  | none => (120, 0, v)
  | some fd => (0, fd, { v with fs := fun k => if k = fd then some ⟨id, 0⟩ else v.fs k })
def createA (s : ByteArray) (c : V) : Int × Nat × V :=
  let r := makeT c.st s 1 noText
  if r.1 ≠ 0 then (r.1, 0, { c with st := r.2.2 }) else openF { c with st := r.2.2 } r.2.1
def createV (v : V) (s : ByteArray) : Int × Nat × V :=
  let p := parseP s
  if p.1 ≠ 0 then (p.1, 0, v) else
  let f := lastP v.st p.2
  if f.1 ≠ 0 then (f.1, 0, v) else if 0 < f.2.node then (109, 0, v) else
  let t := triedV v fun c => ((createA s c).1, (createA s c).2.2)
  if t.1 ≠ 0 then (t.1, 0, t.2) else (0, (createA s v).2.1, t.2)
def openV (v : V) (s : ByteArray) (create : Bool) : Int × Nat × V :=
  let l := lookT v.st s true
  if l.1 = 109 ∧ create = true then createV v s else
  if l.1 ≠ 0 then (l.1, 0, v) else if l.2.kind = 2 then (112, 0, v) else openF v l.2.id
def closeV (v : V) (fd : Nat) : Int × V := match v.fs fd with
  | none => (121, v)
  | some h => (0, freeV { v with fs := fun k => if k = fd then none else v.fs k } h.node)
/-- What a number has open, and its node. -/
def atV (v : V) (fd : Nat) : Option (Hdl × Nd) := (v.fs fd).map fun h => (h, ((v.st.get h.node).map NR.nd).getD noNd)
def seekV (v : V) (fd : Nat) (pos : Int) : Int × V := match v.fs fd with
  | none => (121, v)
  | some h => if pos < 0 ∨ 1099511627776 < pos then (114, v) else (0, { v with fs := fun k => if k = fd then some ⟨h.node, pos⟩ else v.fs k })
def lostB : FBlk → Bool
  | some none => true
  | _ => false
theorem lostB_no {o : FBlk} (h : o ≠ some none) : lostB o = false := by
  match o, h with
  | none, _ => rfl
  | some none, h => exact absurd rfl h
  | some (some l), _ => rfl
def readV (v : V) (fd : Nat) (n : Int) : Int × List Int × V := match atV v fd with
  | none => (121, [], v)
  | some (h, x) => if n < 0 then (114, [], v) else if x.size ≤ h.pos then (0, [], v) else
    let k := (min (min n 1024) (x.size - h.pos)).toNat
    if (spanP h.pos.toNat k).any (fun p => lostB (v.g x.id p.1)) then (107, [], v) else
    (0, readAt (v.g x.id) h.pos.toNat k, (seekV v fd (h.pos + k)).2)
/-- Has a piece all bytes that a file of a size has of its block? -/
def hasB (i : Nat) (size : Int) : Int := if size / 256 < i then 0 else if size / 256 = i then size % 256 else 256
def wholeP (p : Nat × Nat × Nat) (size : Int) : Bool := p.2.1 == 0 && decide (hasB p.1 size ≤ p.2.2)
/-- Bytes laid at a place of an open file. -/
def laidV (c : V) (fd : Nat) (h : Hdl) (x : Nd) (b : List Int) : V :=
  (seekV { c with g := fun k => if k = x.id then layAt (c.g x.id) h.pos.toNat b else c.g k, st := c.st.put ⟨x.id, x.kind, x.links, max x.size (h.pos + b.length), x.target, x.parent⟩ } fd (h.pos + b.length)).2
def writeV (v : V) (fd : Nat) (b0 : List Int) : Int × Int × V := match atV v fd with
  | none => (121, 0, v)
  | some (h, x) =>
    let b := b0.take 1024
    if b = [] then (0, 0, v) else if 16384 < h.pos + b.length then (118, 0, v) else
    if (spanP h.pos.toNat b.length).any (fun p => lostB (v.g x.id p.1) && !wholeP p x.size) then (107, 0, v) else
    let t := triedV v fun c => (0, laidV c fd h x b)
    if t.1 ≠ 0 then (t.1, 0, t.2) else (0, b.length, t.2)
def blocksOf (n : Int) : Int := if n ≤ 0 then 0 else (n - 1) / 256 + 1
/-- A file's blocks, cut or made longer. -/
def truncG (g : Nat → FBlk) (sz size : Int) : Nat → FBlk := fun k =>
  if blocksOf size ≤ k then none else
  if (0 < (size % 256).toNat ∧ size < sz ∧ (g (size / 256).toNat).isSome = true) ∧ k = (size / 256).toNat then some (some ((bytesOf (g k)).take (size % 256).toNat ++ List.replicate (256 - (size % 256).toNat) 0)) else g k
def truncV (v : V) (fd : Nat) (size : Int) : Int × V := match atV v fd with
  | none => (121, v)
  | some (_, x) => if size < 0 then (114, v) else if 16384 < size then (118, v) else
    if 0 < (size % 256).toNat ∧ size < x.size ∧ lostB (v.g x.id (size / 256).toNat) = true then (107, v) else
    (0, { v with g := fun k => if k = x.id then truncG (v.g x.id) x.size size else v.g k, st := v.st.put ⟨x.id, x.kind, x.links, size, x.target, x.parent⟩ })
structure Sta where
  node : Int
  kind : Int
  links : Int
  size : Int
  blocks : Int
def statN (v : V) (n : Nd) : Sta := ⟨n.id, n.kind, n.links, n.size, nBlk (v.g n.id)⟩
def statV (v : V) (s : ByteArray) (fo : Bool) : Int × Option Sta :=
  let l := lookT v.st s fo
  if l.1 ≠ 0 then (l.1, none) else (0, some (statN v l.2))
def fstatV (v : V) (fd : Nat) : Int × Option Sta := match atV v fd with
  | none => (121, none)
  | some (_, x) => (0, some (statN v x))
/-- A directory's entries behind a name; are there more? (as fromL of DirFrom) -/
def listV (v : V) (s after : ByteArray) (n : Int) : Int × List En × Bool :=
  let d : Int × List En := let l := lookT v.st s true; if l.1 ≠ 0 then (l.1, []) else if l.2.kind ≠ 2 then (111, []) else (0, ((v.st.get l.2.id).map NR.ents).getD [])
  if d.1 ≠ 0 then (d.1, [], false) else
  let l := d.2.filter fun e => decide (after.data.toList < e.name.data.toList)
  (0, if (l.length : Int) ≤ max n 0 then (l, false) else (l.take n.toNat, true))
def settleV (v : V) : V :=
  let a := (List.range 16).foldl (fun v fd => (closeV v fd).2) v
  (a.st.ns.map fun r => r.nd.id).foldl freeV a
theorem writeV_ok {v : V} {fd : Nat} {h : Hdl} {x : Nd} {b : List Int} (hat : atV v fd = some (h, x)) (hn : b.length ≤ 1024) (hb : b ≠ []) (hp : h.pos + b.length ≤ 16384)
    (hl : ∀ i, v.g x.id i ≠ some none) (hq : (laidV v fd h x b).charge ≤ max v.quota v.charge) : writeV v fd b = (0, (b.length : Int), laidV v fd h x b) := by
  have ht : b.take 1024 = b := List.take_of_length_le hn
  have ha : (spanP h.pos.toNat b.length).any (fun p => lostB (v.g x.id p.1) && !wholeP p x.size) = false := by
    rw [List.any_eq_false]
    intro p _
    rw [lostB_no (hl p.1)]
    simp
  have hT : triedV v (fun c => (0, laidV c fd h x b)) = (0, laidV v fd h x b) := by
    unfold triedV
    simp only
    rw [if_neg (by simp), if_neg (by omega)]
  unfold writeV
  rw [hat]
  simp only
  rw [ht, if_neg hb, if_neg (by omega), ha, if_neg (by simp), hT]
  simp
theorem writeV_none {v : V} {fd : Nat} {h : Hdl} {x : Nd} (hat : atV v fd = some (h, x)) : writeV v fd [] = (0, 0, v) := by
  unfold writeV
  rw [hat]
  simp
theorem seekV_ok {v : V} {fd : Nat} {h : Hdl} (hf : v.fs fd = some h) {p : Int} (h0 : 0 ≤ p) (h1 : p ≤ 1099511627776) : seekV v fd p = (0, { v with fs := fun k => if k = fd then some ⟨h.node, p⟩ else v.fs k }) := by
  unfold seekV
  rw [hf]
  simp only
  rw [if_neg (by omega)]
theorem laidV_eq {v : V} {fd : Nat} {h h' : Hdl} {x : Nd} {b : List Int} (hf : v.fs fd = some h') (h0 : 0 ≤ h.pos) (hp : h.pos + b.length ≤ 16384) :
    laidV v fd h x b = ⟨v.st.put ⟨x.id, x.kind, x.links, max x.size (h.pos + b.length), x.target, x.parent⟩, fun k => if k = x.id then layAt (v.g x.id) h.pos.toNat b else v.g k, fun k => if k = fd then some ⟨h'.node, h.pos + b.length⟩ else v.fs k, v.quota⟩ := by
  unfold laidV
  rw [seekV_ok (h := h') (by exact hf) (by omega) (by omega)]
end Go.Proofs.YtjekpbkmhgfhoaaGreatDoor
end

section
/- A volume with one file that is open: what its calls leave, in plain words. No program in sight. -/
namespace Go.Proofs.YtjekpbkmhgfhoaaGreatDoor
set_option linter.unusedSimpArgs false
set_option linter.unusedVariables false
/-- One file in the first directory, open as 0, at a place. -/
def fileV (nm : ByteArray) (g : Nat → FBlk) (sz pos q : Int) : V :=
  ⟨⟨2, [⟨⟨1, 2, 1, 0, noText, 1⟩, [⟨nm, 2, 1⟩]⟩, ⟨⟨2, 1, 1, sz, noText, 0⟩, []⟩]⟩, fun k => if k = 2 then g else fun _ => none, fun k => if k = 0 then some ⟨2, pos⟩ else none, q⟩
variable {nm : ByteArray} {g : Nat → FBlk} {sz pos q : Int}
theorem file_at : atV (fileV nm g sz pos q) 0 = some (⟨2, pos⟩, ⟨2, 1, 1, sz, noText, 0⟩) := by
  unfold atV fileV St.get
  simp
theorem file_put (s' : Int) : (fileV nm g sz pos q).st.put ⟨2, 1, 1, s', noText, 0⟩ = (fileV nm g s' pos q).st := by
  unfold fileV St.put
  simp [putN]
theorem file_seek {p : Int} (h0 : 0 ≤ p) (h1 : p ≤ 1099511627776) : seekV (fileV nm g sz pos q) 0 p = (0, fileV nm g sz p q) := by
  rw [seekV_ok (h := ⟨2, pos⟩) (by simp [fileV]) h0 h1]
  unfold fileV
  simp only [Prod.mk.injEq, true_and, V.mk.injEq]
  refine ⟨?_, trivial⟩
  funext k
  by_cases hk : k = 0 <;> simp [hk]
theorem nBlk_le (g : Nat → FBlk) : nBlk g ≤ 64 := by
  unfold nBlk
  exact Nat.le_trans (List.length_filter_le _ _) (by simp)
theorem nBlk_none : nBlk (fun _ => none) = 0 := by
  unfold nBlk
  simp
theorem file_charge : (fileV nm g sz pos q).charge = 3 + nBlk g := by
  have h := nBlk_le g
  have hb : (fileV nm g sz pos q).blocks = nBlk g := by
    unfold V.blocks fileV
    simp [nBlk_none]
  unfold V.charge
  rw [hb]
  have hn : (fileV nm g sz pos q).nodes = 2 := rfl
  have hc : (fileV nm g sz pos q).st.count = 1 := by
    unfold St.count fileV
    simp
  rw [hn, hc]
  omega
theorem file_laid {b : List Int} (h0 : 0 ≤ pos) (hp : pos + b.length ≤ 16384) :
    laidV (fileV nm g sz pos q) 0 ⟨2, pos⟩ ⟨2, 1, 1, sz, noText, 0⟩ b = fileV nm (layAt g pos.toNat b) (max sz (pos + b.length)) (pos + b.length) q := by
  rw [laidV_eq (h' := ⟨2, pos⟩) (by simp [fileV]) h0 hp]
  simp only
  rw [file_put]
  unfold fileV
  simp only [V.mk.injEq, true_and]
  refine ⟨?_, ?_, trivial⟩
  · funext k
    by_cases hk : k = 2
    · subst hk; simp
    · simp [hk]
  · funext k
    split <;> rfl
/-- What is written is laid, if it may be. -/
theorem file_write {b : List Int} (h0 : 0 ≤ pos) (hn : b.length ≤ 1024) (hb : b ≠ []) (hp : pos + b.length ≤ 16384) (hl : ∀ i, g i ≠ some none) (hq : 3 + (nBlk (layAt g pos.toNat b) : Int) ≤ q) :
    writeV (fileV nm g sz pos q) 0 b = (0, (b.length : Int), fileV nm (layAt g pos.toNat b) (max sz (pos + b.length)) (pos + b.length) q) := by
  rw [writeV_ok file_at hn hb hp (by intro i; simp only [fileV, if_pos]; exact hl i), file_laid h0 hp]
  rw [file_laid h0 hp, file_charge]
  show _ ≤ max q _
  omega
/-- What is read, where all is there. -/
theorem file_read {n : Int} (h0 : 0 ≤ pos) (hs : sz ≤ 16384) (hn : 0 ≤ n) (hlt : pos < sz) (hl : ∀ i, g i ≠ some none) :
    readV (fileV nm g sz pos q) 0 n = (0, readAt g pos.toNat (min (min n 1024) (sz - pos)).toNat, fileV nm g sz (pos + min (min n 1024) (sz - pos)) q) := by
  have ha : ∀ l : List (Nat × Nat × Nat), l.any (fun p => lostB ((fileV nm g sz pos q).g 2 p.1)) = false := by
    intro l
    rw [List.any_eq_false]
    intro p _
    show ¬ lostB (g p.1) = true
    rw [lostB_no (hl p.1)]
    simp
  unfold readV
  rw [file_at]
  simp only
  rw [if_neg (by omega), if_neg (by omega), ha, if_neg (by simp)]
  have hk : (((min (min n 1024) (sz - pos)).toNat : Nat) : Int) = min (min n 1024) (sz - pos) := by omega
  rw [hk, file_seek (by omega) (by omega)]
  rfl
theorem file_end {n : Int} (hn : 0 ≤ n) (hlt : sz ≤ pos) : readV (fileV nm g sz pos q) 0 n = (0, [], fileV nm g sz pos q) := by
  unfold readV
  rw [file_at]
  simp only
  rw [if_neg (by omega), if_pos hlt]
/-! ### what is in a file -/
end Go.Proofs.YtjekpbkmhgfhoaaGreatDoor
end

section
/- A new volume's first file, made by an Open. No program in sight. -/
namespace Go.Proofs.YtjekpbkmhgfhoaaGreatDoor
set_option linter.unusedSimpArgs false
set_option linter.unusedVariables false
abbrev nmF : ByteArray := ⟨#[102]⟩
abbrev pF : ByteArray := ⟨#[47, 102]⟩
theorem pF_parse : (parseP pF).1 = 0 := by rfl
theorem pF_look : (lookT newSt pF true).1 = 109 := by rfl
theorem pF_last : (lastP newSt (parseP pF).2).1 = 0 ∧ (lastP newSt (parseP pF).2).2.node = 0 := by exact ⟨rfl, rfl⟩
theorem pF_make : makeT newSt pF 1 noText = (0, 2, (fileV nmF (fun _ => none) 0 0 0).st) := by rfl
theorem openF_new (s : St) (q : Int) (id : Int) (g : Int → Nat → FBlk) : openF ⟨s, g, fun _ => none, q⟩ id = (0, 0, ⟨s, g, fun k => if k = 0 then some ⟨id, 0⟩ else none, q⟩) := by
  rfl
theorem createA_new (q : Int) : createA pF (newV q) = (0, 0, fileV nmF (fun _ => none) 0 0 q) := by
  have h1 : (newV q).st = newSt := rfl
  unfold createA
  simp only [h1, pF_make]
  rw [if_neg (by simp)]
  unfold newV
  rw [openF_new]
  unfold fileV
  simp only [Prod.mk.injEq, true_and, V.mk.injEq, and_true]
  funext k i
  split <;> rfl
/-- With a quota for it there is the file, open. -/
theorem open_new {q : Int} (hq : 3 ≤ q) : openV (newV q) pF true = (0, 0, fileV nmF (fun _ => none) 0 0 q) := by
  have h1 : (newV q).st = newSt := rfl
  have hT : triedV (newV q) (fun c => ((createA pF c).1, (createA pF c).2.2)) = (0, fileV nmF (fun _ => none) 0 0 q) := by
    unfold triedV
    simp only [createA_new]
    rw [if_neg (by simp), file_charge, nBlk_none, if_neg]
    have : (newV q).quota = q := rfl
    omega
  have hC : createV (newV q) pF = (0, 0, fileV nmF (fun _ => none) 0 0 q) := by
    unfold createV
    simp only [h1, hT, createA_new]
    rw [if_neg (by rw [pF_parse]; simp), if_neg (by rw [pF_last.1]; simp), if_neg (by rw [pF_last.2]; simp), if_neg (by simp)]
  unfold openV
  simp only [h1]
  rw [if_pos ⟨pF_look, trivial⟩, hC]
end Go.Proofs.YtjekpbkmhgfhoaaGreatDoor
end

section
/- What VolHoles asks, in plain words. No program in sight. -/
namespace Go.Proofs.YtjekpbkmhgfhoaaGreatDoor
set_option linter.unusedSimpArgs false
set_option linter.unusedVariables false
theorem range_between (lo hi : Nat) : ∀ m, ((List.range m).filter fun i => decide (lo ≤ i ∧ i ≤ hi)).length = min m (hi + 1) - lo
  | 0 => by simp
  | m + 1 => by
    rw [List.range_succ, List.filter_append, List.length_append, range_between lo hi m]
    by_cases h : lo ≤ m ∧ m ≤ hi
    · rw [List.filter_cons_of_pos (by simpa using h)]
      simp only [List.filter_nil, List.length_cons, List.length_nil]
      omega
    · rw [List.filter_cons_of_neg (by simpa using h)]
      simp only [List.filter_nil, List.length_nil]
      omega
/-- Laid into nothing, the blocks that it touches are there, and no others. -/
theorem nBlk_laid {at' : Nat} {b : List Int} (hb : b ≠ []) (hp : at' + b.length ≤ 16384) : nBlk (layAt (fun _ => none) at' b) = (at' + b.length - 1) / 256 - at' / 256 + 1 := by
  have hn : 0 < b.length := List.length_pos_iff.2 hb
  have hall : ∀ i, (layAt (fun _ => none) at' b i).isSome = decide (at' / 256 ≤ i ∧ i ≤ (at' + b.length - 1) / 256) := by
    intro i
    have h := layF_blocks b.length (fun _ => none) at' b (Nat.le_refl _) i
    by_cases hi : at' / 256 ≤ i ∧ i ≤ (at' + b.length - 1) / 256
    · obtain ⟨l, hl⟩ := h.2 hb hi.1 hi.2
      unfold layAt
      rw [hl, decide_eq_true hi]
      rfl
    · rw [decide_eq_false hi]
      by_cases hg : layF b.length (fun _ => none) at' b i = none
      · unfold layAt
        rw [hg]
        rfl
      · exact absurd ⟨(h.1 hg).1, (h.1 hg).2.2⟩ hi
  unfold nBlk
  simp only [hall]
  rw [range_between]
  have : (at' + b.length - 1) / 256 < 64 := by omega
  omega
theorem laid_lost {g : Nat → FBlk} (hl : ∀ i, g i ≠ some none) (at' : Nat) (b : List Int) : ∀ i, layAt g at' b i ≠ some none := by
  intro i h
  have hB := layF_blocks b.length g at' b (Nat.le_refl _) i
  by_cases hg : layF b.length g at' b i = g i
  · exact hl i (hg ▸ h)
  · have := hB.1 hg
    obtain ⟨l, hl'⟩ := hB.2 this.2.1 this.1 this.2.2
    unfold layAt at h
    rw [hl'] at h
    cases h
theorem none_wf : Wf (fun _ => none) := fun i l h => by cases h
end Go.Proofs.YtjekpbkmhgfhoaaGreatDoor
end

section
/- What VolFull asks, in plain words. No program in sight. -/
namespace Go.Proofs.YtjekpbkmhgfhoaaGreatDoor
set_option linter.unusedSimpArgs false
set_option linter.unusedVariables false
/-- The first so many blocks are there, and no others. -/
def PreB (g : Nat → FBlk) (m : Nat) : Prop := ∀ i, (g i).isSome = decide (i < m)
theorem PreB.none : PreB (fun _ => .none) 0 := fun i => by simp
theorem PreB.nBlk {g : Nat → FBlk} {m : Nat} (h : PreB g m) (hm : m ≤ 64) : nBlk g = m := by
  unfold Proofs.YtjekpbkmhgfhoaaGreatDoor.nBlk
  have : (fun i => (g i).isSome) = fun i => decide (i < m) := funext h
  rw [this]
  have hr : ∀ n, ((List.range n).filter fun i => decide (i < m)).length = min n m := by
    intro n
    induction n with
    | zero => simp
    | succ n ih =>
      rw [List.range_succ, List.filter_append, List.length_append, ih]
      by_cases hn : n < m
      · rw [List.filter_cons_of_pos (by simpa using hn)]
        simp only [List.filter_nil, List.length_cons, List.length_nil]
        omega
      · rw [List.filter_cons_of_neg (by simpa using hn)]
        simp only [List.filter_nil, List.length_nil]
        omega
  rw [hr]
  omega
/-- Bytes laid somewhere within: the blocks up to their last one are there. -/
theorem PreB.laid {g : Nat → FBlk} {m at' : Nat} {b : List Int} (h : PreB g m) (hb : b ≠ []) (hp : at' / 256 ≤ m) : PreB (layAt g at' b) (max m ((at' + b.length - 1) / 256 + 1)) := by
  intro i
  have hB := layF_blocks b.length g at' b (Nat.le_refl _) i
  by_cases hi : at' / 256 ≤ i ∧ i ≤ (at' + b.length - 1) / 256
  · obtain ⟨l, hl⟩ := hB.2 hb hi.1 hi.2
    unfold layAt
    rw [hl, decide_eq_true (by omega)]
    rfl
  · by_cases hg : layF b.length g at' b i = g i
    · unfold layAt
      rw [hg, h i]
      by_cases hm : i < m
      · rw [decide_eq_true hm, decide_eq_true (by omega)]
      · rw [decide_eq_false hm, decide_eq_false (by omega)]
    · exact absurd ⟨(hB.1 hg).1, (hB.1 hg).2.2⟩ hi
abbrev nmD : ByteArray := ⟨#[100]⟩
abbrev pD : ByteArray := ⟨#[47, 100]⟩
variable {g : Nat → FBlk} {sz pos q : Int}
/-- The file's volume with a directory beside it. -/
def dirV (g : Nat → FBlk) (sz pos q : Int) : V :=
  ⟨⟨3, [⟨⟨1, 2, 1, 0, noText, 1⟩, [⟨nmD, 3, 2⟩, ⟨nmF, 2, 1⟩]⟩, ⟨⟨2, 1, 1, sz, noText, 0⟩, []⟩, ⟨⟨3, 2, 1, 0, noText, 1⟩, []⟩]⟩, fun k => if k = 2 then g else fun _ => none, fun k => if k = 0 then some ⟨2, pos⟩ else none, q⟩
end Go.Proofs.YtjekpbkmhgfhoaaGreatDoor
end

section
/- What VolLinks asks, in plain words. No program in sight. -/
namespace Go.Proofs.YtjekpbkmhgfhoaaGreatDoor
set_option linter.unusedSimpArgs false
set_option linter.unusedVariables false
abbrev pG : ByteArray := ⟨#[47, 103]⟩
abbrev pL : ByteArray := ⟨#[47, 108]⟩
abbrev pM : ByteArray := ⟨#[47, 109]⟩
abbrev txNone : ByteArray := ⟨#[110, 111, 110, 101]⟩
def lkS1 (sz : Int) : St := ⟨2, [⟨⟨1, 2, 1, 0, noText, 1⟩, [⟨nmF, 2, 1⟩, ⟨⟨#[103]⟩, 2, 1⟩]⟩, ⟨⟨2, 1, 2, sz, noText, 0⟩, []⟩]⟩
def lkS2 (sz : Int) : St := ⟨3, [⟨⟨1, 2, 1, 0, noText, 1⟩, [⟨nmF, 2, 1⟩, ⟨⟨#[103]⟩, 2, 1⟩, ⟨⟨#[108]⟩, 3, 3⟩]⟩, ⟨⟨2, 1, 2, sz, noText, 0⟩, []⟩, ⟨⟨3, 3, 1, 0, pG, 0⟩, []⟩]⟩
def lkS3 (sz : Int) : St := ⟨4, [⟨⟨1, 2, 1, 0, noText, 1⟩, [⟨nmF, 2, 1⟩, ⟨⟨#[103]⟩, 2, 1⟩, ⟨⟨#[108]⟩, 3, 3⟩, ⟨⟨#[109]⟩, 4, 3⟩]⟩, ⟨⟨2, 1, 2, sz, noText, 0⟩, []⟩, ⟨⟨3, 3, 1, 0, pG, 0⟩, []⟩, ⟨⟨4, 3, 1, 0, txNone, 0⟩, []⟩]⟩
variable {g : Nat → FBlk} {sz pos q : Int}
end Go.Proofs.YtjekpbkmhgfhoaaGreatDoor
end

section
/- What VolOpen asks of the tree, in plain words. No program in sight. -/
namespace Go.Proofs.YtjekpbkmhgfhoaaGreatDoor
set_option linter.unusedSimpArgs false
set_option linter.unusedVariables false
variable {g : Nat → FBlk} {sz pos q : Int}
/-- No name, one node without links; the last number that was given. -/
def opS (last sz : Int) : St := ⟨last, [⟨⟨1, 2, 1, 0, noText, 1⟩, []⟩, ⟨⟨2, 1, 0, sz, noText, 0⟩, []⟩]⟩
def opS2 (sz : Int) : St := ⟨3, [⟨⟨1, 2, 1, 0, noText, 1⟩, [⟨nmF, 2, 1⟩, ⟨⟨#[103]⟩, 3, 1⟩]⟩, ⟨⟨2, 1, 1, sz, noText, 0⟩, []⟩, ⟨⟨3, 1, 1, 0, noText, 0⟩, []⟩]⟩
def opS3 (sz : Int) : St := ⟨3, [⟨⟨1, 2, 1, 0, noText, 1⟩, [⟨nmF, 3, 1⟩]⟩, ⟨⟨2, 1, 0, sz, noText, 0⟩, []⟩, ⟨⟨3, 1, 1, 0, noText, 0⟩, []⟩]⟩
def opS4 (sz : Int) : St := ⟨3, [⟨⟨1, 2, 1, 0, noText, 1⟩, []⟩, ⟨⟨2, 1, 0, sz, noText, 0⟩, []⟩, ⟨⟨3, 1, 0, 0, noText, 0⟩, []⟩]⟩
theorem op_look : lookT (fileV nmF g sz pos q).st pF true = (0, ⟨2, 1, 1, sz, noText, 0⟩) := by rfl
theorem op_unlink : unlinkT (fileV nmF g sz pos q).st pF = (0, 2, opS 2 sz) := by rfl
theorem op_none : (lookT (fileV nmF g sz pos q).st pG true).1 = 109 := by rfl
theorem op_last : (parseP pG).1 = 0 ∧ (lastP (fileV nmF g sz pos q).st (parseP pG).2).1 = 0 ∧ (lastP (fileV nmF g sz pos q).st (parseP pG).2).2.node = 0 := ⟨rfl, rfl, rfl⟩
theorem op_make : makeT (fileV nmF g sz pos q).st pG 1 noText = (0, 3, opS2 sz) := by rfl
theorem op_keep : freeT (opS2 sz) 3 = (false, opS2 sz) := by rfl
theorem op_rename : renameT (opS2 sz) pG pF = (0, 2, opS3 sz) := by rfl
theorem op_unlink3 : unlinkT (opS3 sz) pF = (0, 3, opS4 sz) := by rfl
theorem op_free3 : freeT (opS4 sz) 3 = (true, opS 3 sz) := by rfl
theorem op_free2 (last : Int) : freeT (opS last sz) 2 = (true, ⟨last, [⟨⟨1, 2, 1, 0, noText, 1⟩, []⟩]⟩) := by rfl
end Go.Proofs.YtjekpbkmhgfhoaaGreatDoor
end

section
/- What VolLists asks of the tree, in plain words. No program in sight. -/
namespace Go.Proofs.YtjekpbkmhgfhoaaGreatDoor
set_option linter.unusedSimpArgs false
set_option linter.unusedVariables false
set_option maxRecDepth 100000
def nm3 (k : Nat) : ByteArray := ⟨#[110, UInt8.ofNat (48 + k / 100), UInt8.ofNat (48 + k / 10 % 10), UInt8.ofNat (48 + k % 10)]⟩
def pN (k : Nat) : ByteArray := ⟨#[47, 100, 47, 110, UInt8.ofNat (48 + k / 100), UInt8.ofNat (48 + k / 10 % 10), UInt8.ofNat (48 + k % 10)]⟩
def dEnts (n : Nat) : List En := (List.range n).map fun i => ⟨nm3 (100 + i), ((3 + i : Nat) : Int), 2⟩
/-- A directory with so many in it. -/
def dS (n : Nat) : St := ⟨((2 + n : Nat) : Int), ⟨⟨1, 2, 1, 0, noText, 1⟩, [⟨nmD, 2, 2⟩]⟩ :: ⟨⟨2, 2, 1, 0, noText, 1⟩, dEnts n⟩ :: (List.range n).map fun i => ⟨⟨((3 + i : Nat) : Int), 2, 1, 0, noText, 2⟩, []⟩⟩
/-- With one made ahead. -/
def dSa (n : Nat) : St := ⟨((3 + n : Nat) : Int), ⟨⟨1, 2, 1, 0, noText, 1⟩, [⟨nmD, 2, 2⟩]⟩ :: ⟨⟨2, 2, 1, 0, noText, 1⟩, ⟨⟨#[97]⟩, ((3 + n : Nat) : Int), 2⟩ :: dEnts n⟩ :: ((List.range n).map fun i => ⟨⟨((3 + i : Nat) : Int), 2, 1, 0, noText, 2⟩, []⟩) ++ [⟨⟨((3 + n : Nat) : Int), 2, 1, 0, noText, 2⟩, []⟩]⟩
end Go.Proofs.YtjekpbkmhgfhoaaGreatDoor
end

section
/- A volume in plain words: what holds of it: blocks are of files that are there, what is open is a file. No program in sight. -/
namespace Go.Proofs.YtjekpbkmhgfhoaaGreatDoor
set_option linter.unusedSimpArgs false
set_option linter.unusedVariables false
structure VWf (s : V) : Prop where
  full : Full s.st
  blk : ∀ k i, s.g k i ≠ none → i < 64 ∧ ∃ r, s.st.get k = some r ∧ r.nd.kind = 1
  wf : ∀ k, Wf (s.g k)
  fs : ∀ fd h, s.fs fd = some h → fd < 16 ∧ 0 ≤ h.pos ∧ h.pos ≤ 1099511627776 ∧ ∃ r, s.st.get h.node = some r ∧ r.nd.kind = 1
theorem valid_size {n : Nd} (h : validB n = true) : 0 ≤ n.size ∧ n.size ≤ 16384 := by
  simp only [validB, Bool.and_eq_true, decide_eq_true_eq] at h
  exact ⟨h.2.2.2.2.1, h.2.2.2.2.2.1⟩
theorem valid_sized {n : Nd} (h : validB n = true) (hk : n.kind = 1) {z : Int} (h0 : 0 ≤ z) (h1 : z ≤ 16384) : validB ⟨n.id, n.kind, n.links, z, n.target, n.parent⟩ = true := by
  simp only [validB, Bool.and_eq_true, decide_eq_true_eq, hk] at h ⊢
  obtain ⟨a1, a2, a3, a4, a5, a6, a7, a8⟩ := h
  exact ⟨a1, a2, a3, a4, h0, h1, by simp, a8⟩
/-- A file of another size. -/
def sized (n : Nd) (z : Int) : Nd := ⟨n.id, n.kind, n.links, z, n.target, n.parent⟩
theorem get_sized {st : St} (f : Full st) {k : Int} {r : NR} (hr : st.get k = some r) (hk : r.nd.kind = 1) (z : Int) (i : Int) : (st.put (sized r.nd z)).get i = if i = k then some ⟨sized r.nd z, []⟩ else st.get i := by
  have hid := findN_id hr
  rw [get_put f.rise]
  show (if i = r.nd.id then _ else _) = _
  rw [hid]
  split
  · rw [show st.get (sized r.nd z).id = some r by rw [show (sized r.nd z).id = k from hid]; exact hr]
    simp [keepE, sized, hk]
  · rfl
theorem sized_full {st : St} (f : Full st) {k : Int} {r : NR} (hr : st.get k = some r) (hk : r.nd.kind = 1) {z : Int} (h0 : 0 ≤ z) (h1 : z ≤ 16384) : Full (st.put (sized r.nd z)) := by
  have hid := findN_id hr
  have hv := f.val r (findN_mem hr)
  have hkk : ∀ x, st.get (sized r.nd z).id = some x → x.nd.kind = (sized r.nd z).kind := fun x hx => by
    rw [show (sized r.nd z).id = k from hid, hr] at hx
    injection hx with hx
    rw [hx]
    rfl
  have hroot : k ≠ 1 := fun e => by
    obtain ⟨x, h2, h3, _⟩ := f.root
    rw [e, h2] at hr
    injection hr with hr
    rw [hr, hk] at h3
    exact absurd h3 (by decide)
  have g2 : Good (st.put (sized r.nd z)) := f.toGood.put (valid_sized hv hk h0 h1) hkk (fun h => by rw [show (sized r.nd z).id = k from hid, hr] at h; cases h) (fun h => by rw [show (sized r.nd z).id = k from hid] at h; exact absurd h hroot)
  have hnm : ∀ i, (st.put (sized r.nd z)).names i = st.names i := names_put f.toGood hkk
  have hold : ∀ i x, (st.put (sized r.nd z)).get i = some x → ∃ y, st.get i = some y ∧ x.nd.kind = y.nd.kind ∧ x.nd.links = y.nd.links ∧ x.nd.parent = y.nd.parent ∧ (∀ e ∈ x.ents, e ∈ y.ents) := fun i x hx => by
    rw [get_sized f hr hk] at hx
    split at hx
    · rename_i he
      injection hx with hx
      subst hx
      exact ⟨r, by rw [he]; exact hr, rfl, rfl, rfl, fun e he => by cases he⟩
    · exact ⟨x, hx, rfl, rfl, rfl, fun e he => he⟩
  refine { g2 with cnt := ?_, par := ?_, one := ?_ }
  · intro i x hx
    obtain ⟨y, h2, h3, h4, h5, h6⟩ := hold i x hx
    rw [h4, hnm]
    exact f.cnt i y h2
  · intro d x hx e he y hy hy2
    obtain ⟨x', h2, h3, h4, h5, h6⟩ := hold d x hx
    obtain ⟨y', h7, h8, h9, h10, h11⟩ := hold _ y hy
    rw [h10]
    exact f.par d x' h2 e (h6 e he) y' h7 (by rw [← h8]; exact hy2)
  · intro i x hx h2k
    obtain ⟨y, h2, h3, h4, h5, h6⟩ := hold i x hx
    rw [h4]
    exact f.one i y h2 (by rw [← h3]; exact h2k)
theorem newV_wf (q : Int) : VWf (newV q) := ⟨newSt_full, fun k i h => absurd rfl h, fun k i l h => (by cases h), fun fd h hf => (by cases hf)⟩
/-! ### layAt and truncG within a file's blocks -/
/-- Behind a turn of one file's blocks, and its size, and a place. -/
theorem VWf.laid {s : V} (h : VWf s) {k : Int} {r : NR} (hr : s.st.get k = some r) (hk : r.nd.kind = 1) {z : Int} (h0 : 0 ≤ z) (h1 : z ≤ 16384) {g' : Nat → FBlk} (hg : ∀ i, g' i ≠ none → i < 64) (hw : Wf g') {fs' : Nat → Option Hdl}
    (hf : ∀ fd h, fs' fd = some h → fd < 16 ∧ 0 ≤ h.pos ∧ h.pos ≤ 1099511627776 ∧ ∃ h0, s.fs fd = some h0 ∧ h0.node = h.node) : VWf ⟨s.st.put (sized r.nd z), fun i => if i = k then g' else s.g i, fs', s.quota⟩ := by
  have hget : ∀ i y, s.st.get i = some y → y.nd.kind = 1 → ∃ x, (s.st.put (sized r.nd z)).get i = some x ∧ x.nd.kind = 1 := fun i y hy hyk => by
    rw [get_sized h.full hr hk]
    split
    · exact ⟨_, rfl, hk⟩
    · exact ⟨y, hy, hyk⟩
  refine ⟨sized_full h.full hr hk h0 h1, fun i j hij => ?_, fun i => ?_, fun fd x hx => ?_⟩
  · simp only at hij
    split at hij
    · rename_i he
      obtain ⟨x, hx⟩ := hget k r hr hk
      exact ⟨hg j hij, x, by rw [he]; exact hx⟩
    · obtain ⟨h2, y, h3, h4⟩ := h.blk i j hij
      exact ⟨h2, hget i y h3 h4⟩
  · simp only
    split
    · exact hw
    · exact h.wf i
  · obtain ⟨h2, h3, h4, y, h5, h6⟩ := hf fd x hx
    obtain ⟨_, _, _, z, h7, h8⟩ := h.fs fd y h5
    refine ⟨h2, h3, h4, ?_⟩
    rw [← h6]
    exact hget _ z h7 h8
end Go.Proofs.YtjekpbkmhgfhoaaGreatDoor
end

section
/- The tree's calls keep files: what is a volume stays one. No program in sight. -/
namespace Go.Proofs.YtjekpbkmhgfhoaaGreatDoor
set_option linter.unusedSimpArgs false
set_option linter.unusedVariables false
/-- Each file is there still, as a file. -/
def KeepF (a b : St) : Prop := ∀ k r, a.get k = some r → r.nd.kind = 1 → ∃ r', b.get k = some r' ∧ r'.nd.kind = 1
theorem KeepF.refl (a : St) : KeepF a a := fun k r h1 h2 => ⟨r, h1, h2⟩
theorem KeepF.trans {a b c : St} (h : KeepF a b) (k : KeepF b c) : KeepF a c := fun i r h1 h2 => by
  obtain ⟨r', h3, h4⟩ := h i r h1 h2
  exact k i r' h3 h4
theorem KeepF.addE (a : St) (d : Int) (e : En) : KeepF a (a.addE d e) := fun k r h1 h2 => by
  rw [get_addE, h1]
  refine ⟨_, rfl, ?_⟩
  simp only
  split <;> exact h2
theorem KeepF.delE (a : St) (d : Int) (n : ByteArray) : KeepF a (a.delE d n) := fun k r h1 h2 => by
  rw [get_delE, h1]
  refine ⟨_, rfl, ?_⟩
  simp only
  split <;> exact h2
theorem KeepF.put {a : St} (hr : RiseN a.ns) (n : Nd) (h : ∀ r, a.get n.id = some r → r.nd.kind = 1 → n.kind = 1) : KeepF a (a.put n) := fun k r h1 h2 => by
  rw [get_put hr]
  split
  · rename_i he
    exact ⟨_, rfl, h r (by rw [← he]; exact h1) h2⟩
  · exact ⟨r, h1, h2⟩
theorem KeepF.drop {a : St} (id : Int) (h : ∀ r, a.get id = some r → r.nd.kind ≠ 1) : KeepF a (a.drop id) := fun k r h1 h2 => by
  rw [get_drop]
  split
  · rename_i he
    exact absurd h2 (h r (by rw [← he]; exact h1))
  · exact ⟨r, h1, h2⟩
theorem rise_delE {s : St} (h : RiseN s.ns) (d : Int) (n : ByteArray) : RiseN (s.delE d n).ns := by
  rw [delE_eq]
  unfold RiseN onR
  rw [List.pairwise_map]
  refine h.imp fun {a b} hab => ?_
  have h1 : (if a.nd.id = d then (⟨a.nd, cutE n a.ents⟩ : NR) else a).nd = a.nd := by split <;> rfl
  have h2 : (if b.nd.id = d then (⟨b.nd, cutE n b.ents⟩ : NR) else b).nd = b.nd := by split <;> rfl
  rw [h1, h2]
  exact hab
theorem VWf.tree {s : V} (h : VWf s) {st' : St} (f : Full st') (k : KeepF s.st st') : VWf { s with st := st' } :=
  ⟨f, fun i j hij => by
    obtain ⟨h1, r, h2, h3⟩ := h.blk i j hij
    exact ⟨h1, k i r h2 h3⟩, h.wf, fun fd x hx => by
    obtain ⟨h1, h2, h3, r, h4, h5⟩ := h.fs fd x hx
    exact ⟨h1, h2, h3, k _ r h4 h5⟩⟩
theorem makeT_keep {s : St} (f : Full s) (a : ByteArray) (kind : Int) (to : ByteArray) : KeepF s (makeT s a kind to).2.2 := by
  unfold makeT
  simp only
  split
  · exact KeepF.refl _
  · split
    · exact KeepF.refl _
    · split
      · exact KeepF.refl _
      · split
        · exact KeepF.refl _
        · split
          · exact KeepF.refl _
          · refine (KeepF.put f.rise _ fun r hr hk => ?_).trans (KeepF.addE _ _ _)
            have h1 := f.ids r (findN_mem hr)
            have h2 := findN_id hr
            simp only at h2
            omega
theorem unlinkT_keep {s : St} (f : Full s) (a : ByteArray) : KeepF s (unlinkT s a).2.2 := by
  unfold unlinkT
  simp only
  split
  · exact KeepF.refl _
  · split
    · exact KeepF.refl _
    · split
      · exact KeepF.refl _
      · rename_i hp hf hk
        obtain ⟨q, n, hq⟩ : ∃ q n, thereP s (parseP a).2 = (0, q, n) := ⟨(thereP s (parseP a).2).2.1, (thereP s (parseP a).2).2.2, Prod.ext (by simpa using hf) rfl⟩
        rw [hq] at hk ⊢
        simp only at hk ⊢
        obtain ⟨_, x, e, r, h1, h2, h3, h4, h5, h6⟩ := thereP_ok f.toGood hq
        subst h6
        have hid := findN_id h5
        refine (KeepF.delE s q.dir q.name).trans (KeepF.put (rise_delE f.rise _ _) _ fun r' hr hk' => ?_)
        rw [show (setLinks r.nd (max (r.nd.links - 1) 0)).id = r.nd.id from rfl] at hr
        obtain ⟨y, hy, hy2, _⟩ := mk_get_delE hr
        rw [hid, h5] at hy
        injection hy with hy
        show r.nd.kind = 1
        rw [hy, ← hy2]
        exact hk'
theorem ousted_keep {s : St} (f : Full s) (g : Fnd) : KeepF s (ousted s g) ∧ RiseN (ousted s g).ns := by
  unfold ousted
  split
  · exact ⟨KeepF.refl _, f.rise⟩
  · rename_i m hm
    have hid := findN_id hm
    split
    · rename_i hk
      refine ⟨(KeepF.delE s g.dir g.name).trans (KeepF.drop _ fun r' hr => ?_), ?_⟩
      · obtain ⟨y, hy, hy2, _⟩ := mk_get_delE hr
        rw [hid, hm] at hy
        injection hy with hy
        rw [hy2, ← hy, hk]
        decide
      · exact (rise_delE f.rise _ _).filter _
    · rename_i hk
      refine ⟨(KeepF.delE s g.dir g.name).trans (KeepF.put (rise_delE f.rise _ _) _ fun r' hr hk' => ?_), putN_rise (rise_delE f.rise _ _)⟩
      rw [show (setLinks m.nd (max (m.nd.links - 1) 0)).id = m.nd.id from rfl] at hr
      obtain ⟨y, hy, hy2, _⟩ := mk_get_delE hr
      rw [hid, hm] at hy
      injection hy with hy
      show m.nd.kind = 1
      rw [hy, ← hy2]
      exact hk'
theorem ousted_kind {s : St} (f : Full s) (g : Fnd) {k : Int} {y : NR} (h : (ousted s g).get k = some y) : ∃ x, s.get k = some x ∧ y.nd.kind = x.nd.kind := by
  unfold ousted at h
  split at h
  · exact ⟨y, h, rfl⟩
  · rename_i m hm
    have hid := findN_id hm
    split at h
    · rw [get_drop] at h
      split at h
      · cases h
      · obtain ⟨x, h1, h2, _⟩ := mk_get_delE h
        exact ⟨x, h1, by rw [h2]⟩
    · rw [get_put (rise_delE f.rise _ _)] at h
      split at h
      · rename_i he
        injection h with h
        subst h
        refine ⟨m, ?_, rfl⟩
        rw [he]
        show s.get m.nd.id = _
        rw [hid]
        exact hm
      · obtain ⟨x, h1, h2, _⟩ := mk_get_delE h
        exact ⟨x, h1, by rw [h2]⟩
theorem renameT_keep {s : St} (f : Full s) (a b : ByteArray) : KeepF s (renameT s a b).2.2 := by
  unfold renameT
  simp only
  split
  · exact KeepF.refl _
  · split
    · exact KeepF.refl _
    · split
      · exact KeepF.refl _
      · split
        · exact KeepF.refl _
        · split
          · exact KeepF.refl _
          · split
            · exact KeepF.refl _
            · split
              · exact KeepF.refl _
              · rename_i hp hq hf hg hne hw hc
                obtain ⟨q, n, hqq⟩ : ∃ q n, thereP s (parseP a).2 = (0, q, n) := ⟨(thereP s (parseP a).2).2.1, (thereP s (parseP a).2).2.2, Prod.ext (by simpa using hf) rfl⟩
                obtain ⟨_, x, e, r, h1, h2, h3, h4, h5, h6⟩ := thereP_ok f.toGood hqq
                rw [hqq]
                simp only
                obtain ⟨k1, k2⟩ := ousted_keep f (lastP s (parseP b).2).2
                refine k1.trans ?_
                unfold moveS
                refine KeepF.trans ?_ (KeepF.addE _ _ _)
                split
                · rename_i hk
                  refine (KeepF.delE _ _ _).trans (KeepF.put (rise_delE k2 _ _) _ fun r' hr hk' => ?_)
                  exfalso
                  obtain ⟨y, hy, hy2, _⟩ := mk_get_delE hr
                  obtain ⟨z, hz, hz2⟩ := ousted_kind f _ hy
                  have hid : n.id = q.node := by rw [← h6]; exact findN_id h5
                  rw [show (setPar n (lastP s (parseP b).2).2.dir).id = n.id from rfl, hid, h5] at hz
                  injection hz with hz
                  rw [hy2, hz2, ← hz, h6] at hk'
                  rw [hk'] at hk
                  exact absurd hk (by decide)
                · exact KeepF.delE _ _ _
end Go.Proofs.YtjekpbkmhgfhoaaGreatDoor
end

section
/- The walks of package span: Pieces, is, has, Whole, Blocks. -/
namespace Go.Proofs.YtjekpbkmhgfhoaaGreatDoor
open Go Go.RowKit
set_option maxRecDepth 100000
set_option linter.unusedSimpArgs false
set_option linter.unusedVariables false
attribute [local go_sem] giv
def encPc (p : Nat × Nat × Nat) : List Value := [.int .i64 p.1, .int .i64 p.2.1, .int .i64 p.2.2]
theorem pc_inf : (Tryz.prog.info? 74).map (fun i => (i.zero, i.size, i.bytes)) = some (some (.agg #[.int .i64 0, .int .i64 0, .int .i64 0]), 3, 24) := by kernel_rfl
theorem pcT : ElemT Tryz.prog 71 74 3 24 encPc :=
  ⟨Tryz.underlying71, ⟨.agg #[.int .i64 0, .int .i64 0, .int .i64 0], rfl, pc_inf⟩, fun _ => rfl, fun x u hu => by simp [encPc] at hu; rcases hu with rfl | rfl | rfl <;> rfl, by omega⟩
theorem RdE.pc1 {w : World} {h : Nat} {a b c : Nat} (r : Row w h 74 [.int .i64 a, .int .i64 b, .int .i64 c]) : RdE w 3 encPc (.slice (some ⟨h, 0, none⟩) 1 1) [(a, b, c)] := by
  refine ⟨_, _, rfl, by simp, (fun h => by cases h), fun _ => ⟨_, _, rfl, r.lt, fun i j hi hj => ?_⟩⟩
  obtain rfl : i = 0 := by simpa using hi
  rw [Nat.zero_mul, Nat.add_zero, Nat.zero_add, r.cell]
  rfl
theorem spanF_fuel : ∀ (f f' a n : Nat), n ≤ f → n ≤ f' → spanF f a n = spanF f' a n
  | 0, f', a, n, h, h' => by
    obtain rfl : n = 0 := by omega
    cases f' <;> simp [spanF]
  | f + 1, 0, a, n, h, h' => by
    obtain rfl : n = 0 := by omega
    simp [spanF]
  | f + 1, f' + 1, a, n, h, h' => by
    unfold spanF
    by_cases hn : n = 0
    · rw [if_pos hn, if_pos hn]
    · rw [if_neg hn, if_neg hn]
      have hm := Nat.mod_lt a (show 256 > 0 by decide)
      simp only
      rw [spanF_fuel f f' _ _ (by omega) (by omega)]
theorem spanP_zero (a : Nat) : spanP a 0 = [] := rfl
theorem spanP_cons (a : Nat) {n : Nat} (hn : 0 < n) : spanP a n = (a / 256, a % 256, a % 256 + min n (256 - a % 256)) :: spanP (a + min n (256 - a % 256)) (n - min n (256 - a % 256)) := by
  obtain ⟨k, rfl⟩ : ∃ k, n = k + 1 := ⟨n - 1, by omega⟩
  have hm := Nat.mod_lt a (show 256 > 0 by decide)
  unfold spanP
  rw [spanF, if_neg (by omega)]
  simp only
  rw [spanF_fuel k _ _ _ (by omega) (Nat.le_refl _)]
theorem spanP_len : ∀ (n a : Nat), (spanP a n).length ≤ n := by
  intro n
  induction n using Nat.strongRecOn with
  | ind n ih =>
    intro a
    by_cases h : n = 0
    · subst h; simp [spanP_zero]
    · rw [spanP_cons a (by omega), List.length_cons]
      have hm := Nat.mod_lt a (show 256 > 0 by decide)
      have := ih (n - min n (256 - a % 256)) (by omega) (a + min n (256 - a % 256))
      omega
set_option maxHeartbeats 1000000 in
theorem spanP_any (a n : Nat) (ha : a ≤ 1099511627776) (h1 : 1 ≤ n) (h2 : n ≤ 1048576) (w : World) :
    Calls Tryz.prog 28 #[.int .i64 a, .int .i64 n] w fun e w' => (∃ v, e = .returned v ∧ SlE w' w.heap.size 74 3 encPc v (spanP a n)) ∧ Below w.heap.size w w' := by
  generalize hP : (fun (e : Ending) (w' : World) => (∃ v, e = .returned v ∧ SlE w' w.heap.size 74 3 encPc v (spanP a n)) ∧ Below w.heap.size w w') = Post
  have HP := Lib.hid hP
  clear hP
  have q1 : ¬ ((a : Int) < 0) := by omega
  have q2 : ¬ (1099511627776 < (a : Int)) := by omega
  have q3 : ¬ ((n : Int) < 1) := by omega
  have q4 : ¬ (1048576 < (n : Int)) := by omega
  go_enter Tryz.func28, Tryz.ntmps28
  go_wp2
  go_loopw [0, 1, 5, 6, 7] (fun v0 v1 v5 _ _ wr => ∃ (done : List (Nat × Nat × Nat)) (a' n' : Nat), v0 = .int .i64 a' ∧ v1 = .int .i64 n' ∧ done ++ spanP a' n' = spanP a n ∧ a' + n' = a + n ∧ done.length + n' ≤ n ∧ SlE wr w.heap.size 74 3 encPc v5 done ∧ Below w.heap.size w wr) (fun _ v1 _ _ _ _ => (intOf v1).toNat)
  case atStart => exact ⟨[], a, n, rfl, rfl, rfl, rfl, by simp, SlE.nil _ _ _ _ _, Below.refl _ _⟩
  case round =>
    obtain ⟨done, a', n', rfl, rfl, hp, hs, hl, hsl, hb⟩ := hrel
    have HPC := Lib.hid hp
    have HS := Lib.hid hsl
    have HB := Lib.hid hb
    have HL := Lib.hid hl
    have HSM := Lib.hid hs
    clear hp hsl hb hl hs q1 q2 q3 q4
    by_cases hn : n' = 0
    · subst hn
      go_wp2
      rw [← HP.out]
      have h := HPC.out
      rw [spanP_zero, List.append_nil] at h
      rw [← h]
      have hfin : (∃ v, (Ending.returned u5 : Ending) = .returned v ∧ SlE wr w.heap.size 74 3 encPc v done) ∧ Below w.heap.size w wr := ⟨⟨_, rfl, HS.out⟩, HB.out⟩
      first
        | exact hfin
        | (go_ret2; exact hfin)
    · have hn0 : (0 : Int) < (n' : Int) := by omega
      have hm := Nat.mod_lt a' (show 256 > 0 by decide)
      have hab : a' ≤ 1099512676352 := by have := HSM.out; omega
      have e1 : (a' : Int).tmod 256 = ((a' % 256 : Nat) : Int) := rfl
      have e2 : (a' : Int).tdiv 256 = ((a' / 256 : Nat) : Int) := rfl
      obtain ⟨q, hq⟩ : ∃ q, a' / 256 = q := ⟨_, rfl⟩
      obtain ⟨f, hf⟩ : ∃ f, a' % 256 = f := ⟨_, rfl⟩
      have hf2 : (a' : Int) % 256 = (f : Int) := by omega
      have hq2 : (a' : Int) / 256 = (q : Int) := by omega
      have hf3 : f < 256 := by omega
      obtain ⟨m, hmm⟩ : ∃ m, min n' (256 - f) = m := ⟨_, rfl⟩
      have hm2 : min (n' : Int) (256 - (f : Int)) = (m : Int) := by omega
      have hm3 : f + m ≤ 256 ∧ 1 ≤ m ∧ m ≤ n' := by omega
      have hPC := HPC.out
      rw [spanP_cons a' (by omega), hq, hf, hmm] at hPC
      have HPC2 := Lib.hid hPC
      have HNUM : Hid (f + m ≤ 256 ∧ 1 ≤ m ∧ m ≤ n' ∧ f < 256) := Lib.hid ⟨hm3.1, hm3.2.1, hm3.2.2, hf3⟩
      have hE1 : (n' : Int) ≤ 1048576 := by have := HL.out; omega
      have hE2 : (a' : Int) ≤ 1099512676352 := by omega
      have hE3 : (f : Int) < 256 := by omega
      have hE4 : (m : Int) ≤ 256 := by omega
      have hE5 : (m : Int) ≤ (n' : Int) := by omega
      have HOWN : Hid (SlE (wr.alloc (.cells #[.int .i64 q, .int .i64 f, .int .i64 ((f : Int) + (m : Int))] 74)) w.heap.size 74 3 encPc u5 done) := Lib.hid (HS.out.below (bl_alloc (Below.refl _ _) _))
      have RNEW : Hid (RdE (wr.alloc (.cells #[.int .i64 q, .int .i64 f, .int .i64 ((f : Int) + (m : Int))] 74)) 3 encPc (.slice (some ⟨wr.heap.size, 0, none⟩) 1 1) [(q, f, f + m)]) := Lib.hid (by
        have r := Row.new wr 74 [.int .i64 q, .int .i64 f, .int .i64 ((f : Int) + (m : Int))]
        exact RdE.pc1 (c := f + m) (by rw [show ((f + m : Nat) : Int) = (f : Int) + (m : Int) by omega]; exact r))
      have HBS : Hid (w.heap.size ≤ (wr.alloc (.cells #[.int .i64 q, .int .i64 f, .int .i64 ((f : Int) + (m : Int))] 74)).heap.size) := Lib.hid (by have := HB.out.size; simp; omega)
      have hdl : done.length ≤ 1048576 := by have := HL.out; omega
      have HDL := Lib.hid hdl
      clear hq hf hmm hPC hm3 hdl e1 e2 hm hab hn
      go_wp2_with (at_builtin; refine wpList_app pcT rfl _ _ rfl rfl HOWN.out rfl RNEW.out (by have := HDL.out; unfold maxLen; simp; omega) (by have := HDL.out; simp; omega) HBS.out ?_; intro v' w' hs' ht'; have HS' := Lib.hid hs'; have HT' := Lib.hid ht'; clear hs' ht')
      have hbt := HT'.out.below HBS.out (fun x hx => (HOWN.out.lt x hx).1)
      have HBT := Lib.hid (HB.out.trans (((Below.refl w.heap.size wr).alloc HB.out.size _).trans hbt))
      clear hbt
      go_roundw
      case rel =>
        have hn4 := HNUM.out
        have hs4 := HSM.out
        have hl4 := HL.out
        refine ⟨done ++ [(q, f, f + m)], a' + m, n' - m, by go_num, by go_num, ?_, by omega, by simp; omega, HS'.out, HBT.out⟩
        rw [List.append_assoc]
        exact HPC2.out
      case measure => simp [intOf]; have := HNUM.out; omega
theorem is_any (i f t : Nat) (h1 : f ≤ t) (h2 : t ≤ 256) (w : World) : Calls Tryz.prog 109 #[.agg #[.int .i64 i, .int .i64 f, .int .i64 t]] w fun e w' => e = .returned (.bool true) ∧ Below w.heap.size w w' := by
  have q1 : (0 : Int) ≤ (f : Int) := by omega
  have q2 : (t : Int) ≤ 256 := by omega
  have q3 : (f : Int) ≤ (t : Int) := by omega
  go_enter Tryz.func109, Tryz.ntmps109
  go_wp2
  go_ret
  exact ⟨rfl, bl_alloc (Below.refl _ _) _⟩
theorem has_any (i : Nat) (n : Int) (h0 : 0 ≤ n) (h1 : n ≤ 1099511627776) (w : World) : Calls Tryz.prog 60 #[.int .i64 i, .int .i64 n] w fun e w' => e = .returned (.int .i64 (hasB i n)) ∧ w = w' := by
  have q0 : 0 ≤ n % 256 := by omega
  have q1 : ¬ (n % 256 < 0) := by omega
  unfold hasB
  by_cases c1 : n / 256 < (i : Int)
  · rw [if_pos c1]
    go_enter Tryz.func60, Tryz.ntmps60
    go_wp2
    go_ret
    exact ⟨rfl, rfl⟩
  · rw [if_neg c1]
    by_cases c2 : n / 256 = (i : Int)
    · rw [if_pos c2]
      have c3 : ((i : Int) == n / 256) = true := by rw [beq_iff_eq]; exact c2.symm
      clear c2
      go_enter Tryz.func60, Tryz.ntmps60
      go_wp2
      go_ret
      exact ⟨rfl, rfl⟩
    · rw [if_neg c2]
      have c3 : ((i : Int) == n / 256) = false := by rw [beq_eq_false_iff_ne]; exact fun e => c2 e.symm
      clear c2
      go_enter Tryz.func60, Tryz.ntmps60
      go_wp2
      go_ret
      exact ⟨rfl, rfl⟩
theorem whole_any (i f t : Nat) (n : Int) (h0 : 0 ≤ n) (h1 : n ≤ 1099511627776) (w : World) : Calls Tryz.prog 30 #[.agg #[.int .i64 i, .int .i64 f, .int .i64 t], .int .i64 n] w fun e w' => e = .returned (.bool (wholeP (i, f, t) n)) ∧ Below w.heap.size w w' := by
  have H0 := Lib.hid (And.intro h0 h1)
  generalize hP : (fun (e : Ending) (w' : World) => e = .returned (.bool (wholeP (i, f, t) n)) ∧ Below w.heap.size w w') = Post
  have HP := Lib.hid hP
  obtain ⟨w1, hw1⟩ : ∃ w1, w1 = w.alloc (.cells #[.int .i64 i, .int .i64 f, .int .i64 t] 74) := ⟨_, rfl⟩
  obtain ⟨C, hC⟩ : ∃ C, w.heap.size = C := ⟨_, rfl⟩
  have HB1 : Hid (Below w.heap.size w w1) := Lib.hid (by rw [hw1]; exact bl_alloc (Below.refl _ _) _)
  have HR : Hid (Row w1 C 74 [.int .i64 i, .int .i64 f, .int .i64 t]) := Lib.hid (by rw [hw1, ← hC]; exact Row.new _ _ _)
  have hwh : wholeP (i, f, t) n = (((f : Int) == 0) && decide (hasB i n ≤ (t : Int))) := by
    unfold wholeP
    simp only
    congr 1
    rw [Bool.eq_iff_iff]
    simp
  rw [hwh] at HP
  have K : ∀ w', Below w1.heap.size w1 w' → w'.cell? ⟨C, 0, none⟩ = some (.int .i64 i) ∧ w'.cell? ⟨C, 1, none⟩ = some (.int .i64 f) ∧ w'.cell? ⟨C, 2, none⟩ = some (.int .i64 t) := fun w' hb => by
    have r := HR.out.keep (hb.block _ HR.out.lt)
    exact ⟨r.cell 0, r.cell 1, r.cell 2⟩
  have HK := Lib.hid K
  clear h0 h1 hP hwh K
  cases hf0 : ((f : Int) == 0)
  all_goals
    rw [hf0] at HP
    go_enter Tryz.func30, Tryz.ntmps30
    go_wp2_with fail
    rw [← hw1]
    clear hw1
    have S := HK.out
    apply wp_region_rel _ (by kernel_rfl) (by kernel_rfl) (fun w' => Below w1.heap.size w1 w') (fun w' w'' => Below w'.heap.size w' w'') (fun w' w'' h1 h2 => bl_trans h1 h2) (Below.refl _ _).drew
    repeat (first
      | (apply wpRel_skip (by rfl)
         simp only [Act.put, List.setIfInBounds_toArray, List.set_cons_zero, List.set_cons_succ])
      | (apply wpRel_fix (by rfl)
         · intro w' hC hf R hR
           have hS := S w' hC
           go_simp
           exact hR _ (Below.refl _ _)
         simp only [Act.put, List.setIfInBounds_toArray, List.set_cons_zero, List.set_cons_succ])
      | (apply wpRel_fix (by rfl)
         · intro w' hC hf R hR
           have hS := S w' hC
           go_simp
           refine (has_any i n H0.out.1 H0.out.2 _).mono ?_
           rintro e w'' ⟨rfl, rfl⟩
           exact ⟨_, rfl, hR _ (Below.refl _ _)⟩
         simp only [Act.put, List.setIfInBounds_toArray, List.set_cons_zero, List.set_cons_succ]))
    refine wpRel_nil (fun w2 hC2 hf => ?_)
    go_wp2
    rw [← HP.out]
    exact ⟨rfl, HB1.out.trans (hC2.mono HB1.out.size)⟩
set_option maxHeartbeats 1000000 in
theorem lay_any {w : World} {sp spb : Option Addr} {capo capb : Nat} {lo b : List Int} (i f : Nat) (hlo : lo.length ≤ 256) (hino : SlIn w sp lo) (hb0 : 0 < b.length) (hfb : f + b.length ≤ 256) (hinb : SlIn w spb b) :
    Calls Tryz.prog 64 #[.slice sp lo.length capo, .agg #[.int .i64 i, .int .i64 f, .int .i64 (f + b.length : Nat)], .slice spb b.length capb] w fun e w' =>
      (∃ h, e = .returned (.slice (some ⟨h, 0, none⟩) 256 256) ∧ w.heap.size ≤ h ∧ Row w' h 5 ((laidB (pad lo) f b).map (Value.int .u8))) ∧ Below w.heap.size w w' := by
  generalize hP : (fun (e : Ending) (w' : World) => (∃ h, e = .returned (.slice (some ⟨h, 0, none⟩) 256 256) ∧ w.heap.size ≤ h ∧ Row w' h 5 ((laidB (pad lo) f b).map (Value.int .u8))) ∧ Below w.heap.size w w') = Post
  have HP := Lib.hid hP
  obtain ⟨t, ht⟩ : ∃ t, f + b.length = t := ⟨_, rfl⟩
  rw [ht]
  obtain ⟨nb, hnb⟩ : ∃ nb, b.length = nb := ⟨_, rfl⟩
  have HNB := Lib.hid hnb
  have HLO := Lib.hid hlo
  have HT := Lib.hid ht
  have HINO := fun w2 (hb2 : Below w.heap.size w w2) (h0 : 0 < lo.length) => slIn_below hino hb2 h0
  have HINB := fun w2 (hb2 : Below w.heap.size w w2) (h0 : 0 < b.length) => slIn_below hinb hb2 h0
  have HI1 := Lib.hid HINO
  have HI2 := Lib.hid HINB
  have HC1 : Hid (∀ u ∈ lo.map (Value.int .u8), u.oneCell' = true) := Lib.hid fun u hu => by
    obtain ⟨x, _, rfl⟩ := List.mem_map.1 hu
    rfl
  have HC2 : Hid (∀ u ∈ b.map (Value.int .u8), u.oneCell' = true) := Lib.hid fun u hu => by
    obtain ⟨x, _, rfl⟩ := List.mem_map.1 hu
    rfl
  have U8SZ : Hid ((Tryz.prog.info? 5).map (·.size) = some 1) := Lib.hid (by kernel_rfl)
  have q1 : (t : Int) ≤ 256 := by omega
  have q2 : (f : Int) ≤ (t : Int) := by omega
  rw [hnb] at hb0 ⊢
  obtain ⟨w0, hw0⟩ : ∃ w0, w0 = w.alloc (.cells #[.int .i64 i, .int .i64 f, .int .i64 t] 74) := ⟨_, rfl⟩
  have HB0 : Hid (Below w.heap.size w w0) := Lib.hid (by rw [hw0]; exact bl_alloc (Below.refl _ _) _)
  have HZ0 : Hid (w0.heap.size = w.heap.size + 1) := Lib.hid (by rw [hw0]; simp)
  have HR0 : Hid (Row w0 w.heap.size 74 [.int .i64 i, .int .i64 f, .int .i64 t]) := Lib.hid (by rw [hw0]; exact Row.new _ _ _)
  clear hP hlo hino hfb hinb ht hnb HINO HINB
  go_enter Tryz.func64, Tryz.ntmps64
  go_wp2_with (first
    | (at_make; rw [← hw0]; refine wpList_mk _ rfl _ _ _ rfl 5 (.int .u8 0) 1 Tryz.underlying31 u8_info rfl 256 rfl rfl (by omega) (by unfold maxLen; omega) ?_; intro w2 hr hb2; rw [HZ0.out] at hr hb2; have HR := Lib.hid hr; have HB2 := Lib.hid hb2; clear hr hb2)
    | (refine wpList_copy_splice (o := ⟨some 11, _, _, _, _, _⟩) (hgd := rfl) (.tmp 9) (.tmp 10) 31 31 (ho := rfl) 5 (hu := Tryz.underlying31) (hsz := U8SZ.out) (dp := some ⟨w.heap.size + 1, 0, none⟩) (sp := sp) (dLen := 256) (dCap := 256) (sLen := lo.length) (sCap := capo) (hd := rfl) (hs := rfl) (g := w.heap.size + 1) (off := 0) (cur := List.replicate 256 (.int .u8 0)) (t := 5) (hg := HR.out) (cs := lo.map (Value.int .u8)) (hn := by rw [List.length_map]; exact (Nat.min_eq_left HLO.out).symm) (hpos := fun h0 => ⟨rfl, HI1.out _ (HB0.out.trans (HB2.out.mono (by omega))) (by simpa using h0)⟩) (hfit := by simp; exact HLO.out) (h1 := HC1.out) (B := w.heap.size + 1) (w0 := w0) (hb := HB2.out) (hBg := Nat.le_refl _) ?_; intro w3 hg3 hb3; have HB3 := Lib.hid hb3; have r3 := HR0.out.keep (hb3.block _ (by omega)); have x0 := r3.cell' (i := 0) rfl; have x1 := r3.cell' (i := 1) rfl; have x2 := r3.cell' (i := 2) rfl; have R3 := Lib.hid r3; clear hb3 r3))
  refine (is_any i f t (by have := HT.out; omega) (by omega) _).mono ?_
  rintro e w4 ⟨rfl, hb4⟩
  have HB4 := Lib.hid hb4
  have hbb := HB3.out
  have hz3 : w.heap.size + 1 ≤ w3.heap.size := by have := HB2.out.size; have := HZ0.out; have := HB3.out.size; omega
  have r4 := R3.out.keep (hb4.block _ (by omega))
  have x0 := r4.cell' (i := 0) rfl
  have x1 := r4.cell' (i := 1) rfl
  have x2 := r4.cell' (i := 2) rfl
  have HG4 : Hid (w4.heap[w.heap.size + 1]? = some (.cells ((pad lo).map (Value.int .u8)).toArray 5 (0, 0))) := Lib.hid (by
    rw [hb4.block _ (by have := HB3.out.size; have := R3.out.lt; have := (Array.getElem?_eq_some_iff.1 hg3.out).1; omega)]
    have := hg3.out
    rw [splice_pad] at this
    exact this)
  have HB34 : Hid (Below (w.heap.size + 1) w0 w4) := Lib.hid (HB3.out.trans (hb4.mono hz3))
  have q5 : (f : Int) < 256 := by have := HT.out; have := HNB.out; omega
  have q6 : ¬ ((256 : Int) = (f : Int)) := by omega
  have HCS : Hid ((b.map (Value.int .u8)).length = min nb (t - f)) := Lib.hid (by have := HT.out; have := HNB.out; rw [List.length_map]; omega)
  clear r4 hb4 hbb hg3
  go_wp2_with (refine wpList_copy_splice (o := ⟨some 21, _, _, _, _, _⟩) (hgd := rfl) (.tmp 19) (.tmp 20) 31 31 (ho := rfl) 5 (hu := Tryz.underlying31) (hsz := U8SZ.out) (dp := some ⟨w.heap.size + 1, f, none⟩) (sp := spb) (dLen := t - f) (dCap := 256 - f) (sLen := nb) (sCap := capb) (hd := rfl) (hs := rfl) (g := w.heap.size + 1) (off := f) (cur := (pad lo).map (Value.int .u8)) (t := 5) (hg := HG4.out) (cs := b.map (Value.int .u8)) (hn := HCS.out) (hpos := fun h0 => ⟨rfl, HI2.out _ (HB0.out.trans (HB34.out.mono (by omega))) (by simpa using h0)⟩) (hfit := by rw [List.length_map, List.length_map, pad_len HLO.out]; have := HT.out; omega) (h1 := HC2.out) (B := w.heap.size + 1) (w0 := w0) (hb := HB34.out) (hBg := Nat.le_refl _) ?_; intro w5 hg5 hb5; have HB5 := Lib.hid hb5; clear hb5)
  rw [← HP.out]
  have hz0 := HZ0.out
  refine ⟨⟨w.heap.size + 1, rfl, by omega, ?_⟩, HB0.out.trans (HB5.out.mono (by omega))⟩
  have h5 := hg5.out
  have he : splice ((pad lo).map (Value.int .u8)) f (b.map (Value.int .u8)) = (laidB (pad lo) f b).map (Value.int .u8) := by
    unfold splice laidB
    simp only [List.map_append, List.map_take, List.map_drop, List.length_map, List.append_assoc]
  rw [he] at h5
  exact h5
end Go.Proofs.YtjekpbkmhgfhoaaGreatDoor
end

section
/- What VolFull asks, step by step, in plain words. No program in sight. -/
namespace Go.Proofs.YtjekpbkmhgfhoaaGreatDoor
set_option linter.unusedSimpArgs false
set_option linter.unusedVariables false
/-- A file whose first so many blocks are there, none lost. -/
structure FullS (g : Nat → FBlk) (i : Nat) : Prop where
  pre : PreB g i
  lost : ∀ k, g k ≠ some none
  wf : Wf g
theorem FullS.zero : FullS (fun _ => none) 0 := ⟨PreB.none, fun k h => (by cases h), none_wf⟩
abbrev zs256 : List Int := List.replicate 256 0
theorem FullS.laid {g : Nat → FBlk} {i at' : Nat} {b : List Int} (h : FullS g i) (hb : b ≠ []) (hp : at' / 256 ≤ i) : FullS (layAt g at' b) (max i ((at' + b.length - 1) / 256 + 1)) :=
  ⟨h.pre.laid hb hp, laid_lost h.lost _ _, layAt_wf h.wf _ _⟩
theorem zs_len : zs256.length = 256 := by simp
theorem zs_ne : zs256 ≠ [] := fun e => by have := zs_len; rw [e] at this; cases this
end Go.Proofs.YtjekpbkmhgfhoaaGreatDoor
end

section
/- The volume's calls that take names away, in plain words: what is a volume stays one. No program in sight. -/
namespace Go.Proofs.YtjekpbkmhgfhoaaGreatDoor
set_option linter.unusedSimpArgs false
set_option linter.unusedVariables false
theorem holds_no {s : V} (h : VWf s) {id : Int} (hh : s.holds id = false) : ∀ fd x, s.fs fd = some x → x.node ≠ id := fun fd x hx e => by
  have h1 : s.holds id = true := by
    unfold V.holds
    rw [List.any_eq_true]
    refine ⟨fd, List.mem_range.2 (h.fs fd x hx).1, ?_⟩
    rw [hx]
    simp [e]
  rw [h1] at hh
  cases hh
theorem freeT_get {st : St} {id : Int} (h : (freeT st id).1 = true) (k : Int) : (freeT st id).2.get k = if k = id then none else st.get k := by
  unfold freeT at h ⊢
  split at h
  · cases h
  · split at h
    · cases h
    · rename_i n hn hl
      rw [if_neg hl]
      exact get_drop st id k
theorem freeT_same {st : St} {id : Int} (h : (freeT st id).1 = false) : (freeT st id).2 = st := by
  unfold freeT at h ⊢
  split
  · rfl
  · split
    · rfl
    · rename_i n hn hl
      simp only [hn, if_neg hl] at h
      cases h
theorem freeV_wf {s : V} (h : VWf s) (id : Int) : VWf (freeV s id) := by
  unfold freeV
  cases hh : s.holds id with
  | true => exact h
  | false =>
    rw [if_neg (by simp)]
    simp only
    cases hf : (freeT s.st id).1 with
    | false => exact h
    | true =>
      rw [if_pos rfl]
      have hget := freeT_get hf
      refine ⟨freeT_full h.full id, fun k i hi => ?_, fun k => ?_, fun fd x hx => ?_⟩
      · unfold delG at hi
        simp only at hi
        by_cases hk : k = id
        · rw [if_pos hk] at hi
          exact absurd rfl hi
        · rw [if_neg hk] at hi
          obtain ⟨h1, r, h2, h3⟩ := h.blk k i hi
          exact ⟨h1, r, by rw [hget k, if_neg hk]; exact h2, h3⟩
      · intro i l hl
        unfold delG at hl
        simp only at hl
        split at hl
        · cases hl
        · exact h.wf k i l hl
      · obtain ⟨h1, h2, h3, r, h4, h5⟩ := h.fs fd x hx
        exact ⟨h1, h2, h3, r, by rw [hget x.node, if_neg (holds_no h hh fd x hx)]; exact h4, h5⟩
theorem unlinkV_wf {s : V} (h : VWf s) (x : ByteArray) : VWf { s with st := (unlinkT s.st x).2.2 } := h.tree (unlinkT_full h.full x) (unlinkT_keep h.full x)
theorem renameV_wf {s : V} (h : VWf s) (x y : ByteArray) : VWf { s with st := (renameT s.st x y).2.2 } := h.tree (renameT_full h.full x y) (renameT_keep h.full x y)
theorem closeV_wf {s : V} (h : VWf s) (fd : Nat) : VWf { s with fs := fun k => if k = fd then none else s.fs k } :=
  ⟨h.full, h.blk, h.wf, fun j y hy => by
    simp only at hy
    split at hy
    · cases hy
    · exact h.fs j y hy⟩
/-- The blocks of a node that is no more, taken away one by one. -/
theorem delG_all (s : V) (id : Int) (g : Nat → FBlk) (hg : ∀ i, g i = none) : ({ s with g := fun k => if k = id then g else s.g k } : V) = { s with g := delG s.g id } := by
  simp only [V.mk.injEq, true_and, and_true]
  funext k i
  unfold delG
  by_cases hk : k = id
  · rw [if_pos hk, if_pos hk]
    exact hg i
  · rw [if_neg hk, if_neg hk]
theorem unlinkT_same {st : St} {x : ByteArray} (h : (unlinkT st x).1 ≠ 0) : (unlinkT st x).2.2 = st := by
  unfold unlinkT at h ⊢
  simp only at h ⊢
  split
  · rfl
  · rename_i h1
    rw [if_neg h1] at h
    split
    · rfl
    · rename_i h2
      rw [if_neg h2] at h
      split
      · rfl
      · rename_i h3
        rw [if_neg h3] at h
        exact absurd rfl h
theorem renameT_same {st : St} {x y : ByteArray} (h : (renameT st x y).1 ≠ 0) : (renameT st x y).2.2 = st := by
  unfold renameT at h ⊢
  simp only at h ⊢
  split
  · rfl
  · rename_i h1
    rw [if_neg h1] at h
    split
    · rfl
    · rename_i h2
      rw [if_neg h2] at h
      split
      · rfl
      · rename_i h3
        rw [if_neg h3] at h
        split
        · rfl
        · rename_i h4
          rw [if_neg h4] at h
          split
          · rfl
          · rename_i h5
            rw [if_neg h5] at h
            split
            · rfl
            · rename_i h6
              rw [if_neg h6] at h
              split
              · rfl
              · rename_i h7
                rw [if_neg h7] at h
                exact absurd rfl h
end Go.Proofs.YtjekpbkmhgfhoaaGreatDoor
end

section
/- What VolOpen asks, step by step, in plain words. No program in sight. -/
namespace Go.Proofs.YtjekpbkmhgfhoaaGreatDoor
set_option linter.unusedSimpArgs false
set_option linter.unusedVariables false
variable {g : Nat → FBlk} {sz p0 p1 : Int}
/-- Two numbers for the file. -/
def fs01 (p0 p1 : Int) : Nat → Option Hdl := fun k => if k = 0 then some ⟨2, p0⟩ else if k = 1 then some ⟨2, p1⟩ else none
def fs1 (p1 : Int) : Nat → Option Hdl := fun k => if k = 1 then some ⟨2, p1⟩ else none
def opG (g : Nat → FBlk) : Int → Nat → FBlk := fun k => if k = 2 then g else fun _ => none
def opV (st : St) (g : Nat → FBlk) (fs : Nat → Option Hdl) : V := ⟨st, opG g, fs, 60⟩
def opS1 (sz : Int) : St := (fileV nmF (fun _ => none) sz 0 0).st
theorem op_second : ({ fileV nmF g sz p0 60 with fs := fun j => if j = 1 then some ⟨2, p1⟩ else (fileV nmF g sz p0 60).fs j } : V) = opV (opS1 sz) g (fs01 p0 p1) := by
  unfold fileV opV opG fs01
  simp only [V.mk.injEq, and_true, true_and]
  refine ⟨rfl, ?_⟩
  funext j
  by_cases h1 : j = 1
  · subst h1; simp
  · by_cases h0 : j = 0 <;> simp [h0, h1]
theorem op_fd (pos q : Int) : fdOf (fileV nmF g sz pos q).fs = some 1 := rfl
theorem op_blocks {st : St} (fs : Nat → Option Hdl) (h : (st.ns.map fun r => nBlk (opG g r.nd.id)).sum = nBlk g) : (opV st g fs).blocks = nBlk g := by
  unfold V.blocks
  show (((st.ns.map fun r => nBlk (opG g r.nd.id)).sum : Nat) : Int) = _
  rw [h]
theorem op_sum1 : ((opS1 sz).ns.map fun r => nBlk (opG g r.nd.id)).sum = nBlk g := by
  simp [opS1, fileV, opG, nBlk_none]
theorem op_charge1 (fs : Nat → Option Hdl) : (opV (opS1 sz) g fs).charge = 3 + nBlk g := by
  have h := nBlk_le g
  unfold V.charge
  rw [op_blocks fs op_sum1]
  have hn : (opV (opS1 sz) g fs).nodes = 2 := rfl
  have hc : (opV (opS1 sz) g fs).st.count = 1 := by
    show (opS1 sz).count = 1
    unfold St.count opS1 fileV
    simp
  rw [hn, hc]
  omega
theorem op_write {i : Nat} (h : FullS g i) (hi : i < 8) : ∃ g', writeV (opV (opS1 ((256 * i : Nat) : Int)) g (fs01 ((256 * i : Nat) : Int) 0)) 0 zs256 = (0, 256, opV (opS1 ((256 * (i + 1) : Nat) : Int)) g' (fs01 ((256 * (i + 1) : Nat) : Int) 0)) ∧ FullS g' (i + 1) := by
  have hl := h.laid (at' := 256 * i) zs_ne (by omega)
  rw [zs_len, show max i ((256 * i + 256 - 1) / 256 + 1) = i + 1 by omega] at hl
  refine ⟨_, ?_, hl⟩
  have hat : atV (opV (opS1 ((256 * i : Nat) : Int)) g (fs01 ((256 * i : Nat) : Int) 0)) 0 = some (⟨2, ((256 * i : Nat) : Int)⟩, ⟨2, 1, 1, ((256 * i : Nat) : Int), noText, 0⟩) := rfl
  have hlaid : laidV (opV (opS1 ((256 * i : Nat) : Int)) g (fs01 ((256 * i : Nat) : Int) 0)) 0 ⟨2, ((256 * i : Nat) : Int)⟩ ⟨2, 1, 1, ((256 * i : Nat) : Int), noText, 0⟩ zs256 = opV (opS1 ((256 * (i + 1) : Nat) : Int)) (layAt g (256 * i) zs256) (fs01 ((256 * (i + 1) : Nat) : Int) 0) := by
    rw [laidV_eq (h' := ⟨2, ((256 * i : Nat) : Int)⟩) rfl (by simp only; omega) (by simp only [zs_len]; omega)]
    have e1 : ((256 * i : Nat) : Int) + ((256 : Nat) : Int) = ((256 * (i + 1) : Nat) : Int) := by omega
    simp only [zs_len, e1, Int.toNat_natCast]
    rw [Int.max_eq_right (by omega)]
    unfold opV
    simp only [V.mk.injEq, and_true]
    refine ⟨rfl, ?_, ?_⟩
    · funext k
      unfold opG
      by_cases hk : k = 2
      · subst hk; simp
      · simp [hk]
    · funext k
      unfold fs01
      by_cases h0 : k = 0 <;> simp [h0]
  rw [writeV_ok hat (by rw [zs_len]; omega) zs_ne (by simp only [zs_len]; omega) (fun j => h.lost j) (by
    rw [hlaid, op_charge1, hl.pre.nBlk (by omega)]
    show _ ≤ max (60 : Int) _
    omega), hlaid, zs_len]
  rfl
theorem op_holds2 (st : St) : (opV st g (fs01 p0 p1)).holds 2 = true := rfl
theorem op_holds2' (st : St) : (opV st g (fs1 p1)).holds 2 = true := rfl
theorem op_holds3 (st : St) : (opV st g (fs01 p0 p1)).holds 3 = false := rfl
theorem opv_unlink : unlinkV (opV (opS1 sz) g (fs01 p0 p1)) pF = (0, opV (opS 2 sz) g (fs01 p0 p1)) := by
  unfold unlinkV
  have h : unlinkT (opV (opS1 sz) g (fs01 p0 p1)).st pF = (0, 2, opS 2 sz) := op_unlink (g := fun _ => none) (pos := 0) (q := 0)
  simp only [h]
  rw [if_neg (by simp)]
  unfold freeV
  have hh : ({ opV (opS1 sz) g (fs01 p0 p1) with st := opS 2 sz } : V) = opV (opS 2 sz) g (fs01 p0 p1) := rfl
  rw [hh, op_holds2, if_pos rfl]
/-- The second way: another file is made, closed, and renamed onto it; then that name is taken away. -/
def opF2 (sz : Int) (g : Nat → FBlk) (p0 p1 : Int) : V := { opV (opS2 sz) g (fs01 p0 p1) with fs := fun j => if j = 2 then some ⟨3, 0⟩ else fs01 p0 p1 j }
theorem op_sum2 : ((opS2 sz).ns.map fun r => nBlk (opG g r.nd.id)).sum = nBlk g := by
  simp [opS2, opG, nBlk_none]
theorem opF2_charge : (opF2 sz g p0 p1).charge = 5 + nBlk g := by
  have h := nBlk_le g
  unfold V.charge
  have hb : (opF2 sz g p0 p1).blocks = nBlk g := op_blocks _ op_sum2
  rw [hb]
  have hn : (opF2 sz g p0 p1).nodes = 3 := rfl
  have hc : (opF2 sz g p0 p1).st.count = 2 := by
    show (opS2 sz).count = 2
    unfold St.count opS2
    simp
  rw [hn, hc]
  omega
theorem op_createA : createA pG (opV (opS1 sz) g (fs01 p0 p1)) = (0, 2, opF2 sz g p0 p1) := by
  unfold createA
  have h : makeT (opV (opS1 sz) g (fs01 p0 p1)).st pG 1 noText = (0, 3, opS2 sz) := op_make (g := fun _ => none) (pos := 0) (q := 0)
  simp only [h]
  rw [if_neg (by simp)]
  rfl
theorem opv_open (hn : nBlk g ≤ 8) : openV (opV (opS1 sz) g (fs01 p0 p1)) pG true = (0, 2, opF2 sz g p0 p1) := by
  have hT : triedV (opV (opS1 sz) g (fs01 p0 p1)) (fun c => ((createA pG c).1, (createA pG c).2.2)) = (0, opF2 sz g p0 p1) := by
    unfold triedV
    simp only [op_createA]
    rw [if_neg (by simp), opF2_charge, if_neg]
    have : (opV (opS1 sz) g (fs01 p0 p1)).quota = 60 := rfl
    omega
  have hC : createV (opV (opS1 sz) g (fs01 p0 p1)) pG = (0, 2, opF2 sz g p0 p1) := by
    have hl := op_last (g := fun _ => none) (sz := sz) (pos := 0) (q := 0)
    have h1 : (opV (opS1 sz) g (fs01 p0 p1)).st = (fileV nmF (fun _ => none) sz 0 0).st := rfl
    unfold createV
    simp only [hT, op_createA, h1]
    rw [if_neg (by rw [hl.1]; simp), if_neg (by rw [hl.2.1]; simp), if_neg (by rw [hl.2.2]; simp), if_neg (by simp)]
  unfold openV
  simp only
  rw [if_pos ⟨op_none (g := fun _ => none) (sz := sz) (pos := 0) (q := 0), trivial⟩, hC]
theorem opv_close2 : closeV (opF2 sz g p0 p1) 2 = (0, opV (opS2 sz) g (fs01 p0 p1)) := by
  unfold closeV
  have hf : (opF2 sz g p0 p1).fs 2 = some ⟨3, 0⟩ := rfl
  rw [hf]
  simp only
  have hs : ({ opF2 sz g p0 p1 with fs := fun k => if k = 2 then none else (opF2 sz g p0 p1).fs k } : V) = opV (opS2 sz) g (fs01 p0 p1) := by
    unfold opF2 opV
    simp only [V.mk.injEq, true_and, and_true]
    funext k
    by_cases hk : k = 2
    · subst hk; rfl
    · simp [hk]
  rw [hs]
  unfold freeV
  rw [op_holds3, if_neg (by simp)]
  have h : freeT (opV (opS2 sz) g (fs01 p0 p1)).st 3 = (false, opS2 sz) := op_keep
  simp only [h]
  rw [if_neg (by simp)]
theorem opv_rename : renameV (opV (opS2 sz) g (fs01 p0 p1)) pG pF = (0, opV (opS3 sz) g (fs01 p0 p1)) := by
  unfold renameV
  have h : renameT (opV (opS2 sz) g (fs01 p0 p1)).st pG pF = (0, 2, opS3 sz) := op_rename
  simp only [h]
  rw [if_neg (by simp), if_pos (by decide)]
  unfold freeV
  have hh : ({ opV (opS2 sz) g (fs01 p0 p1) with st := opS3 sz } : V) = opV (opS3 sz) g (fs01 p0 p1) := rfl
  rw [hh, op_holds2, if_pos rfl]
theorem delG_op {k : Int} (hk : k ≠ 2) (g : Nat → FBlk) : delG (opG g) k = opG g := by
  funext a i
  unfold delG opG
  by_cases ha : a = k
  · subst ha
    simp [hk]
  · simp [ha]
theorem opv_unlink3 : unlinkV (opV (opS3 sz) g (fs01 p0 p1)) pF = (0, opV (opS 3 sz) g (fs01 p0 p1)) := by
  unfold unlinkV
  have h : unlinkT (opV (opS3 sz) g (fs01 p0 p1)).st pF = (0, 3, opS4 sz) := op_unlink3
  simp only [h]
  rw [if_neg (by simp)]
  have hh : ({ opV (opS3 sz) g (fs01 p0 p1) with st := opS4 sz } : V) = opV (opS4 sz) g (fs01 p0 p1) := rfl
  rw [hh]
  unfold freeV
  rw [op_holds3, if_neg (by simp)]
  have h2 : freeT (opV (opS4 sz) g (fs01 p0 p1)).st 3 = (true, opS 3 sz) := op_free3
  simp only [h2]
  rw [if_pos trivial]
  simp only [Prod.mk.injEq, true_and]
  unfold opV
  simp only [V.mk.injEq, true_and, and_true]
  exact delG_op (by decide) g
theorem op_sum (last : Int) : ((opS last sz).ns.map fun r => nBlk (opG g r.nd.id)).sum = nBlk g := by
  simp [opS, opG, nBlk_none]
theorem op_counts (last : Int) (fs : Nat → Option Hdl) : (opV (opS last sz) g fs).nodes = 2 ∧ (opV (opS last sz) g fs).st.count = 0 ∧ (opV (opS last sz) g fs).blocks = nBlk g :=
  ⟨rfl, by show (opS last sz).count = 0; unfold St.count opS; simp, op_blocks fs (op_sum last)⟩
theorem opv_close0 (last : Int) : closeV (opV (opS last sz) g (fs01 p0 p1)) 0 = (0, opV (opS last sz) g (fs1 p1)) := by
  unfold closeV
  have hf : (opV (opS last sz) g (fs01 p0 p1)).fs 0 = some ⟨2, p0⟩ := rfl
  rw [hf]
  simp only
  have hs : ({ opV (opS last sz) g (fs01 p0 p1) with fs := fun k => if k = 0 then none else (opV (opS last sz) g (fs01 p0 p1)).fs k } : V) = opV (opS last sz) g (fs1 p1) := by
    unfold opV
    simp only [V.mk.injEq, true_and, and_true]
    funext k
    unfold fs01 fs1
    by_cases hk : k = 0
    · subst hk; rfl
    · simp [hk]
  rw [hs]
  unfold freeV
  rw [op_holds2', if_pos rfl]
/-- What is left when all is gone. -/
def opE (last : Int) : V := ⟨⟨last, [⟨⟨1, 2, 1, 0, noText, 1⟩, []⟩]⟩, fun _ _ => none, fun _ => none, 60⟩
theorem opv_close1 (last : Int) : closeV (opV (opS last sz) g (fs1 p1)) 1 = (0, opE last) := by
  unfold closeV
  have hf : (opV (opS last sz) g (fs1 p1)).fs 1 = some ⟨2, p1⟩ := rfl
  rw [hf]
  simp only
  have hs : ({ opV (opS last sz) g (fs1 p1) with fs := fun k => if k = 1 then none else (opV (opS last sz) g (fs1 p1)).fs k } : V) = opV (opS last sz) g (fun _ => none) := by
    unfold opV
    simp only [V.mk.injEq, true_and, and_true]
    funext k
    unfold fs1
    by_cases hk : k = 1 <;> simp [hk]
  rw [hs]
  unfold freeV
  have hh : (opV (opS last sz) g (fun _ => none)).holds 2 = false := rfl
  rw [hh, if_neg (by simp)]
  have h2 : freeT (opV (opS last sz) g (fun _ => none)).st 2 = (true, ⟨last, [⟨⟨1, 2, 1, 0, noText, 1⟩, []⟩]⟩) := op_free2 last
  simp only [h2]
  rw [if_pos trivial]
  simp only [Prod.mk.injEq, true_and]
  unfold opV opE
  simp only [V.mk.injEq, true_and, and_true]
  funext a i
  unfold delG opG
  by_cases ha : a = 2 <;> simp [ha]
theorem opE_counts (last : Int) : (opE last).nodes = 1 ∧ (opE last).blocks = 0 := ⟨rfl, by
  unfold V.blocks opE
  simp [nBlk_none]⟩
theorem opE_free (last : Int) : freeV (opE last) 1 = opE last := by
  unfold freeV
  have hh : (opE last).holds 1 = false := rfl
  rw [hh, if_neg (by simp)]
  have h2 : (freeT (opE last).st 1).1 = false := rfl
  simp only [h2]
  rw [if_neg (by simp)]
theorem opE_close (last : Int) : closeV (opE last) 1 = (121, opE last) := rfl
end Go.Proofs.YtjekpbkmhgfhoaaGreatDoor
end
