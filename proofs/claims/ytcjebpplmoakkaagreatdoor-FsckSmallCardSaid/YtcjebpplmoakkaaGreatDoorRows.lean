/-
  NARROWER THAN 'FOR EVERY INPUT', by the rows' own cells (each row's printed sentence says how): FsckSmall: laid.
  DERIVED. THE GIVEN ROWS OF THIS SEAT. 1 by the template 'for every input the law returns true; each argument reads behind the call as it read before'; 0 by the template 'total and deterministic' (their statements: YtcjebpplmoakkaaGreatDoorTotals.lean).
  GIVEN WITH THE SEED: the statements are not yours to turn. If you find one false, say at which input.
  Laid BY PROGRAM, IN A SANDBOX (cutbox-rows.mjs): the forced cells as the released guide's own fill.sh prints them over the translation 632c0c8369300e03… (all of the seat's roots in one cut). By AI agents, Wed Nov 11 2026. No macro, syntax, notation, axiom, sorry.
-/
import Derived.Test.YtcjebpplmoakkaaGreatDoorChecked
import GoSem.Claim
import GoSem.ClaimJoined
import GoSem.ClaimMapViews
import Derived.JoinedTies
import Derived.KernelRfl
namespace Go.Proofs.YtcjebpplmoakkaaGreatDoor
/- THE CELL 'sum', in the pinned program and in every row, IS THE sha256 OF THE DUMP (.gsa) THAT YtcjebpplmoakkaaGreatDoorProg.lean LOADS. Nothing in Lean hashes anything: it is a label: what it is worth is what the hold of that sum in a sandbox is worth. -/
noncomputable def Tryz.pinned : Pinned := { name := "ytcjebpplmoakkaagreatdoor", sum := "632c0c8369300e0332ac7930467ade50ed20b83a175f8164fc35bb91735a138f", checked := Tryz.checked }
namespace Rows
def none {H : Type} : Left H := { results := [], args := [] }

/- WHAT THE LISTED PACKAGE-LEVEL VARIABLES READ AS WHEN THE CALL BEGINS. Each datum BY PROGRAM (the guide's laid-datum.mjs) off the statement by which the dump's own 'gosem.cut.vars' lays the variable. In a bare row this is a premise. The card (YtcjebpplmoakkaaGreatDoorCards.lean) ties it to the program's text. -/
def laid_math_bits_deBruijn32tab {H : Type} : DataW H := .agg [.lit (.int .u8 0), .lit (.int .u8 1), .lit (.int .u8 28), .lit (.int .u8 2), .lit (.int .u8 29), .lit (.int .u8 14), .lit (.int .u8 24), .lit (.int .u8 3), .lit (.int .u8 30), .lit (.int .u8 22), .lit (.int .u8 20), .lit (.int .u8 15), .lit (.int .u8 25), .lit (.int .u8 17), .lit (.int .u8 4), .lit (.int .u8 8), .lit (.int .u8 31), .lit (.int .u8 27), .lit (.int .u8 13), .lit (.int .u8 23), .lit (.int .u8 21), .lit (.int .u8 19), .lit (.int .u8 16), .lit (.int .u8 7), .lit (.int .u8 26), .lit (.int .u8 12), .lit (.int .u8 18), .lit (.int .u8 6), .lit (.int .u8 11), .lit (.int .u8 5), .lit (.int .u8 10), .lit (.int .u8 9)]
def laid_math_bits_deBruijn64tab {H : Type} : DataW H := .agg [.lit (.int .u8 0), .lit (.int .u8 1), .lit (.int .u8 56), .lit (.int .u8 2), .lit (.int .u8 57), .lit (.int .u8 49), .lit (.int .u8 28), .lit (.int .u8 3), .lit (.int .u8 61), .lit (.int .u8 58), .lit (.int .u8 42), .lit (.int .u8 50), .lit (.int .u8 38), .lit (.int .u8 29), .lit (.int .u8 17), .lit (.int .u8 4), .lit (.int .u8 62), .lit (.int .u8 47), .lit (.int .u8 59), .lit (.int .u8 36), .lit (.int .u8 45), .lit (.int .u8 43), .lit (.int .u8 51), .lit (.int .u8 22), .lit (.int .u8 53), .lit (.int .u8 39), .lit (.int .u8 33), .lit (.int .u8 30), .lit (.int .u8 24), .lit (.int .u8 18), .lit (.int .u8 12), .lit (.int .u8 5), .lit (.int .u8 63), .lit (.int .u8 55), .lit (.int .u8 48), .lit (.int .u8 27), .lit (.int .u8 60), .lit (.int .u8 41), .lit (.int .u8 37), .lit (.int .u8 16), .lit (.int .u8 46), .lit (.int .u8 35), .lit (.int .u8 44), .lit (.int .u8 21), .lit (.int .u8 52), .lit (.int .u8 32), .lit (.int .u8 23), .lit (.int .u8 11), .lit (.int .u8 54), .lit (.int .u8 26), .lit (.int .u8 40), .lit (.int .u8 15), .lit (.int .u8 34), .lit (.int .u8 20), .lit (.int .u8 31), .lit (.int .u8 10), .lit (.int .u8 25), .lit (.int .u8 14), .lit (.int .u8 19), .lit (.int .u8 9), .lit (.int .u8 13), .lit (.int .u8 8), .lit (.int .u8 7), .lit (.int .u8 6)]
def laid_internal_strconv_uint64pow10 {H : Type} : DataW H := .agg [.lit (.int .u64 1), .lit (.int .u64 10), .lit (.int .u64 100), .lit (.int .u64 1000), .lit (.int .u64 10000), .lit (.int .u64 100000), .lit (.int .u64 1000000), .lit (.int .u64 10000000), .lit (.int .u64 100000000), .lit (.int .u64 1000000000), .lit (.int .u64 10000000000), .lit (.int .u64 100000000000), .lit (.int .u64 1000000000000), .lit (.int .u64 10000000000000), .lit (.int .u64 100000000000000), .lit (.int .u64 1000000000000000), .lit (.int .u64 10000000000000000), .lit (.int .u64 100000000000000000), .lit (.int .u64 1000000000000000000), .lit (.int .u64 10000000000000000000)]
def laid_breviary_api_ErrEnd {H : Type} : DataW H := .iface "*errors.errorString" (.ptr (.agg [.lit (.string [105, 116, 32, 101, 110, 100, 115, 32, 116, 111, 111, 32, 101, 97, 114, 108, 121])]))
def laid_breviary_api_ErrShape {H : Type} : DataW H := .iface "*errors.errorString" (.ptr (.agg [.lit (.string [110, 111, 116, 32, 97, 115, 32, 105, 116, 32, 104, 97, 115, 32, 116, 111, 32, 98, 101])]))
def laid_breviary_api_ErrRange {H : Type} : DataW H := .iface "*errors.errorString" (.ptr (.agg [.lit (.string [97, 32, 110, 117, 109, 98, 101, 114, 32, 111, 117, 116, 32, 111, 102, 32, 105, 116, 115, 32, 114, 97, 110, 103, 101])]))
def laid_breviary_api_ErrMany {H : Type} : DataW H := .iface "*errors.errorString" (.ptr (.agg [.lit (.string [116, 111, 111, 32, 109, 97, 110, 121])]))
def laid_breviary_api_ErrFull {H : Type} : DataW H := .iface "*errors.errorString" (.ptr (.agg [.lit (.string [116, 104, 101, 114, 101, 32, 105, 115, 32, 110, 111, 32, 114, 111, 111, 109])]))
def laid_breviary_api_ErrCrash {H : Type} : DataW H := .iface "*errors.errorString" (.ptr (.agg [.lit (.string [105, 116, 32, 105, 115, 32, 100, 111, 119, 110])]))
def laid_breviary_api_ErrIO {H : Type} : DataW H := .iface "*errors.errorString" (.ptr (.agg [.lit (.string [105, 116, 32, 99, 97, 110, 39, 116, 32, 98, 101, 32, 114, 101, 97, 100])]))
def laid_breviary_api_ErrState {H : Type} : DataW H := .iface "*errors.errorString" (.ptr (.agg [.lit (.string [110, 111, 116, 32, 105, 110, 32, 116, 104, 105, 115, 32, 115, 116, 97, 116, 101])]))
def laid_breviary_api_ErrNoEnt {H : Type} : DataW H := .iface "*errors.errorString" (.ptr (.agg [.lit (.string [110, 111, 32, 115, 117, 99, 104, 32, 102, 105, 108, 101])]))
def laid_breviary_api_ErrExist {H : Type} : DataW H := .iface "*errors.errorString" (.ptr (.agg [.lit (.string [116, 104, 101, 114, 101, 32, 105, 115, 32, 111, 110, 101])]))
def laid_breviary_api_ErrNotDir {H : Type} : DataW H := .iface "*errors.errorString" (.ptr (.agg [.lit (.string [110, 111, 116, 32, 97, 32, 100, 105, 114, 101, 99, 116, 111, 114, 121])]))
def laid_breviary_api_ErrIsDir {H : Type} : DataW H := .iface "*errors.errorString" (.ptr (.agg [.lit (.string [97, 32, 100, 105, 114, 101, 99, 116, 111, 114, 121])]))
def laid_breviary_api_ErrNotEmpty {H : Type} : DataW H := .iface "*errors.errorString" (.ptr (.agg [.lit (.string [110, 111, 116, 32, 101, 109, 112, 116, 121])]))
def laid_breviary_api_ErrInval {H : Type} : DataW H := .iface "*errors.errorString" (.ptr (.agg [.lit (.string [105, 116, 32, 109, 97, 121, 32, 110, 111, 116, 32, 98, 101])]))
def laid_breviary_api_ErrLong {H : Type} : DataW H := .iface "*errors.errorString" (.ptr (.agg [.lit (.string [116, 111, 111, 32, 108, 111, 110, 103, 32, 97, 32, 110, 97, 109, 101])]))
def laid_breviary_api_ErrLoop {H : Type} : DataW H := .iface "*errors.errorString" (.ptr (.agg [.lit (.string [116, 111, 111, 32, 109, 97, 110, 121, 32, 108, 105, 110, 107, 115, 32, 105, 110, 32, 97, 32, 114, 111, 119])]))
def laid_breviary_api_ErrMLink {H : Type} : DataW H := .iface "*errors.errorString" (.ptr (.agg [.lit (.string [116, 111, 111, 32, 109, 97, 110, 121, 32, 110, 97, 109, 101, 115])]))
def laid_breviary_api_ErrFBig {H : Type} : DataW H := .iface "*errors.errorString" (.ptr (.agg [.lit (.string [116, 111, 111, 32, 103, 114, 101, 97, 116, 32, 97, 32, 102, 105, 108, 101])]))
def laid_breviary_api_ErrNoSpc {H : Type} : DataW H := .iface "*errors.errorString" (.ptr (.agg [.lit (.string [110, 111, 32, 115, 112, 97, 99, 101])]))
def laid_breviary_api_ErrMFile {H : Type} : DataW H := .iface "*errors.errorString" (.ptr (.agg [.lit (.string [116, 111, 111, 32, 109, 97, 110, 121, 32, 111, 112, 101, 110])]))
def laid_breviary_api_ErrBadF {H : Type} : DataW H := .iface "*errors.errorString" (.ptr (.agg [.lit (.string [110, 111, 116, 32, 111, 112, 101, 110])]))
def laid_breviary_api_ErrRefused {H : Type} : DataW H := .iface "*errors.errorString" (.ptr (.agg [.lit (.string [105, 116, 32, 99, 97, 110, 39, 116, 32, 98, 101, 32, 109, 101, 110, 100, 101, 100])]))
def laid_breviary_api_ErrWord {H : Type} : DataW H := .iface "*errors.errorString" (.ptr (.agg [.lit (.string [110, 111, 32, 115, 117, 99, 104, 32, 119, 111, 114, 100])]))
def laid_breviary_api_ErrNumber {H : Type} : DataW H := .iface "*errors.errorString" (.ptr (.agg [.lit (.string [110, 111, 116, 32, 97, 32, 110, 117, 109, 98, 101, 114])]))

/-- 'breviarylaw26.FsckSmall': WHATEVER THE INPUT: true; the input reads as it did. -/
def fsckSmallSpec : ChangeSpec := { name := "fsckSmall", fn := fun _ => fun
  | [d1, d2] => { results := [.lit (.bool true)], args := [d1, d2] }
  | _ => none }
def fsckSmallRow : OpenClaim := { program := "ytcjebpplmoakkaagreatdoor", sum := "632c0c8369300e0332ac7930467ade50ed20b83a175f8164fc35bb91735a138f", func := "breviary/breviarylaw26.FsckSmall", spec := "fsckSmall", inPlace := ["internal/bytealg.IndexByteString", "internal/bytealg.IndexString", "maps.clone"], unfollowed := true, recurses := true, named := ["breviary/api.ErrRange", "breviary/api.ErrRefused", "breviary/api.ErrIO", "breviary/api.ErrCrash", "breviary/api.ErrFull", "breviary/api.ErrMany", "breviary/api.ErrShape", "breviary/api.ErrNoEnt", "breviary/api.ErrEnd", "breviary/api.ErrLong", "breviary/api.ErrInval", "internal/bytealg.MaxLen", "internal/strconv.uint64pow10", "math/bits.deBruijn32tab", "math/bits.deBruijn64tab", "breviary/api.ErrExist", "breviary/api.ErrState", "breviary/api.ErrNotDir", "breviary/api.ErrIsDir", "breviary/api.ErrNotEmpty", "breviary/api.ErrLoop", "breviary/api.ErrMLink", "breviary/api.ErrFBig", "breviary/api.ErrNoSpc", "breviary/api.ErrMFile", "breviary/api.ErrBadF", "breviary/api.ErrWord", "breviary/api.ErrNumber"], plainKeys := false, apart := false, laid := [("math/bits.deBruijn32tab", laid_math_bits_deBruijn32tab), ("math/bits.deBruijn64tab", laid_math_bits_deBruijn64tab), ("internal/strconv.uint64pow10", laid_internal_strconv_uint64pow10), ("breviary/api.ErrEnd", laid_breviary_api_ErrEnd), ("breviary/api.ErrShape", laid_breviary_api_ErrShape), ("breviary/api.ErrRange", laid_breviary_api_ErrRange), ("breviary/api.ErrMany", laid_breviary_api_ErrMany), ("breviary/api.ErrFull", laid_breviary_api_ErrFull), ("breviary/api.ErrCrash", laid_breviary_api_ErrCrash), ("breviary/api.ErrIO", laid_breviary_api_ErrIO), ("breviary/api.ErrState", laid_breviary_api_ErrState), ("breviary/api.ErrNoEnt", laid_breviary_api_ErrNoEnt), ("breviary/api.ErrExist", laid_breviary_api_ErrExist), ("breviary/api.ErrNotDir", laid_breviary_api_ErrNotDir), ("breviary/api.ErrIsDir", laid_breviary_api_ErrIsDir), ("breviary/api.ErrNotEmpty", laid_breviary_api_ErrNotEmpty), ("breviary/api.ErrInval", laid_breviary_api_ErrInval), ("breviary/api.ErrLong", laid_breviary_api_ErrLong), ("breviary/api.ErrLoop", laid_breviary_api_ErrLoop), ("breviary/api.ErrMLink", laid_breviary_api_ErrMLink), ("breviary/api.ErrFBig", laid_breviary_api_ErrFBig), ("breviary/api.ErrNoSpc", laid_breviary_api_ErrNoSpc), ("breviary/api.ErrMFile", laid_breviary_api_ErrMFile), ("breviary/api.ErrBadF", laid_breviary_api_ErrBadF), ("breviary/api.ErrRefused", laid_breviary_api_ErrRefused), ("breviary/api.ErrWord", laid_breviary_api_ErrWord), ("breviary/api.ErrNumber", laid_breviary_api_ErrNumber)] }
def FsckSmallSaid : Prop := fsckSmallRow.holds Tryz.pinned (OpenSpec.ofChange fsckSmallSpec)

/-- ITS FALSE NEIGHBOUR: 'it returns false'. Refute it at one input. -/
def fsckSmallWrong : ChangeSpec := { name := "fsckSmall", fn := fun _ => fun
  | [d1, d2] => { results := [.lit (.bool false)], args := [d1, d2] }
  | _ => none }
def FsckSmallWrongFalsely : Prop := fsckSmallRow.holds Tryz.pinned (OpenSpec.ofChange fsckSmallWrong)

/- THE SECOND FORM. 'bulk': how many values and letters a reading holds, each counted each time it is reached (what is shared counts as often as it is met; a slice's spare places count too). A statement '..UptoSaid' is the law's where the arguments, and the package variables that the reading takes, are together of bulk at most 1048576: NARROWER than '..Said'. Prove '..Said' where nothing that the law and all that it calls make is longer than what came in: it says more and counts as full. Else prove '..UptoSaid'. A law counts once. -/
mutual
def uptoBulk {H : Type} : DataW H → Nat
  | .lit (.string bytes) => bytes.length + 1
  | .lit _ => 1
  | .nil => 1
  | .ptr d => uptoBulk d + 1
  | .slice elems spare => uptoBulkAll elems + uptoBulkAll spare + 1
  | .agg parts => uptoBulkAll parts + 1
  | .iface _ d => uptoBulk d + 1
  | .map entries => uptoBulkEntries entries + 1
  | .held _ => 1
def uptoBulkAll {H : Type} : List (DataW H) → Nat
  | [] => 0
  | d :: r => uptoBulk d + uptoBulkAll r
def uptoBulkEntries {H : Type} : List (Lit × DataW H) → Nat
  | [] => 0
  | x :: r => uptoBulkEntry x + uptoBulkEntries r
def uptoBulkEntry {H : Type} : Lit × DataW H → Nat
  | (.string bytes, d) => bytes.length + uptoBulk d + 1
  | (_, d) => uptoBulk d + 1
 end
def uptoSmall : (H : Type) → List (DataW H) → Bool := fun _ ds => decide (uptoBulkAll ds ≤ 1048576)
def OpenSpec.upto (s : _root_.Go.ChangeSpec) : _root_.Go.OpenSpec := { _root_.Go.OpenSpec.ofChange s with cond := some uptoSmall }

/-- 'breviarylaw26.FsckSmall', WHERE WHAT IT READS IS OF BULK AT MOST 1048576: true; the input reads as it did. -/
def fsckSmallUptoRow : OpenClaim := { program := "ytcjebpplmoakkaagreatdoor", sum := "632c0c8369300e0332ac7930467ade50ed20b83a175f8164fc35bb91735a138f", func := "breviary/breviarylaw26.FsckSmall", spec := "fsckSmall", inPlace := ["internal/bytealg.IndexByteString", "internal/bytealg.IndexString", "maps.clone"], unfollowed := true, recurses := true, named := ["breviary/api.ErrRange", "breviary/api.ErrRefused", "breviary/api.ErrIO", "breviary/api.ErrCrash", "breviary/api.ErrFull", "breviary/api.ErrMany", "breviary/api.ErrShape", "breviary/api.ErrNoEnt", "breviary/api.ErrEnd", "breviary/api.ErrLong", "breviary/api.ErrInval", "internal/bytealg.MaxLen", "internal/strconv.uint64pow10", "math/bits.deBruijn32tab", "math/bits.deBruijn64tab", "breviary/api.ErrExist", "breviary/api.ErrState", "breviary/api.ErrNotDir", "breviary/api.ErrIsDir", "breviary/api.ErrNotEmpty", "breviary/api.ErrLoop", "breviary/api.ErrMLink", "breviary/api.ErrFBig", "breviary/api.ErrNoSpc", "breviary/api.ErrMFile", "breviary/api.ErrBadF", "breviary/api.ErrWord", "breviary/api.ErrNumber"], plainKeys := false, apart := false, laid := [("math/bits.deBruijn32tab", laid_math_bits_deBruijn32tab), ("math/bits.deBruijn64tab", laid_math_bits_deBruijn64tab), ("internal/strconv.uint64pow10", laid_internal_strconv_uint64pow10), ("breviary/api.ErrEnd", laid_breviary_api_ErrEnd), ("breviary/api.ErrShape", laid_breviary_api_ErrShape), ("breviary/api.ErrRange", laid_breviary_api_ErrRange), ("breviary/api.ErrMany", laid_breviary_api_ErrMany), ("breviary/api.ErrFull", laid_breviary_api_ErrFull), ("breviary/api.ErrCrash", laid_breviary_api_ErrCrash), ("breviary/api.ErrIO", laid_breviary_api_ErrIO), ("breviary/api.ErrState", laid_breviary_api_ErrState), ("breviary/api.ErrNoEnt", laid_breviary_api_ErrNoEnt), ("breviary/api.ErrExist", laid_breviary_api_ErrExist), ("breviary/api.ErrNotDir", laid_breviary_api_ErrNotDir), ("breviary/api.ErrIsDir", laid_breviary_api_ErrIsDir), ("breviary/api.ErrNotEmpty", laid_breviary_api_ErrNotEmpty), ("breviary/api.ErrInval", laid_breviary_api_ErrInval), ("breviary/api.ErrLong", laid_breviary_api_ErrLong), ("breviary/api.ErrLoop", laid_breviary_api_ErrLoop), ("breviary/api.ErrMLink", laid_breviary_api_ErrMLink), ("breviary/api.ErrFBig", laid_breviary_api_ErrFBig), ("breviary/api.ErrNoSpc", laid_breviary_api_ErrNoSpc), ("breviary/api.ErrMFile", laid_breviary_api_ErrMFile), ("breviary/api.ErrBadF", laid_breviary_api_ErrBadF), ("breviary/api.ErrRefused", laid_breviary_api_ErrRefused), ("breviary/api.ErrWord", laid_breviary_api_ErrWord), ("breviary/api.ErrNumber", laid_breviary_api_ErrNumber)], narrowed := true }
def FsckSmallUptoSaid : Prop := fsckSmallUptoRow.holds Tryz.pinned (OpenSpec.upto fsckSmallSpec)

end Rows
end Go.Proofs.YtcjebpplmoakkaaGreatDoor
