/-
  NARROWER THAN 'FOR EVERY INPUT', by the rows' own cells (each row's printed sentence says how): BtreeRanges: laid · BtreeShapes: laid · BtreeDead: laid · BtreeEmpties: laid · BtreeLong: laid · BtreeOfNothing: laid · BtreeWhole: laid.
  DERIVED. THE GIVEN ROWS OF THIS SEAT. 7 by the template 'for every input the law returns true; each argument reads behind the call as it read before'; 0 by the template 'total and deterministic' (their statements: YtpfjhehjmhkbpaaGreatDoorTotals.lean).
  GIVEN WITH THE SEED: the statements are not yours to turn. If you find one false, say at which input.
  Laid BY PROGRAM, IN A SANDBOX (cutbox-rows.mjs): the forced cells as the released guide's own fill.sh prints them over the translation 18e5fa447cb187b5… (all of the seat's roots in one cut). By AI agents, Wed Nov 11 2026. No macro, syntax, notation, axiom, sorry.
-/
import Derived.Test.YtpfjhehjmhkbpaaGreatDoorChecked
import GoSem.Claim
import GoSem.ClaimJoined
import GoSem.ClaimMapViews
import Derived.JoinedTies
import Derived.KernelRfl
namespace Go.Proofs.YtpfjhehjmhkbpaaGreatDoor
/- THE CELL 'sum', in the pinned program and in every row, IS THE sha256 OF THE DUMP (.gsa) THAT YtpfjhehjmhkbpaaGreatDoorProg.lean LOADS. Nothing in Lean hashes anything: it is a label: what it is worth is what the hold of that sum in a sandbox is worth. -/
noncomputable def Tryz.pinned : Pinned := { name := "ytpfjhehjmhkbpaagreatdoor", sum := "18e5fa447cb187b5b8058a328a3e366eeb4c2404f9864073b029f25bd88c9cab", checked := Tryz.checked }
namespace Rows
def none {H : Type} : Left H := { results := [], args := [] }

/- WHAT THE LISTED PACKAGE-LEVEL VARIABLES READ AS WHEN THE CALL BEGINS. Each datum BY PROGRAM (the guide's laid-datum.mjs) off the statement by which the dump's own 'gosem.cut.vars' lays the variable. In a bare row this is a premise. The card (YtpfjhehjmhkbpaaGreatDoorCards.lean) ties it to the program's text. -/
def laid_math_bits_deBruijn32tab {H : Type} : DataW H := .agg [.lit (.int .u8 0), .lit (.int .u8 1), .lit (.int .u8 28), .lit (.int .u8 2), .lit (.int .u8 29), .lit (.int .u8 14), .lit (.int .u8 24), .lit (.int .u8 3), .lit (.int .u8 30), .lit (.int .u8 22), .lit (.int .u8 20), .lit (.int .u8 15), .lit (.int .u8 25), .lit (.int .u8 17), .lit (.int .u8 4), .lit (.int .u8 8), .lit (.int .u8 31), .lit (.int .u8 27), .lit (.int .u8 13), .lit (.int .u8 23), .lit (.int .u8 21), .lit (.int .u8 19), .lit (.int .u8 16), .lit (.int .u8 7), .lit (.int .u8 26), .lit (.int .u8 12), .lit (.int .u8 18), .lit (.int .u8 6), .lit (.int .u8 11), .lit (.int .u8 5), .lit (.int .u8 10), .lit (.int .u8 9)]
def laid_math_bits_deBruijn64tab {H : Type} : DataW H := .agg [.lit (.int .u8 0), .lit (.int .u8 1), .lit (.int .u8 56), .lit (.int .u8 2), .lit (.int .u8 57), .lit (.int .u8 49), .lit (.int .u8 28), .lit (.int .u8 3), .lit (.int .u8 61), .lit (.int .u8 58), .lit (.int .u8 42), .lit (.int .u8 50), .lit (.int .u8 38), .lit (.int .u8 29), .lit (.int .u8 17), .lit (.int .u8 4), .lit (.int .u8 62), .lit (.int .u8 47), .lit (.int .u8 59), .lit (.int .u8 36), .lit (.int .u8 45), .lit (.int .u8 43), .lit (.int .u8 51), .lit (.int .u8 22), .lit (.int .u8 53), .lit (.int .u8 39), .lit (.int .u8 33), .lit (.int .u8 30), .lit (.int .u8 24), .lit (.int .u8 18), .lit (.int .u8 12), .lit (.int .u8 5), .lit (.int .u8 63), .lit (.int .u8 55), .lit (.int .u8 48), .lit (.int .u8 27), .lit (.int .u8 60), .lit (.int .u8 41), .lit (.int .u8 37), .lit (.int .u8 16), .lit (.int .u8 46), .lit (.int .u8 35), .lit (.int .u8 44), .lit (.int .u8 21), .lit (.int .u8 52), .lit (.int .u8 32), .lit (.int .u8 23), .lit (.int .u8 11), .lit (.int .u8 54), .lit (.int .u8 26), .lit (.int .u8 40), .lit (.int .u8 15), .lit (.int .u8 34), .lit (.int .u8 20), .lit (.int .u8 31), .lit (.int .u8 10), .lit (.int .u8 25), .lit (.int .u8 14), .lit (.int .u8 19), .lit (.int .u8 9), .lit (.int .u8 13), .lit (.int .u8 8), .lit (.int .u8 7), .lit (.int .u8 6)]
def laid_internal_strconv_uint64pow10 {H : Type} : DataW H := .agg [.lit (.int .u64 1), .lit (.int .u64 10), .lit (.int .u64 100), .lit (.int .u64 1000), .lit (.int .u64 10000), .lit (.int .u64 100000), .lit (.int .u64 1000000), .lit (.int .u64 10000000), .lit (.int .u64 100000000), .lit (.int .u64 1000000000), .lit (.int .u64 10000000000), .lit (.int .u64 100000000000), .lit (.int .u64 1000000000000), .lit (.int .u64 10000000000000), .lit (.int .u64 100000000000000), .lit (.int .u64 1000000000000000), .lit (.int .u64 10000000000000000), .lit (.int .u64 100000000000000000), .lit (.int .u64 1000000000000000000), .lit (.int .u64 10000000000000000000)]

/-- 'pantrylaw10.BtreeRanges': WHATEVER THE INPUT: true; the input reads as it did. -/
def btreeRangesSpec : ChangeSpec := { name := "btreeRanges", fn := fun _ => fun
  | [d1, d2] => { results := [.lit (.bool true)], args := [d1, d2] }
  | _ => none }
def btreeRangesRow : OpenClaim := { program := "ytpfjhehjmhkbpaagreatdoor", sum := "18e5fa447cb187b5b8058a328a3e366eeb4c2404f9864073b029f25bd88c9cab", func := "pantry/pantrylaw10.BtreeRanges", spec := "btreeRanges", inPlace := ["sync/atomic.StoreUint64", "sync/atomic.StoreInt64", "sync/atomic.LoadUint64", "sync/atomic.LoadInt64", "slices.overlaps[string]", "slices.overlaps[pantry/btree.value]", "sync/atomic.AddInt64", "slices.overlaps[int]"], unfollowed := true, recurses := true, named := ["internal/strconv.uint64pow10", "math/bits.deBruijn32tab", "math/bits.deBruijn64tab"], apart := false, laid := [("math/bits.deBruijn32tab", laid_math_bits_deBruijn32tab), ("math/bits.deBruijn64tab", laid_math_bits_deBruijn64tab), ("internal/strconv.uint64pow10", laid_internal_strconv_uint64pow10)] }
def BtreeRangesSaid : Prop := btreeRangesRow.holds Tryz.pinned (OpenSpec.ofChange btreeRangesSpec)

/-- ITS FALSE NEIGHBOUR: 'it returns false'. Refute it at one input. -/
def btreeRangesWrong : ChangeSpec := { name := "btreeRanges", fn := fun _ => fun
  | [d1, d2] => { results := [.lit (.bool false)], args := [d1, d2] }
  | _ => none }
def BtreeRangesWrongFalsely : Prop := btreeRangesRow.holds Tryz.pinned (OpenSpec.ofChange btreeRangesWrong)

/-- 'pantrylaw10.BtreeShapes': WHATEVER THE INPUT: true; the input reads as it did. -/
def btreeShapesSpec : ChangeSpec := { name := "btreeShapes", fn := fun _ => fun
  | [d1, d2, d3] => { results := [.lit (.bool true)], args := [d1, d2, d3] }
  | _ => none }
def btreeShapesRow : OpenClaim := { program := "ytpfjhehjmhkbpaagreatdoor", sum := "18e5fa447cb187b5b8058a328a3e366eeb4c2404f9864073b029f25bd88c9cab", func := "pantry/pantrylaw10.BtreeShapes", spec := "btreeShapes", inPlace := ["sync/atomic.StoreUint64", "sync/atomic.StoreInt64", "sync/atomic.LoadUint64", "sync/atomic.LoadInt64", "slices.overlaps[string]", "slices.overlaps[pantry/btree.value]", "sync/atomic.AddInt64", "slices.overlaps[int]"], unfollowed := true, recurses := true, named := ["internal/strconv.uint64pow10", "math/bits.deBruijn32tab", "math/bits.deBruijn64tab"], apart := false, laid := [("math/bits.deBruijn32tab", laid_math_bits_deBruijn32tab), ("math/bits.deBruijn64tab", laid_math_bits_deBruijn64tab), ("internal/strconv.uint64pow10", laid_internal_strconv_uint64pow10)] }
def BtreeShapesSaid : Prop := btreeShapesRow.holds Tryz.pinned (OpenSpec.ofChange btreeShapesSpec)

/-- ITS FALSE NEIGHBOUR: 'it returns false'. Refute it at one input. -/
def btreeShapesWrong : ChangeSpec := { name := "btreeShapes", fn := fun _ => fun
  | [d1, d2, d3] => { results := [.lit (.bool false)], args := [d1, d2, d3] }
  | _ => none }
def BtreeShapesWrongFalsely : Prop := btreeShapesRow.holds Tryz.pinned (OpenSpec.ofChange btreeShapesWrong)

/-- 'pantrylaw10.BtreeDead': WHATEVER THE INPUT: true; the input reads as it did. -/
def btreeDeadSpec : ChangeSpec := { name := "btreeDead", fn := fun _ => fun
  | [d1, d2] => { results := [.lit (.bool true)], args := [d1, d2] }
  | _ => none }
def btreeDeadRow : OpenClaim := { program := "ytpfjhehjmhkbpaagreatdoor", sum := "18e5fa447cb187b5b8058a328a3e366eeb4c2404f9864073b029f25bd88c9cab", func := "pantry/pantrylaw10.BtreeDead", spec := "btreeDead", inPlace := ["sync/atomic.StoreUint64", "sync/atomic.StoreInt64", "sync/atomic.LoadUint64", "sync/atomic.LoadInt64", "slices.overlaps[string]", "slices.overlaps[pantry/btree.value]", "sync/atomic.AddInt64", "slices.overlaps[int]", "sync/atomic.LoadUint32", "(*internal/sync.Mutex).Lock", "internal/race.Disable", "sync/atomic.CompareAndSwapInt32", "internal/race.Enable", "internal/race.Acquire", "(*internal/sync.Mutex).lockSlow", "internal/sync.runtime_canSpin", "internal/sync.runtime_doSpin", "internal/sync.throw", "internal/sync.runtime_nanotime", "internal/sync.runtime_SemacquireMutex", "sync/atomic.AddInt32", "(*internal/sync.Mutex).Unlock", "internal/race.ReleaseMerge", "(*internal/sync.Mutex).unlockSlow", "internal/sync.fatal", "internal/sync.runtime_Semrelease", "sync/atomic.StoreUint32", "sync/atomic.LoadInt32"], unfollowed := true, recurses := true, named := ["internal/strconv.uint64pow10", "math/bits.deBruijn32tab", "math/bits.deBruijn64tab"], apart := false, laid := [("math/bits.deBruijn32tab", laid_math_bits_deBruijn32tab), ("math/bits.deBruijn64tab", laid_math_bits_deBruijn64tab), ("internal/strconv.uint64pow10", laid_internal_strconv_uint64pow10)] }
def BtreeDeadSaid : Prop := btreeDeadRow.holds Tryz.pinned (OpenSpec.ofChange btreeDeadSpec)

/-- ITS FALSE NEIGHBOUR: 'it returns false'. Refute it at one input. -/
def btreeDeadWrong : ChangeSpec := { name := "btreeDead", fn := fun _ => fun
  | [d1, d2] => { results := [.lit (.bool false)], args := [d1, d2] }
  | _ => none }
def BtreeDeadWrongFalsely : Prop := btreeDeadRow.holds Tryz.pinned (OpenSpec.ofChange btreeDeadWrong)

/-- 'pantrylaw10.BtreeEmpties': WHATEVER THE INPUT: true; the input reads as it did. -/
def btreeEmptiesSpec : ChangeSpec := { name := "btreeEmpties", fn := fun _ => fun
  | [d1, d2] => { results := [.lit (.bool true)], args := [d1, d2] }
  | _ => none }
def btreeEmptiesRow : OpenClaim := { program := "ytpfjhehjmhkbpaagreatdoor", sum := "18e5fa447cb187b5b8058a328a3e366eeb4c2404f9864073b029f25bd88c9cab", func := "pantry/pantrylaw10.BtreeEmpties", spec := "btreeEmpties", inPlace := ["sync/atomic.StoreUint64", "sync/atomic.StoreInt64", "sync/atomic.LoadUint64", "sync/atomic.LoadInt64", "slices.overlaps[string]", "slices.overlaps[pantry/btree.value]", "sync/atomic.AddInt64", "slices.overlaps[int]", "sync/atomic.LoadUint32", "(*internal/sync.Mutex).Lock", "internal/race.Disable", "sync/atomic.CompareAndSwapInt32", "internal/race.Enable", "internal/race.Acquire", "(*internal/sync.Mutex).lockSlow", "internal/sync.runtime_canSpin", "internal/sync.runtime_doSpin", "internal/sync.throw", "internal/sync.runtime_nanotime", "internal/sync.runtime_SemacquireMutex", "sync/atomic.AddInt32", "(*internal/sync.Mutex).Unlock", "internal/race.ReleaseMerge", "(*internal/sync.Mutex).unlockSlow", "internal/sync.fatal", "internal/sync.runtime_Semrelease", "sync/atomic.StoreUint32", "sync/atomic.LoadInt32"], unfollowed := true, recurses := true, named := ["internal/strconv.uint64pow10", "math/bits.deBruijn32tab", "math/bits.deBruijn64tab"], apart := false, laid := [("math/bits.deBruijn32tab", laid_math_bits_deBruijn32tab), ("math/bits.deBruijn64tab", laid_math_bits_deBruijn64tab), ("internal/strconv.uint64pow10", laid_internal_strconv_uint64pow10)] }
def BtreeEmptiesSaid : Prop := btreeEmptiesRow.holds Tryz.pinned (OpenSpec.ofChange btreeEmptiesSpec)

/-- ITS FALSE NEIGHBOUR: 'it returns false'. Refute it at one input. -/
def btreeEmptiesWrong : ChangeSpec := { name := "btreeEmpties", fn := fun _ => fun
  | [d1, d2] => { results := [.lit (.bool false)], args := [d1, d2] }
  | _ => none }
def BtreeEmptiesWrongFalsely : Prop := btreeEmptiesRow.holds Tryz.pinned (OpenSpec.ofChange btreeEmptiesWrong)

/-- 'pantrylaw10.BtreeLong': WHATEVER THE INPUT: true; the input reads as it did. -/
def btreeLongSpec : ChangeSpec := { name := "btreeLong", fn := fun _ => fun
  | [d1, d2] => { results := [.lit (.bool true)], args := [d1, d2] }
  | _ => none }
def btreeLongRow : OpenClaim := { program := "ytpfjhehjmhkbpaagreatdoor", sum := "18e5fa447cb187b5b8058a328a3e366eeb4c2404f9864073b029f25bd88c9cab", func := "pantry/pantrylaw10.BtreeLong", spec := "btreeLong", inPlace := ["sync/atomic.StoreUint64", "sync/atomic.StoreInt64", "sync/atomic.LoadUint64", "sync/atomic.LoadInt64", "slices.overlaps[string]", "slices.overlaps[pantry/btree.value]", "sync/atomic.AddInt64", "slices.overlaps[int]", "sync/atomic.LoadUint32", "(*internal/sync.Mutex).Lock", "internal/race.Disable", "sync/atomic.CompareAndSwapInt32", "internal/race.Enable", "internal/race.Acquire", "(*internal/sync.Mutex).lockSlow", "internal/sync.runtime_canSpin", "internal/sync.runtime_doSpin", "internal/sync.throw", "internal/sync.runtime_nanotime", "internal/sync.runtime_SemacquireMutex", "sync/atomic.AddInt32", "(*internal/sync.Mutex).Unlock", "internal/race.ReleaseMerge", "(*internal/sync.Mutex).unlockSlow", "internal/sync.fatal", "internal/sync.runtime_Semrelease", "sync/atomic.StoreUint32", "sync/atomic.LoadInt32"], unfollowed := true, recurses := true, named := ["internal/strconv.uint64pow10", "math/bits.deBruijn32tab", "math/bits.deBruijn64tab"], apart := false, laid := [("math/bits.deBruijn32tab", laid_math_bits_deBruijn32tab), ("math/bits.deBruijn64tab", laid_math_bits_deBruijn64tab), ("internal/strconv.uint64pow10", laid_internal_strconv_uint64pow10)] }
def BtreeLongSaid : Prop := btreeLongRow.holds Tryz.pinned (OpenSpec.ofChange btreeLongSpec)

/-- ITS FALSE NEIGHBOUR: 'it returns false'. Refute it at one input. -/
def btreeLongWrong : ChangeSpec := { name := "btreeLong", fn := fun _ => fun
  | [d1, d2] => { results := [.lit (.bool false)], args := [d1, d2] }
  | _ => none }
def BtreeLongWrongFalsely : Prop := btreeLongRow.holds Tryz.pinned (OpenSpec.ofChange btreeLongWrong)

/-- 'pantrylaw10.BtreeOfNothing': WHATEVER THE INPUT: true; the input reads as it did. -/
def btreeOfNothingSpec : ChangeSpec := { name := "btreeOfNothing", fn := fun _ => fun
  | [d1, d2] => { results := [.lit (.bool true)], args := [d1, d2] }
  | _ => none }
def btreeOfNothingRow : OpenClaim := { program := "ytpfjhehjmhkbpaagreatdoor", sum := "18e5fa447cb187b5b8058a328a3e366eeb4c2404f9864073b029f25bd88c9cab", func := "pantry/pantrylaw10.BtreeOfNothing", spec := "btreeOfNothing", inPlace := ["sync/atomic.StoreUint64", "sync/atomic.StoreInt64", "sync/atomic.LoadUint64", "sync/atomic.LoadInt64", "slices.overlaps[string]", "slices.overlaps[pantry/btree.value]", "sync/atomic.AddInt64", "slices.overlaps[int]", "sync/atomic.LoadUint32", "(*internal/sync.Mutex).Lock", "internal/race.Disable", "sync/atomic.CompareAndSwapInt32", "internal/race.Enable", "internal/race.Acquire", "(*internal/sync.Mutex).lockSlow", "internal/sync.runtime_canSpin", "internal/sync.runtime_doSpin", "internal/sync.throw", "internal/sync.runtime_nanotime", "internal/sync.runtime_SemacquireMutex", "sync/atomic.AddInt32", "(*internal/sync.Mutex).Unlock", "internal/race.ReleaseMerge", "(*internal/sync.Mutex).unlockSlow", "internal/sync.fatal", "internal/sync.runtime_Semrelease", "sync/atomic.StoreUint32", "sync/atomic.LoadInt32"], unfollowed := true, recurses := true, named := ["internal/strconv.uint64pow10", "math/bits.deBruijn32tab", "math/bits.deBruijn64tab"], apart := false, laid := [("math/bits.deBruijn32tab", laid_math_bits_deBruijn32tab), ("math/bits.deBruijn64tab", laid_math_bits_deBruijn64tab), ("internal/strconv.uint64pow10", laid_internal_strconv_uint64pow10)] }
def BtreeOfNothingSaid : Prop := btreeOfNothingRow.holds Tryz.pinned (OpenSpec.ofChange btreeOfNothingSpec)

/-- ITS FALSE NEIGHBOUR: 'it returns false'. Refute it at one input. -/
def btreeOfNothingWrong : ChangeSpec := { name := "btreeOfNothing", fn := fun _ => fun
  | [d1, d2] => { results := [.lit (.bool false)], args := [d1, d2] }
  | _ => none }
def BtreeOfNothingWrongFalsely : Prop := btreeOfNothingRow.holds Tryz.pinned (OpenSpec.ofChange btreeOfNothingWrong)

/-- 'pantrylaw10.BtreeWhole': WHATEVER THE INPUT: true; the input reads as it did. -/
def btreeWholeSpec : ChangeSpec := { name := "btreeWhole", fn := fun _ => fun
  | [d1, d2, d3] => { results := [.lit (.bool true)], args := [d1, d2, d3] }
  | _ => none }
def btreeWholeRow : OpenClaim := { program := "ytpfjhehjmhkbpaagreatdoor", sum := "18e5fa447cb187b5b8058a328a3e366eeb4c2404f9864073b029f25bd88c9cab", func := "pantry/pantrylaw10.BtreeWhole", spec := "btreeWhole", inPlace := ["sync/atomic.StoreUint64", "sync/atomic.StoreInt64", "sync/atomic.LoadUint64", "sync/atomic.LoadInt64", "slices.overlaps[string]", "slices.overlaps[pantry/btree.value]", "sync/atomic.AddInt64", "slices.overlaps[int]", "sync/atomic.LoadUint32", "(*internal/sync.Mutex).Lock", "internal/race.Disable", "sync/atomic.CompareAndSwapInt32", "internal/race.Enable", "internal/race.Acquire", "(*internal/sync.Mutex).lockSlow", "internal/sync.runtime_canSpin", "internal/sync.runtime_doSpin", "internal/sync.throw", "internal/sync.runtime_nanotime", "internal/sync.runtime_SemacquireMutex", "sync/atomic.AddInt32", "(*internal/sync.Mutex).Unlock", "internal/race.ReleaseMerge", "(*internal/sync.Mutex).unlockSlow", "internal/sync.fatal", "internal/sync.runtime_Semrelease", "sync/atomic.StoreUint32", "sync/atomic.LoadInt32"], unfollowed := true, recurses := true, named := ["internal/strconv.uint64pow10", "math/bits.deBruijn32tab", "math/bits.deBruijn64tab"], apart := false, laid := [("math/bits.deBruijn32tab", laid_math_bits_deBruijn32tab), ("math/bits.deBruijn64tab", laid_math_bits_deBruijn64tab), ("internal/strconv.uint64pow10", laid_internal_strconv_uint64pow10)] }
def BtreeWholeSaid : Prop := btreeWholeRow.holds Tryz.pinned (OpenSpec.ofChange btreeWholeSpec)

/-- ITS FALSE NEIGHBOUR: 'it returns false'. Refute it at one input. -/
def btreeWholeWrong : ChangeSpec := { name := "btreeWhole", fn := fun _ => fun
  | [d1, d2, d3] => { results := [.lit (.bool false)], args := [d1, d2, d3] }
  | _ => none }
def BtreeWholeWrongFalsely : Prop := btreeWholeRow.holds Tryz.pinned (OpenSpec.ofChange btreeWholeWrong)

/- THE SECOND FORM. 'bulk': how many values and letters a reading holds, each counted each time it is reached (what is shared counts as often as it is met; a slice's spare places count too). A statement '..UptoSaid' is the law's where the arguments, and the package variables that the reading takes, are together of bulk at most 1048576: NARROWER than '..Said'. Prove '..Said' where nothing that the law and all that it calls make is longer than what came in: it says more and counts as full. Else prove '..UptoSaid'. A law counts once. -/
mutual
def uptoBulk {H : Type} : DataW H → Nat
  | .lit (.string bytes) => bytes.length + 1
  | .lit _ => 1
  | .nil => 1
  | .ptr d => uptoBulk d + 1
  | .slice elems spare => uptoBulkAll elems + uptoBulkAll spare + 1
  | .agg parts => uptoBulkAll parts + 1
  | .iface _ d => uptoBulk d + 1
  | .map entries => uptoBulkEntries entries + 1
  | .held _ => 1
def uptoBulkAll {H : Type} : List (DataW H) → Nat
  | [] => 0
  | d :: r => uptoBulk d + uptoBulkAll r
def uptoBulkEntries {H : Type} : List (Lit × DataW H) → Nat
  | [] => 0
  | x :: r => uptoBulkEntry x + uptoBulkEntries r
def uptoBulkEntry {H : Type} : Lit × DataW H → Nat
  | (.string bytes, d) => bytes.length + uptoBulk d + 1
  | (_, d) => uptoBulk d + 1
 end
def uptoSmall : (H : Type) → List (DataW H) → Bool := fun _ ds => decide (uptoBulkAll ds ≤ 1048576)
def OpenSpec.upto (s : _root_.Go.ChangeSpec) : _root_.Go.OpenSpec := { _root_.Go.OpenSpec.ofChange s with cond := some uptoSmall }

/-- 'pantrylaw10.BtreeRanges', WHERE WHAT IT READS IS OF BULK AT MOST 1048576: true; the input reads as it did. -/
def btreeRangesUptoRow : OpenClaim := { program := "ytpfjhehjmhkbpaagreatdoor", sum := "18e5fa447cb187b5b8058a328a3e366eeb4c2404f9864073b029f25bd88c9cab", func := "pantry/pantrylaw10.BtreeRanges", spec := "btreeRanges", inPlace := ["sync/atomic.StoreUint64", "sync/atomic.StoreInt64", "sync/atomic.LoadUint64", "sync/atomic.LoadInt64", "slices.overlaps[string]", "slices.overlaps[pantry/btree.value]", "sync/atomic.AddInt64", "slices.overlaps[int]"], unfollowed := true, recurses := true, named := ["internal/strconv.uint64pow10", "math/bits.deBruijn32tab", "math/bits.deBruijn64tab"], apart := false, laid := [("math/bits.deBruijn32tab", laid_math_bits_deBruijn32tab), ("math/bits.deBruijn64tab", laid_math_bits_deBruijn64tab), ("internal/strconv.uint64pow10", laid_internal_strconv_uint64pow10)], narrowed := true }
def BtreeRangesUptoSaid : Prop := btreeRangesUptoRow.holds Tryz.pinned (OpenSpec.upto btreeRangesSpec)

/-- 'pantrylaw10.BtreeShapes', WHERE WHAT IT READS IS OF BULK AT MOST 1048576: true; the input reads as it did. -/
def btreeShapesUptoRow : OpenClaim := { program := "ytpfjhehjmhkbpaagreatdoor", sum := "18e5fa447cb187b5b8058a328a3e366eeb4c2404f9864073b029f25bd88c9cab", func := "pantry/pantrylaw10.BtreeShapes", spec := "btreeShapes", inPlace := ["sync/atomic.StoreUint64", "sync/atomic.StoreInt64", "sync/atomic.LoadUint64", "sync/atomic.LoadInt64", "slices.overlaps[string]", "slices.overlaps[pantry/btree.value]", "sync/atomic.AddInt64", "slices.overlaps[int]"], unfollowed := true, recurses := true, named := ["internal/strconv.uint64pow10", "math/bits.deBruijn32tab", "math/bits.deBruijn64tab"], apart := false, laid := [("math/bits.deBruijn32tab", laid_math_bits_deBruijn32tab), ("math/bits.deBruijn64tab", laid_math_bits_deBruijn64tab), ("internal/strconv.uint64pow10", laid_internal_strconv_uint64pow10)], narrowed := true }
def BtreeShapesUptoSaid : Prop := btreeShapesUptoRow.holds Tryz.pinned (OpenSpec.upto btreeShapesSpec)

/-- 'pantrylaw10.BtreeDead', WHERE WHAT IT READS IS OF BULK AT MOST 1048576: true; the input reads as it did. -/
def btreeDeadUptoRow : OpenClaim := { program := "ytpfjhehjmhkbpaagreatdoor", sum := "18e5fa447cb187b5b8058a328a3e366eeb4c2404f9864073b029f25bd88c9cab", func := "pantry/pantrylaw10.BtreeDead", spec := "btreeDead", inPlace := ["sync/atomic.StoreUint64", "sync/atomic.StoreInt64", "sync/atomic.LoadUint64", "sync/atomic.LoadInt64", "slices.overlaps[string]", "slices.overlaps[pantry/btree.value]", "sync/atomic.AddInt64", "slices.overlaps[int]", "sync/atomic.LoadUint32", "(*internal/sync.Mutex).Lock", "internal/race.Disable", "sync/atomic.CompareAndSwapInt32", "internal/race.Enable", "internal/race.Acquire", "(*internal/sync.Mutex).lockSlow", "internal/sync.runtime_canSpin", "internal/sync.runtime_doSpin", "internal/sync.throw", "internal/sync.runtime_nanotime", "internal/sync.runtime_SemacquireMutex", "sync/atomic.AddInt32", "(*internal/sync.Mutex).Unlock", "internal/race.ReleaseMerge", "(*internal/sync.Mutex).unlockSlow", "internal/sync.fatal", "internal/sync.runtime_Semrelease", "sync/atomic.StoreUint32", "sync/atomic.LoadInt32"], unfollowed := true, recurses := true, named := ["internal/strconv.uint64pow10", "math/bits.deBruijn32tab", "math/bits.deBruijn64tab"], apart := false, laid := [("math/bits.deBruijn32tab", laid_math_bits_deBruijn32tab), ("math/bits.deBruijn64tab", laid_math_bits_deBruijn64tab), ("internal/strconv.uint64pow10", laid_internal_strconv_uint64pow10)], narrowed := true }
def BtreeDeadUptoSaid : Prop := btreeDeadUptoRow.holds Tryz.pinned (OpenSpec.upto btreeDeadSpec)

/-- 'pantrylaw10.BtreeEmpties', WHERE WHAT IT READS IS OF BULK AT MOST 1048576: true; the input reads as it did. -/
def btreeEmptiesUptoRow : OpenClaim := { program := "ytpfjhehjmhkbpaagreatdoor", sum := "18e5fa447cb187b5b8058a328a3e366eeb4c2404f9864073b029f25bd88c9cab", func := "pantry/pantrylaw10.BtreeEmpties", spec := "btreeEmpties", inPlace := ["sync/atomic.StoreUint64", "sync/atomic.StoreInt64", "sync/atomic.LoadUint64", "sync/atomic.LoadInt64", "slices.overlaps[string]", "slices.overlaps[pantry/btree.value]", "sync/atomic.AddInt64", "slices.overlaps[int]", "sync/atomic.LoadUint32", "(*internal/sync.Mutex).Lock", "internal/race.Disable", "sync/atomic.CompareAndSwapInt32", "internal/race.Enable", "internal/race.Acquire", "(*internal/sync.Mutex).lockSlow", "internal/sync.runtime_canSpin", "internal/sync.runtime_doSpin", "internal/sync.throw", "internal/sync.runtime_nanotime", "internal/sync.runtime_SemacquireMutex", "sync/atomic.AddInt32", "(*internal/sync.Mutex).Unlock", "internal/race.ReleaseMerge", "(*internal/sync.Mutex).unlockSlow", "internal/sync.fatal", "internal/sync.runtime_Semrelease", "sync/atomic.StoreUint32", "sync/atomic.LoadInt32"], unfollowed := true, recurses := true, named := ["internal/strconv.uint64pow10", "math/bits.deBruijn32tab", "math/bits.deBruijn64tab"], apart := false, laid := [("math/bits.deBruijn32tab", laid_math_bits_deBruijn32tab), ("math/bits.deBruijn64tab", laid_math_bits_deBruijn64tab), ("internal/strconv.uint64pow10", laid_internal_strconv_uint64pow10)], narrowed := true }
def BtreeEmptiesUptoSaid : Prop := btreeEmptiesUptoRow.holds Tryz.pinned (OpenSpec.upto btreeEmptiesSpec)

/-- 'pantrylaw10.BtreeLong', WHERE WHAT IT READS IS OF BULK AT MOST 1048576: true; the input reads as it did. -/
def btreeLongUptoRow : OpenClaim := { program := "ytpfjhehjmhkbpaagreatdoor", sum := "18e5fa447cb187b5b8058a328a3e366eeb4c2404f9864073b029f25bd88c9cab", func := "pantry/pantrylaw10.BtreeLong", spec := "btreeLong", inPlace := ["sync/atomic.StoreUint64", "sync/atomic.StoreInt64", "sync/atomic.LoadUint64", "sync/atomic.LoadInt64", "slices.overlaps[string]", "slices.overlaps[pantry/btree.value]", "sync/atomic.AddInt64", "slices.overlaps[int]", "sync/atomic.LoadUint32", "(*internal/sync.Mutex).Lock", "internal/race.Disable", "sync/atomic.CompareAndSwapInt32", "internal/race.Enable", "internal/race.Acquire", "(*internal/sync.Mutex).lockSlow", "internal/sync.runtime_canSpin", "internal/sync.runtime_doSpin", "internal/sync.throw", "internal/sync.runtime_nanotime", "internal/sync.runtime_SemacquireMutex", "sync/atomic.AddInt32", "(*internal/sync.Mutex).Unlock", "internal/race.ReleaseMerge", "(*internal/sync.Mutex).unlockSlow", "internal/sync.fatal", "internal/sync.runtime_Semrelease", "sync/atomic.StoreUint32", "sync/atomic.LoadInt32"], unfollowed := true, recurses := true, named := ["internal/strconv.uint64pow10", "math/bits.deBruijn32tab", "math/bits.deBruijn64tab"], apart := false, laid := [("math/bits.deBruijn32tab", laid_math_bits_deBruijn32tab), ("math/bits.deBruijn64tab", laid_math_bits_deBruijn64tab), ("internal/strconv.uint64pow10", laid_internal_strconv_uint64pow10)], narrowed := true }
def BtreeLongUptoSaid : Prop := btreeLongUptoRow.holds Tryz.pinned (OpenSpec.upto btreeLongSpec)

/-- 'pantrylaw10.BtreeOfNothing', WHERE WHAT IT READS IS OF BULK AT MOST 1048576: true; the input reads as it did. -/
def btreeOfNothingUptoRow : OpenClaim := { program := "ytpfjhehjmhkbpaagreatdoor", sum := "18e5fa447cb187b5b8058a328a3e366eeb4c2404f9864073b029f25bd88c9cab", func := "pantry/pantrylaw10.BtreeOfNothing", spec := "btreeOfNothing", inPlace := ["sync/atomic.StoreUint64", "sync/atomic.StoreInt64", "sync/atomic.LoadUint64", "sync/atomic.LoadInt64", "slices.overlaps[string]", "slices.overlaps[pantry/btree.value]", "sync/atomic.AddInt64", "slices.overlaps[int]", "sync/atomic.LoadUint32", "(*internal/sync.Mutex).Lock", "internal/race.Disable", "sync/atomic.CompareAndSwapInt32", "internal/race.Enable", "internal/race.Acquire", "(*internal/sync.Mutex).lockSlow", "internal/sync.runtime_canSpin", "internal/sync.runtime_doSpin", "internal/sync.throw", "internal/sync.runtime_nanotime", "internal/sync.runtime_SemacquireMutex", "sync/atomic.AddInt32", "(*internal/sync.Mutex).Unlock", "internal/race.ReleaseMerge", "(*internal/sync.Mutex).unlockSlow", "internal/sync.fatal", "internal/sync.runtime_Semrelease", "sync/atomic.StoreUint32", "sync/atomic.LoadInt32"], unfollowed := true, recurses := true, named := ["internal/strconv.uint64pow10", "math/bits.deBruijn32tab", "math/bits.deBruijn64tab"], apart := false, laid := [("math/bits.deBruijn32tab", laid_math_bits_deBruijn32tab), ("math/bits.deBruijn64tab", laid_math_bits_deBruijn64tab), ("internal/strconv.uint64pow10", laid_internal_strconv_uint64pow10)], narrowed := true }
def BtreeOfNothingUptoSaid : Prop := btreeOfNothingUptoRow.holds Tryz.pinned (OpenSpec.upto btreeOfNothingSpec)

/-- 'pantrylaw10.BtreeWhole', WHERE WHAT IT READS IS OF BULK AT MOST 1048576: true; the input reads as it did. -/
def btreeWholeUptoRow : OpenClaim := { program := "ytpfjhehjmhkbpaagreatdoor", sum := "18e5fa447cb187b5b8058a328a3e366eeb4c2404f9864073b029f25bd88c9cab", func := "pantry/pantrylaw10.BtreeWhole", spec := "btreeWhole", inPlace := ["sync/atomic.StoreUint64", "sync/atomic.StoreInt64", "sync/atomic.LoadUint64", "sync/atomic.LoadInt64", "slices.overlaps[string]", "slices.overlaps[pantry/btree.value]", "sync/atomic.AddInt64", "slices.overlaps[int]", "sync/atomic.LoadUint32", "(*internal/sync.Mutex).Lock", "internal/race.Disable", "sync/atomic.CompareAndSwapInt32", "internal/race.Enable", "internal/race.Acquire", "(*internal/sync.Mutex).lockSlow", "internal/sync.runtime_canSpin", "internal/sync.runtime_doSpin", "internal/sync.throw", "internal/sync.runtime_nanotime", "internal/sync.runtime_SemacquireMutex", "sync/atomic.AddInt32", "(*internal/sync.Mutex).Unlock", "internal/race.ReleaseMerge", "(*internal/sync.Mutex).unlockSlow", "internal/sync.fatal", "internal/sync.runtime_Semrelease", "sync/atomic.StoreUint32", "sync/atomic.LoadInt32"], unfollowed := true, recurses := true, named := ["internal/strconv.uint64pow10", "math/bits.deBruijn32tab", "math/bits.deBruijn64tab"], apart := false, laid := [("math/bits.deBruijn32tab", laid_math_bits_deBruijn32tab), ("math/bits.deBruijn64tab", laid_math_bits_deBruijn64tab), ("internal/strconv.uint64pow10", laid_internal_strconv_uint64pow10)], narrowed := true }
def BtreeWholeUptoSaid : Prop := btreeWholeUptoRow.holds Tryz.pinned (OpenSpec.upto btreeWholeSpec)

end Rows
end Go.Proofs.YtpfjhehjmhkbpaaGreatDoor
