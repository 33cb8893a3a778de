/-
  NARROWER THAN 'FOR EVERY INPUT', by the rows' own cells (each row's printed sentence says how): InterpTells: laid · InterpBounds: laid · InterpMore: laid · InterpInputs: laid · InterpDepth: laid · InterpArrays: laid · InterpAgain: laid.
  DERIVED. THE GIVEN ROWS OF THIS SEAT. 7 by the template 'for every input the law returns true; each argument reads behind the call as it read before'; 0 by the template 'total and deterministic' (their statements: YtdpimkbdieafgaaDoorTotals.lean).
  GIVEN WITH THE SEED: the statements are not yours to turn. If you find one false, say at which input.
  Laid BY PROGRAM, IN A SANDBOX (cutbox-rows.mjs): the forced cells as the released guide's own fill.sh prints them over the translation e8edf0ba65baf5a3… (all of the seat's roots in one cut). By AI agents, Wed Nov 11 2026. No macro, syntax, notation, axiom, sorry.
-/
import Derived.Test.YtdpimkbdieafgaaDoorChecked
import GoSem.Claim
import GoSem.ClaimJoined
import GoSem.ClaimMapViews
import Derived.JoinedTies
import Derived.KernelRfl
namespace Go.Proofs.YtdpimkbdieafgaaDoor
/- THE CELL 'sum', in the pinned program and in every row, IS THE sha256 OF THE DUMP (.gsa) THAT YtdpimkbdieafgaaDoorProg.lean LOADS. Nothing in Lean hashes anything: it is a label: what it is worth is what the hold of that sum in a sandbox is worth. -/
noncomputable def Tryd.pinned : Pinned := { name := "ytdpimkbdieafgaadoor", sum := "e8edf0ba65baf5a3b2059f195b260bf77e212a6d73e543fa6e34b9d4d5dbd279", checked := Tryd.checked }
namespace Rows
def none {H : Type} : Left H := { results := [], args := [] }

/- WHAT THE LISTED PACKAGE-LEVEL VARIABLES READ AS WHEN THE CALL BEGINS. Each datum BY PROGRAM (the guide's laid-datum.mjs) off the statement by which the dump's own 'gosem.cut.vars' lays the variable. In a bare row this is a premise. The card (YtdpimkbdieafgaaDoorCards.lean) ties it to the program's text. -/
def laid_evenhand_code_sorts {H : Type} : DataW H := .agg [.agg [.lit (.string [63]), .lit (.int .i64 0), .lit (.int .i64 0), .lit (.int .i64 (-1)), .lit (.int .i64 0)], .agg [.lit (.string [112, 117, 115, 104]), .lit (.int .i64 0), .lit (.int .i64 1), .lit (.int .i64 0), .lit (.int .i64 2)], .agg [.lit (.string [108, 111, 97, 100]), .lit (.int .i64 0), .lit (.int .i64 1), .lit (.int .i64 0), .lit (.int .i64 1)], .agg [.lit (.string [115, 116, 111, 114, 101]), .lit (.int .i64 1), .lit (.int .i64 0), .lit (.int .i64 0), .lit (.int .i64 1)], .agg [.lit (.string [110, 101, 103]), .lit (.int .i64 1), .lit (.int .i64 1), .lit (.int .i64 0), .lit (.int .i64 0)], .agg [.lit (.string [110, 111, 116]), .lit (.int .i64 1), .lit (.int .i64 1), .lit (.int .i64 0), .lit (.int .i64 0)], .agg [.lit (.string [97, 100, 100]), .lit (.int .i64 2), .lit (.int .i64 1), .lit (.int .i64 0), .lit (.int .i64 0)], .agg [.lit (.string [115, 117, 98]), .lit (.int .i64 2), .lit (.int .i64 1), .lit (.int .i64 0), .lit (.int .i64 0)], .agg [.lit (.string [109, 117, 108]), .lit (.int .i64 2), .lit (.int .i64 1), .lit (.int .i64 2), .lit (.int .i64 0)], .agg [.lit (.string [100, 105, 118]), .lit (.int .i64 2), .lit (.int .i64 1), .lit (.int .i64 7), .lit (.int .i64 0)], .agg [.lit (.string [109, 111, 100]), .lit (.int .i64 2), .lit (.int .i64 1), .lit (.int .i64 7), .lit (.int .i64 0)], .agg [.lit (.string [108, 101, 115, 115]), .lit (.int .i64 2), .lit (.int .i64 1), .lit (.int .i64 0), .lit (.int .i64 0)], .agg [.lit (.string [115, 97, 109, 101]), .lit (.int .i64 2), .lit (.int .i64 1), .lit (.int .i64 0), .lit (.int .i64 0)], .agg [.lit (.string [97, 110, 100]), .lit (.int .i64 2), .lit (.int .i64 1), .lit (.int .i64 0), .lit (.int .i64 0)], .agg [.lit (.string [111, 114]), .lit (.int .i64 2), .lit (.int .i64 1), .lit (.int .i64 0), .lit (.int .i64 0)], .agg [.lit (.string [106, 117, 109, 112]), .lit (.int .i64 0), .lit (.int .i64 0), .lit (.int .i64 0), .lit (.int .i64 1)], .agg [.lit (.string [122, 101, 114, 111]), .lit (.int .i64 1), .lit (.int .i64 0), .lit (.int .i64 0), .lit (.int .i64 1)], .agg [.lit (.string [99, 97, 108, 108]), .lit (.int .i64 0), .lit (.int .i64 1), .lit (.int .i64 9), .lit (.int .i64 1)], .agg [.lit (.string [114, 101, 116, 117, 114, 110]), .lit (.int .i64 1), .lit (.int .i64 0), .lit (.int .i64 1), .lit (.int .i64 0)], .agg [.lit (.string [112, 114, 105, 110, 116]), .lit (.int .i64 1), .lit (.int .i64 0), .lit (.int .i64 4), .lit (.int .i64 0)], .agg [.lit (.string [107, 101, 101, 112]), .lit (.int .i64 1), .lit (.int .i64 0), .lit (.int .i64 4), .lit (.int .i64 0)], .agg [.lit (.string [105, 110, 112, 117, 116]), .lit (.int .i64 0), .lit (.int .i64 0), .lit (.int .i64 3), .lit (.int .i64 3)], .agg [.lit (.string [97, 114, 114, 97, 121]), .lit (.int .i64 0), .lit (.int .i64 0), .lit (.int .i64 19), .lit (.int .i64 3)], .agg [.lit (.string [103, 101, 116]), .lit (.int .i64 1), .lit (.int .i64 1), .lit (.int .i64 2), .lit (.int .i64 1)], .agg [.lit (.string [115, 101, 116]), .lit (.int .i64 2), .lit (.int .i64 0), .lit (.int .i64 2), .lit (.int .i64 1)], .agg [.lit (.string [99, 108, 111, 99, 107]), .lit (.int .i64 0), .lit (.int .i64 1), .lit (.int .i64 1), .lit (.int .i64 0)]]
def laid_math_bits_deBruijn32tab {H : Type} : DataW H := .agg [.lit (.int .u8 0), .lit (.int .u8 1), .lit (.int .u8 28), .lit (.int .u8 2), .lit (.int .u8 29), .lit (.int .u8 14), .lit (.int .u8 24), .lit (.int .u8 3), .lit (.int .u8 30), .lit (.int .u8 22), .lit (.int .u8 20), .lit (.int .u8 15), .lit (.int .u8 25), .lit (.int .u8 17), .lit (.int .u8 4), .lit (.int .u8 8), .lit (.int .u8 31), .lit (.int .u8 27), .lit (.int .u8 13), .lit (.int .u8 23), .lit (.int .u8 21), .lit (.int .u8 19), .lit (.int .u8 16), .lit (.int .u8 7), .lit (.int .u8 26), .lit (.int .u8 12), .lit (.int .u8 18), .lit (.int .u8 6), .lit (.int .u8 11), .lit (.int .u8 5), .lit (.int .u8 10), .lit (.int .u8 9)]
def laid_math_bits_deBruijn64tab {H : Type} : DataW H := .agg [.lit (.int .u8 0), .lit (.int .u8 1), .lit (.int .u8 56), .lit (.int .u8 2), .lit (.int .u8 57), .lit (.int .u8 49), .lit (.int .u8 28), .lit (.int .u8 3), .lit (.int .u8 61), .lit (.int .u8 58), .lit (.int .u8 42), .lit (.int .u8 50), .lit (.int .u8 38), .lit (.int .u8 29), .lit (.int .u8 17), .lit (.int .u8 4), .lit (.int .u8 62), .lit (.int .u8 47), .lit (.int .u8 59), .lit (.int .u8 36), .lit (.int .u8 45), .lit (.int .u8 43), .lit (.int .u8 51), .lit (.int .u8 22), .lit (.int .u8 53), .lit (.int .u8 39), .lit (.int .u8 33), .lit (.int .u8 30), .lit (.int .u8 24), .lit (.int .u8 18), .lit (.int .u8 12), .lit (.int .u8 5), .lit (.int .u8 63), .lit (.int .u8 55), .lit (.int .u8 48), .lit (.int .u8 27), .lit (.int .u8 60), .lit (.int .u8 41), .lit (.int .u8 37), .lit (.int .u8 16), .lit (.int .u8 46), .lit (.int .u8 35), .lit (.int .u8 44), .lit (.int .u8 21), .lit (.int .u8 52), .lit (.int .u8 32), .lit (.int .u8 23), .lit (.int .u8 11), .lit (.int .u8 54), .lit (.int .u8 26), .lit (.int .u8 40), .lit (.int .u8 15), .lit (.int .u8 34), .lit (.int .u8 20), .lit (.int .u8 31), .lit (.int .u8 10), .lit (.int .u8 25), .lit (.int .u8 14), .lit (.int .u8 19), .lit (.int .u8 9), .lit (.int .u8 13), .lit (.int .u8 8), .lit (.int .u8 7), .lit (.int .u8 6)]
def laid_internal_strconv_uint64pow10 {H : Type} : DataW H := .agg [.lit (.int .u64 1), .lit (.int .u64 10), .lit (.int .u64 100), .lit (.int .u64 1000), .lit (.int .u64 10000), .lit (.int .u64 100000), .lit (.int .u64 1000000), .lit (.int .u64 10000000), .lit (.int .u64 100000000), .lit (.int .u64 1000000000), .lit (.int .u64 10000000000), .lit (.int .u64 100000000000), .lit (.int .u64 1000000000000), .lit (.int .u64 10000000000000), .lit (.int .u64 100000000000000), .lit (.int .u64 1000000000000000), .lit (.int .u64 10000000000000000), .lit (.int .u64 100000000000000000), .lit (.int .u64 1000000000000000000), .lit (.int .u64 10000000000000000000)]

/-- 'evenhandlaw14.InterpTells': WHATEVER THE INPUT: true; the input reads as it did. -/
def interpTellsSpec : ChangeSpec := { name := "interpTells", fn := fun _ => fun
  | [d1, d2, d3, d4] => { results := [.lit (.bool true)], args := [d1, d2, d3, d4] }
  | _ => none }
def interpTellsRow : OpenClaim := { program := "ytdpimkbdieafgaadoor", sum := "e8edf0ba65baf5a3b2059f195b260bf77e212a6d73e543fa6e34b9d4d5dbd279", func := "evenhand/evenhandlaw14.InterpTells", spec := "interpTells", unfollowed := true, recurses := true, named := ["evenhand/code.sorts"], apart := false, laid := [("evenhand/code.sorts", laid_evenhand_code_sorts)] }
def InterpTellsSaid : Prop := interpTellsRow.holds Tryd.pinned (OpenSpec.ofChange interpTellsSpec)

/-- ITS FALSE NEIGHBOUR: 'it returns false'. Refute it at one input. -/
def interpTellsWrong : ChangeSpec := { name := "interpTells", fn := fun _ => fun
  | [d1, d2, d3, d4] => { results := [.lit (.bool false)], args := [d1, d2, d3, d4] }
  | _ => none }
def InterpTellsWrongFalsely : Prop := interpTellsRow.holds Tryd.pinned (OpenSpec.ofChange interpTellsWrong)

/-- 'evenhandlaw14.InterpBounds': WHATEVER THE INPUT: true; the input reads as it did. -/
def interpBoundsSpec : ChangeSpec := { name := "interpBounds", fn := fun _ => fun
  | [d1, d2, d3, d4] => { results := [.lit (.bool true)], args := [d1, d2, d3, d4] }
  | _ => none }
def interpBoundsRow : OpenClaim := { program := "ytdpimkbdieafgaadoor", sum := "e8edf0ba65baf5a3b2059f195b260bf77e212a6d73e543fa6e34b9d4d5dbd279", func := "evenhand/evenhandlaw14.InterpBounds", spec := "interpBounds", unfollowed := true, recurses := true, named := ["evenhand/code.sorts"], apart := false, laid := [("evenhand/code.sorts", laid_evenhand_code_sorts)] }
def InterpBoundsSaid : Prop := interpBoundsRow.holds Tryd.pinned (OpenSpec.ofChange interpBoundsSpec)

/-- ITS FALSE NEIGHBOUR: 'it returns false'. Refute it at one input. -/
def interpBoundsWrong : ChangeSpec := { name := "interpBounds", fn := fun _ => fun
  | [d1, d2, d3, d4] => { results := [.lit (.bool false)], args := [d1, d2, d3, d4] }
  | _ => none }
def InterpBoundsWrongFalsely : Prop := interpBoundsRow.holds Tryd.pinned (OpenSpec.ofChange interpBoundsWrong)

/-- 'evenhandlaw14.InterpMore': WHATEVER THE INPUT: true; the input reads as it did. -/
def interpMoreSpec : ChangeSpec := { name := "interpMore", fn := fun _ => fun
  | [d1, d2, d3, d4, d5] => { results := [.lit (.bool true)], args := [d1, d2, d3, d4, d5] }
  | _ => none }
def interpMoreRow : OpenClaim := { program := "ytdpimkbdieafgaadoor", sum := "e8edf0ba65baf5a3b2059f195b260bf77e212a6d73e543fa6e34b9d4d5dbd279", func := "evenhand/evenhandlaw14.InterpMore", spec := "interpMore", unfollowed := true, recurses := true, named := ["evenhand/code.sorts"], apart := false, laid := [("evenhand/code.sorts", laid_evenhand_code_sorts)] }
def InterpMoreSaid : Prop := interpMoreRow.holds Tryd.pinned (OpenSpec.ofChange interpMoreSpec)

/-- ITS FALSE NEIGHBOUR: 'it returns false'. Refute it at one input. -/
def interpMoreWrong : ChangeSpec := { name := "interpMore", fn := fun _ => fun
  | [d1, d2, d3, d4, d5] => { results := [.lit (.bool false)], args := [d1, d2, d3, d4, d5] }
  | _ => none }
def InterpMoreWrongFalsely : Prop := interpMoreRow.holds Tryd.pinned (OpenSpec.ofChange interpMoreWrong)

/-- 'evenhandlaw14.InterpInputs': WHATEVER THE INPUT: true; the input reads as it did. -/
def interpInputsSpec : ChangeSpec := { name := "interpInputs", fn := fun _ => fun
  | [d1, d2] => { results := [.lit (.bool true)], args := [d1, d2] }
  | _ => none }
def interpInputsRow : OpenClaim := { program := "ytdpimkbdieafgaadoor", sum := "e8edf0ba65baf5a3b2059f195b260bf77e212a6d73e543fa6e34b9d4d5dbd279", func := "evenhand/evenhandlaw14.InterpInputs", spec := "interpInputs", unfollowed := true, recurses := true, named := ["evenhand/code.sorts"], apart := false, laid := [("evenhand/code.sorts", laid_evenhand_code_sorts)] }
def InterpInputsSaid : Prop := interpInputsRow.holds Tryd.pinned (OpenSpec.ofChange interpInputsSpec)

/-- ITS FALSE NEIGHBOUR: 'it returns false'. Refute it at one input. -/
def interpInputsWrong : ChangeSpec := { name := "interpInputs", fn := fun _ => fun
  | [d1, d2] => { results := [.lit (.bool false)], args := [d1, d2] }
  | _ => none }
def InterpInputsWrongFalsely : Prop := interpInputsRow.holds Tryd.pinned (OpenSpec.ofChange interpInputsWrong)

/-- 'evenhandlaw14.InterpDepth': WHATEVER THE INPUT: true; the input reads as it did. -/
def interpDepthSpec : ChangeSpec := { name := "interpDepth", fn := fun _ => fun
  | [d] => { results := [.lit (.bool true)], args := [d] }
  | _ => none }
def interpDepthRow : OpenClaim := { program := "ytdpimkbdieafgaadoor", sum := "e8edf0ba65baf5a3b2059f195b260bf77e212a6d73e543fa6e34b9d4d5dbd279", func := "evenhand/evenhandlaw14.InterpDepth", spec := "interpDepth", unfollowed := true, recurses := true, named := ["evenhand/code.sorts"], apart := false, laid := [("evenhand/code.sorts", laid_evenhand_code_sorts)] }
def InterpDepthSaid : Prop := interpDepthRow.holds Tryd.pinned (OpenSpec.ofChange interpDepthSpec)

/-- ITS FALSE NEIGHBOUR: 'it returns false'. Refute it at one input. -/
def interpDepthWrong : ChangeSpec := { name := "interpDepth", fn := fun _ => fun
  | [d] => { results := [.lit (.bool false)], args := [d] }
  | _ => none }
def InterpDepthWrongFalsely : Prop := interpDepthRow.holds Tryd.pinned (OpenSpec.ofChange interpDepthWrong)

/-- 'evenhandlaw14.InterpArrays': WHATEVER THE INPUT: true; the input reads as it did. -/
def interpArraysSpec : ChangeSpec := { name := "interpArrays", fn := fun _ => fun
  | [d1, d2, d3, d4, d5] => { results := [.lit (.bool true)], args := [d1, d2, d3, d4, d5] }
  | _ => none }
def interpArraysRow : OpenClaim := { program := "ytdpimkbdieafgaadoor", sum := "e8edf0ba65baf5a3b2059f195b260bf77e212a6d73e543fa6e34b9d4d5dbd279", func := "evenhand/evenhandlaw14.InterpArrays", spec := "interpArrays", unfollowed := true, recurses := true, named := ["evenhand/code.sorts"], apart := false, laid := [("evenhand/code.sorts", laid_evenhand_code_sorts)] }
def InterpArraysSaid : Prop := interpArraysRow.holds Tryd.pinned (OpenSpec.ofChange interpArraysSpec)

/-- ITS FALSE NEIGHBOUR: 'it returns false'. Refute it at one input. -/
def interpArraysWrong : ChangeSpec := { name := "interpArrays", fn := fun _ => fun
  | [d1, d2, d3, d4, d5] => { results := [.lit (.bool false)], args := [d1, d2, d3, d4, d5] }
  | _ => none }
def InterpArraysWrongFalsely : Prop := interpArraysRow.holds Tryd.pinned (OpenSpec.ofChange interpArraysWrong)

/-- 'evenhandlaw14.InterpAgain': WHATEVER THE INPUT: true; the input reads as it did. -/
def interpAgainSpec : ChangeSpec := { name := "interpAgain", fn := fun _ => fun
  | [d1, d2, d3, d4] => { results := [.lit (.bool true)], args := [d1, d2, d3, d4] }
  | _ => none }
def interpAgainRow : OpenClaim := { program := "ytdpimkbdieafgaadoor", sum := "e8edf0ba65baf5a3b2059f195b260bf77e212a6d73e543fa6e34b9d4d5dbd279", func := "evenhand/evenhandlaw14.InterpAgain", spec := "interpAgain", inPlace := ["internal/abi.NoEscape", "internal/bytealg.MakeNoZero"], unfollowed := true, recurses := true, named := ["evenhand/code.sorts", "internal/strconv.uint64pow10", "math/bits.deBruijn32tab", "math/bits.deBruijn64tab"], apart := false, laid := [("math/bits.deBruijn32tab", laid_math_bits_deBruijn32tab), ("math/bits.deBruijn64tab", laid_math_bits_deBruijn64tab), ("internal/strconv.uint64pow10", laid_internal_strconv_uint64pow10), ("evenhand/code.sorts", laid_evenhand_code_sorts)] }
def InterpAgainSaid : Prop := interpAgainRow.holds Tryd.pinned (OpenSpec.ofChange interpAgainSpec)

/-- ITS FALSE NEIGHBOUR: 'it returns false'. Refute it at one input. -/
def interpAgainWrong : ChangeSpec := { name := "interpAgain", fn := fun _ => fun
  | [d1, d2, d3, d4] => { results := [.lit (.bool false)], args := [d1, d2, d3, d4] }
  | _ => none }
def InterpAgainWrongFalsely : Prop := interpAgainRow.holds Tryd.pinned (OpenSpec.ofChange interpAgainWrong)

/- THE SECOND FORM. 'bulk': how many values and letters a reading holds, each counted each time it is reached (what is shared counts as often as it is met; a slice's spare places count too). A statement '..UptoSaid' is the law's where the arguments, and the package variables that the reading takes, are together of bulk at most 1048576: NARROWER than '..Said'. Prove '..Said' where nothing that the law and all that it calls make is longer than what came in: it says more and counts as full. Else prove '..UptoSaid'. A law counts once. -/
mutual
def uptoBulk {H : Type} : DataW H → Nat
  | .lit (.string bytes) => bytes.length + 1
  | .lit _ => 1
  | .nil => 1
  | .ptr d => uptoBulk d + 1
  | .slice elems spare => uptoBulkAll elems + uptoBulkAll spare + 1
  | .agg parts => uptoBulkAll parts + 1
  | .iface _ d => uptoBulk d + 1
  | .map entries => uptoBulkEntries entries + 1
  | .held _ => 1
def uptoBulkAll {H : Type} : List (DataW H) → Nat
  | [] => 0
  | d :: r => uptoBulk d + uptoBulkAll r
def uptoBulkEntries {H : Type} : List (Lit × DataW H) → Nat
  | [] => 0
  | x :: r => uptoBulkEntry x + uptoBulkEntries r
def uptoBulkEntry {H : Type} : Lit × DataW H → Nat
  | (.string bytes, d) => bytes.length + uptoBulk d + 1
  | (_, d) => uptoBulk d + 1
 end
def uptoSmall : (H : Type) → List (DataW H) → Bool := fun _ ds => decide (uptoBulkAll ds ≤ 1048576)
def OpenSpec.upto (s : _root_.Go.ChangeSpec) : _root_.Go.OpenSpec := { _root_.Go.OpenSpec.ofChange s with cond := some uptoSmall }

/-- 'evenhandlaw14.InterpTells', WHERE WHAT IT READS IS OF BULK AT MOST 1048576: true; the input reads as it did. -/
def interpTellsUptoRow : OpenClaim := { program := "ytdpimkbdieafgaadoor", sum := "e8edf0ba65baf5a3b2059f195b260bf77e212a6d73e543fa6e34b9d4d5dbd279", func := "evenhand/evenhandlaw14.InterpTells", spec := "interpTells", unfollowed := true, recurses := true, named := ["evenhand/code.sorts"], apart := false, laid := [("evenhand/code.sorts", laid_evenhand_code_sorts)], narrowed := true }
def InterpTellsUptoSaid : Prop := interpTellsUptoRow.holds Tryd.pinned (OpenSpec.upto interpTellsSpec)

/-- 'evenhandlaw14.InterpBounds', WHERE WHAT IT READS IS OF BULK AT MOST 1048576: true; the input reads as it did. -/
def interpBoundsUptoRow : OpenClaim := { program := "ytdpimkbdieafgaadoor", sum := "e8edf0ba65baf5a3b2059f195b260bf77e212a6d73e543fa6e34b9d4d5dbd279", func := "evenhand/evenhandlaw14.InterpBounds", spec := "interpBounds", unfollowed := true, recurses := true, named := ["evenhand/code.sorts"], apart := false, laid := [("evenhand/code.sorts", laid_evenhand_code_sorts)], narrowed := true }
def InterpBoundsUptoSaid : Prop := interpBoundsUptoRow.holds Tryd.pinned (OpenSpec.upto interpBoundsSpec)

/-- 'evenhandlaw14.InterpMore', WHERE WHAT IT READS IS OF BULK AT MOST 1048576: true; the input reads as it did. -/
def interpMoreUptoRow : OpenClaim := { program := "ytdpimkbdieafgaadoor", sum := "e8edf0ba65baf5a3b2059f195b260bf77e212a6d73e543fa6e34b9d4d5dbd279", func := "evenhand/evenhandlaw14.InterpMore", spec := "interpMore", unfollowed := true, recurses := true, named := ["evenhand/code.sorts"], apart := false, laid := [("evenhand/code.sorts", laid_evenhand_code_sorts)], narrowed := true }
def InterpMoreUptoSaid : Prop := interpMoreUptoRow.holds Tryd.pinned (OpenSpec.upto interpMoreSpec)

/-- 'evenhandlaw14.InterpInputs', WHERE WHAT IT READS IS OF BULK AT MOST 1048576: true; the input reads as it did. -/
def interpInputsUptoRow : OpenClaim := { program := "ytdpimkbdieafgaadoor", sum := "e8edf0ba65baf5a3b2059f195b260bf77e212a6d73e543fa6e34b9d4d5dbd279", func := "evenhand/evenhandlaw14.InterpInputs", spec := "interpInputs", unfollowed := true, recurses := true, named := ["evenhand/code.sorts"], apart := false, laid := [("evenhand/code.sorts", laid_evenhand_code_sorts)], narrowed := true }
def InterpInputsUptoSaid : Prop := interpInputsUptoRow.holds Tryd.pinned (OpenSpec.upto interpInputsSpec)

/-- 'evenhandlaw14.InterpDepth', WHERE WHAT IT READS IS OF BULK AT MOST 1048576: true; the input reads as it did. -/
def interpDepthUptoRow : OpenClaim := { program := "ytdpimkbdieafgaadoor", sum := "e8edf0ba65baf5a3b2059f195b260bf77e212a6d73e543fa6e34b9d4d5dbd279", func := "evenhand/evenhandlaw14.InterpDepth", spec := "interpDepth", unfollowed := true, recurses := true, named := ["evenhand/code.sorts"], apart := false, laid := [("evenhand/code.sorts", laid_evenhand_code_sorts)], narrowed := true }
def InterpDepthUptoSaid : Prop := interpDepthUptoRow.holds Tryd.pinned (OpenSpec.upto interpDepthSpec)

/-- 'evenhandlaw14.InterpArrays', WHERE WHAT IT READS IS OF BULK AT MOST 1048576: true; the input reads as it did. -/
def interpArraysUptoRow : OpenClaim := { program := "ytdpimkbdieafgaadoor", sum := "e8edf0ba65baf5a3b2059f195b260bf77e212a6d73e543fa6e34b9d4d5dbd279", func := "evenhand/evenhandlaw14.InterpArrays", spec := "interpArrays", unfollowed := true, recurses := true, named := ["evenhand/code.sorts"], apart := false, laid := [("evenhand/code.sorts", laid_evenhand_code_sorts)], narrowed := true }
def InterpArraysUptoSaid : Prop := interpArraysUptoRow.holds Tryd.pinned (OpenSpec.upto interpArraysSpec)

/-- 'evenhandlaw14.InterpAgain', WHERE WHAT IT READS IS OF BULK AT MOST 1048576: true; the input reads as it did. -/
def interpAgainUptoRow : OpenClaim := { program := "ytdpimkbdieafgaadoor", sum := "e8edf0ba65baf5a3b2059f195b260bf77e212a6d73e543fa6e34b9d4d5dbd279", func := "evenhand/evenhandlaw14.InterpAgain", spec := "interpAgain", inPlace := ["internal/abi.NoEscape", "internal/bytealg.MakeNoZero"], unfollowed := true, recurses := true, named := ["evenhand/code.sorts", "internal/strconv.uint64pow10", "math/bits.deBruijn32tab", "math/bits.deBruijn64tab"], apart := false, laid := [("math/bits.deBruijn32tab", laid_math_bits_deBruijn32tab), ("math/bits.deBruijn64tab", laid_math_bits_deBruijn64tab), ("internal/strconv.uint64pow10", laid_internal_strconv_uint64pow10), ("evenhand/code.sorts", laid_evenhand_code_sorts)], narrowed := true }
def InterpAgainUptoSaid : Prop := interpAgainUptoRow.holds Tryd.pinned (OpenSpec.upto interpAgainSpec)

end Rows
end Go.Proofs.YtdpimkbdieafgaaDoor
