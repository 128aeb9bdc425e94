/-
  NARROWER THAN 'FOR EVERY INPUT', by the rows' own cells (each row's printed sentence says how): IntervalPrefixes: laid · IntervalNormalizes: laid · IntervalShortest: laid · IntervalOf: laid · IntervalSizes: laid · IntervalExact: laid · IntervalAlgebra: laid · IntervalCombines: laid.
  DERIVED. THE GIVEN ROWS OF THIS SEAT. 8 by the template 'for every input the law returns true; each argument reads behind the call as it read before'; 0 by the template 'total and deterministic' (their statements: YtpggnodnpjejlaaDoorTotals.lean).
  GIVEN WITH THE SEED: the statements are not yours to turn. If you find one false, say at which input.
  Laid BY PROGRAM, IN A SANDBOX (cutbox-rows.mjs): the forced cells as the released guide's own fill.sh prints them over the translation 5d1f844e1659d720… (all of the seat's roots in one cut). By AI agents, Wed Nov 11 2026. No macro, syntax, notation, axiom, sorry.
-/
import Derived.Test.YtpggnodnpjejlaaDoorChecked
import GoSem.Claim
import GoSem.ClaimJoined
import GoSem.ClaimMapViews
import Derived.JoinedTies
import Derived.KernelRfl
namespace Go.Proofs.YtpggnodnpjejlaaDoor
/- THE CELL 'sum', in the pinned program and in every row, IS THE sha256 OF THE DUMP (.gsa) THAT YtpggnodnpjejlaaDoorProg.lean LOADS. Nothing in Lean hashes anything: it is a label: what it is worth is what the hold of that sum in a sandbox is worth. -/
noncomputable def Tryd.pinned : Pinned := { name := "ytpggnodnpjejlaadoor", sum := "5d1f844e1659d720f1bc1eb434ceba207cb68b77a55d5f5fec1b30e86d524de4", checked := Tryd.checked }
namespace Rows
def none {H : Type} : Left H := { results := [], args := [] }

/- WHAT THE LISTED PACKAGE-LEVEL VARIABLES READ AS WHEN THE CALL BEGINS. Each datum BY PROGRAM (the guide's laid-datum.mjs) off the statement by which the dump's own 'gosem.cut.vars' lays the variable. In a bare row this is a premise. The card (YtpggnodnpjejlaaDoorCards.lean) ties it to the program's text. -/
def laid_math_bits_deBruijn64tab {H : Type} : DataW H := .agg [.lit (.int .u8 0), .lit (.int .u8 1), .lit (.int .u8 56), .lit (.int .u8 2), .lit (.int .u8 57), .lit (.int .u8 49), .lit (.int .u8 28), .lit (.int .u8 3), .lit (.int .u8 61), .lit (.int .u8 58), .lit (.int .u8 42), .lit (.int .u8 50), .lit (.int .u8 38), .lit (.int .u8 29), .lit (.int .u8 17), .lit (.int .u8 4), .lit (.int .u8 62), .lit (.int .u8 47), .lit (.int .u8 59), .lit (.int .u8 36), .lit (.int .u8 45), .lit (.int .u8 43), .lit (.int .u8 51), .lit (.int .u8 22), .lit (.int .u8 53), .lit (.int .u8 39), .lit (.int .u8 33), .lit (.int .u8 30), .lit (.int .u8 24), .lit (.int .u8 18), .lit (.int .u8 12), .lit (.int .u8 5), .lit (.int .u8 63), .lit (.int .u8 55), .lit (.int .u8 48), .lit (.int .u8 27), .lit (.int .u8 60), .lit (.int .u8 41), .lit (.int .u8 37), .lit (.int .u8 16), .lit (.int .u8 46), .lit (.int .u8 35), .lit (.int .u8 44), .lit (.int .u8 21), .lit (.int .u8 52), .lit (.int .u8 32), .lit (.int .u8 23), .lit (.int .u8 11), .lit (.int .u8 54), .lit (.int .u8 26), .lit (.int .u8 40), .lit (.int .u8 15), .lit (.int .u8 34), .lit (.int .u8 20), .lit (.int .u8 31), .lit (.int .u8 10), .lit (.int .u8 25), .lit (.int .u8 14), .lit (.int .u8 19), .lit (.int .u8 9), .lit (.int .u8 13), .lit (.int .u8 8), .lit (.int .u8 7), .lit (.int .u8 6)]

/-- 'netverifylaw3.IntervalPrefixes': WHATEVER THE INPUT: true; the input reads as it did. -/
def intervalPrefixesSpec : ChangeSpec := { name := "intervalPrefixes", fn := fun _ => fun
  | [d1, d2] => { results := [.lit (.bool true)], args := [d1, d2] }
  | _ => none }
def intervalPrefixesRow : OpenClaim := { program := "ytpggnodnpjejlaadoor", sum := "5d1f844e1659d720f1bc1eb434ceba207cb68b77a55d5f5fec1b30e86d524de4", func := "netverify/netverifylaw3.IntervalPrefixes", spec := "intervalPrefixes", unfollowed := true, recurses := true, named := ["math/bits.deBruijn64tab"], apart := false, laid := [("math/bits.deBruijn64tab", laid_math_bits_deBruijn64tab)] }
def IntervalPrefixesSaid : Prop := intervalPrefixesRow.holds Tryd.pinned (OpenSpec.ofChange intervalPrefixesSpec)

/-- ITS FALSE NEIGHBOUR: 'it returns false'. Refute it at one input. -/
def intervalPrefixesWrong : ChangeSpec := { name := "intervalPrefixes", fn := fun _ => fun
  | [d1, d2] => { results := [.lit (.bool false)], args := [d1, d2] }
  | _ => none }
def IntervalPrefixesWrongFalsely : Prop := intervalPrefixesRow.holds Tryd.pinned (OpenSpec.ofChange intervalPrefixesWrong)

/-- 'netverifylaw3.IntervalNormalizes': WHATEVER THE INPUT: true; the input reads as it did. -/
def intervalNormalizesSpec : ChangeSpec := { name := "intervalNormalizes", fn := fun _ => fun
  | [d1, d2] => { results := [.lit (.bool true)], args := [d1, d2] }
  | _ => none }
def intervalNormalizesRow : OpenClaim := { program := "ytpggnodnpjejlaadoor", sum := "5d1f844e1659d720f1bc1eb434ceba207cb68b77a55d5f5fec1b30e86d524de4", func := "netverify/netverifylaw3.IntervalNormalizes", spec := "intervalNormalizes", unfollowed := true, recurses := true, named := ["math/bits.deBruijn64tab"], apart := false, laid := [("math/bits.deBruijn64tab", laid_math_bits_deBruijn64tab)] }
def IntervalNormalizesSaid : Prop := intervalNormalizesRow.holds Tryd.pinned (OpenSpec.ofChange intervalNormalizesSpec)

/-- ITS FALSE NEIGHBOUR: 'it returns false'. Refute it at one input. -/
def intervalNormalizesWrong : ChangeSpec := { name := "intervalNormalizes", fn := fun _ => fun
  | [d1, d2] => { results := [.lit (.bool false)], args := [d1, d2] }
  | _ => none }
def IntervalNormalizesWrongFalsely : Prop := intervalNormalizesRow.holds Tryd.pinned (OpenSpec.ofChange intervalNormalizesWrong)

/-- 'netverifylaw3.IntervalShortest': WHATEVER THE INPUT: true; the input reads as it did. -/
def intervalShortestSpec : ChangeSpec := { name := "intervalShortest", fn := fun _ => fun
  | [d] => { results := [.lit (.bool true)], args := [d] }
  | _ => none }
def intervalShortestRow : OpenClaim := { program := "ytpggnodnpjejlaadoor", sum := "5d1f844e1659d720f1bc1eb434ceba207cb68b77a55d5f5fec1b30e86d524de4", func := "netverify/netverifylaw3.IntervalShortest", spec := "intervalShortest", unfollowed := true, recurses := true, named := ["math/bits.deBruijn64tab"], apart := false, laid := [("math/bits.deBruijn64tab", laid_math_bits_deBruijn64tab)] }
def IntervalShortestSaid : Prop := intervalShortestRow.holds Tryd.pinned (OpenSpec.ofChange intervalShortestSpec)

/-- ITS FALSE NEIGHBOUR: 'it returns false'. Refute it at one input. -/
def intervalShortestWrong : ChangeSpec := { name := "intervalShortest", fn := fun _ => fun
  | [d] => { results := [.lit (.bool false)], args := [d] }
  | _ => none }
def IntervalShortestWrongFalsely : Prop := intervalShortestRow.holds Tryd.pinned (OpenSpec.ofChange intervalShortestWrong)

/-- 'netverifylaw3.IntervalOf': WHATEVER THE INPUT: true; the input reads as it did. -/
def intervalOfSpec : ChangeSpec := { name := "intervalOf", fn := fun _ => fun
  | [d1, d2] => { results := [.lit (.bool true)], args := [d1, d2] }
  | _ => none }
def intervalOfRow : OpenClaim := { program := "ytpggnodnpjejlaadoor", sum := "5d1f844e1659d720f1bc1eb434ceba207cb68b77a55d5f5fec1b30e86d524de4", func := "netverify/netverifylaw3.IntervalOf", spec := "intervalOf", unfollowed := true, recurses := true, named := ["math/bits.deBruijn64tab"], apart := false, laid := [("math/bits.deBruijn64tab", laid_math_bits_deBruijn64tab)] }
def IntervalOfSaid : Prop := intervalOfRow.holds Tryd.pinned (OpenSpec.ofChange intervalOfSpec)

/-- ITS FALSE NEIGHBOUR: 'it returns false'. Refute it at one input. -/
def intervalOfWrong : ChangeSpec := { name := "intervalOf", fn := fun _ => fun
  | [d1, d2] => { results := [.lit (.bool false)], args := [d1, d2] }
  | _ => none }
def IntervalOfWrongFalsely : Prop := intervalOfRow.holds Tryd.pinned (OpenSpec.ofChange intervalOfWrong)

/-- 'netverifylaw3.IntervalSizes': WHATEVER THE INPUT: true; the input reads as it did. -/
def intervalSizesSpec : ChangeSpec := { name := "intervalSizes", fn := fun _ => fun
  | [d1, d2] => { results := [.lit (.bool true)], args := [d1, d2] }
  | _ => none }
def intervalSizesRow : OpenClaim := { program := "ytpggnodnpjejlaadoor", sum := "5d1f844e1659d720f1bc1eb434ceba207cb68b77a55d5f5fec1b30e86d524de4", func := "netverify/netverifylaw3.IntervalSizes", spec := "intervalSizes", unfollowed := true, recurses := true, named := ["math/bits.deBruijn64tab"], apart := false, laid := [("math/bits.deBruijn64tab", laid_math_bits_deBruijn64tab)] }
def IntervalSizesSaid : Prop := intervalSizesRow.holds Tryd.pinned (OpenSpec.ofChange intervalSizesSpec)

/-- ITS FALSE NEIGHBOUR: 'it returns false'. Refute it at one input. -/
def intervalSizesWrong : ChangeSpec := { name := "intervalSizes", fn := fun _ => fun
  | [d1, d2] => { results := [.lit (.bool false)], args := [d1, d2] }
  | _ => none }
def IntervalSizesWrongFalsely : Prop := intervalSizesRow.holds Tryd.pinned (OpenSpec.ofChange intervalSizesWrong)

/-- 'netverifylaw3.IntervalExact': WHATEVER THE INPUT: true; the input reads as it did. -/
def intervalExactSpec : ChangeSpec := { name := "intervalExact", fn := fun _ => fun
  | [d1, d2] => { results := [.lit (.bool true)], args := [d1, d2] }
  | _ => none }
def intervalExactRow : OpenClaim := { program := "ytpggnodnpjejlaadoor", sum := "5d1f844e1659d720f1bc1eb434ceba207cb68b77a55d5f5fec1b30e86d524de4", func := "netverify/netverifylaw3.IntervalExact", spec := "intervalExact", unfollowed := true, recurses := true, named := ["math/bits.deBruijn64tab"], apart := false, laid := [("math/bits.deBruijn64tab", laid_math_bits_deBruijn64tab)] }
def IntervalExactSaid : Prop := intervalExactRow.holds Tryd.pinned (OpenSpec.ofChange intervalExactSpec)

/-- ITS FALSE NEIGHBOUR: 'it returns false'. Refute it at one input. -/
def intervalExactWrong : ChangeSpec := { name := "intervalExact", fn := fun _ => fun
  | [d1, d2] => { results := [.lit (.bool false)], args := [d1, d2] }
  | _ => none }
def IntervalExactWrongFalsely : Prop := intervalExactRow.holds Tryd.pinned (OpenSpec.ofChange intervalExactWrong)

/-- 'netverifylaw3.IntervalAlgebra': WHATEVER THE INPUT: true; the input reads as it did. -/
def intervalAlgebraSpec : ChangeSpec := { name := "intervalAlgebra", fn := fun _ => fun
  | [d1, d2] => { results := [.lit (.bool true)], args := [d1, d2] }
  | _ => none }
def intervalAlgebraRow : OpenClaim := { program := "ytpggnodnpjejlaadoor", sum := "5d1f844e1659d720f1bc1eb434ceba207cb68b77a55d5f5fec1b30e86d524de4", func := "netverify/netverifylaw3.IntervalAlgebra", spec := "intervalAlgebra", unfollowed := true, recurses := true, named := ["math/bits.deBruijn64tab"], apart := false, laid := [("math/bits.deBruijn64tab", laid_math_bits_deBruijn64tab)] }
def IntervalAlgebraSaid : Prop := intervalAlgebraRow.holds Tryd.pinned (OpenSpec.ofChange intervalAlgebraSpec)

/-- ITS FALSE NEIGHBOUR: 'it returns false'. Refute it at one input. -/
def intervalAlgebraWrong : ChangeSpec := { name := "intervalAlgebra", fn := fun _ => fun
  | [d1, d2] => { results := [.lit (.bool false)], args := [d1, d2] }
  | _ => none }
def IntervalAlgebraWrongFalsely : Prop := intervalAlgebraRow.holds Tryd.pinned (OpenSpec.ofChange intervalAlgebraWrong)

/-- 'netverifylaw3.IntervalCombines': WHATEVER THE INPUT: true; the input reads as it did. -/
def intervalCombinesSpec : ChangeSpec := { name := "intervalCombines", fn := fun _ => fun
  | [d1, d2, d3] => { results := [.lit (.bool true)], args := [d1, d2, d3] }
  | _ => none }
def intervalCombinesRow : OpenClaim := { program := "ytpggnodnpjejlaadoor", sum := "5d1f844e1659d720f1bc1eb434ceba207cb68b77a55d5f5fec1b30e86d524de4", func := "netverify/netverifylaw3.IntervalCombines", spec := "intervalCombines", unfollowed := true, recurses := true, named := ["math/bits.deBruijn64tab"], apart := false, laid := [("math/bits.deBruijn64tab", laid_math_bits_deBruijn64tab)] }
def IntervalCombinesSaid : Prop := intervalCombinesRow.holds Tryd.pinned (OpenSpec.ofChange intervalCombinesSpec)

/-- ITS FALSE NEIGHBOUR: 'it returns false'. Refute it at one input. -/
def intervalCombinesWrong : ChangeSpec := { name := "intervalCombines", fn := fun _ => fun
  | [d1, d2, d3] => { results := [.lit (.bool false)], args := [d1, d2, d3] }
  | _ => none }
def IntervalCombinesWrongFalsely : Prop := intervalCombinesRow.holds Tryd.pinned (OpenSpec.ofChange intervalCombinesWrong)

/- THE SECOND FORM. 'bulk': how many values and letters a reading holds, each counted each time it is reached (what is shared counts as often as it is met; a slice's spare places count too). A statement '..UptoSaid' is the law's where the arguments, and the package variables that the reading takes, are together of bulk at most 1048576: NARROWER than '..Said'. Prove '..Said' where nothing that the law and all that it calls make is longer than what came in: it says more and counts as full. Else prove '..UptoSaid'. A law counts once. -/
mutual
def uptoBulk {H : Type} : DataW H → Nat
  | .lit (.string bytes) => bytes.length + 1
  | .lit _ => 1
  | .nil => 1
  | .ptr d => uptoBulk d + 1
  | .slice elems spare => uptoBulkAll elems + uptoBulkAll spare + 1
  | .agg parts => uptoBulkAll parts + 1
  | .iface _ d => uptoBulk d + 1
  | .map entries => uptoBulkEntries entries + 1
  | .held _ => 1
def uptoBulkAll {H : Type} : List (DataW H) → Nat
  | [] => 0
  | d :: r => uptoBulk d + uptoBulkAll r
def uptoBulkEntries {H : Type} : List (Lit × DataW H) → Nat
  | [] => 0
  | x :: r => uptoBulkEntry x + uptoBulkEntries r
def uptoBulkEntry {H : Type} : Lit × DataW H → Nat
  | (.string bytes, d) => bytes.length + uptoBulk d + 1
  | (_, d) => uptoBulk d + 1
 end
def uptoSmall : (H : Type) → List (DataW H) → Bool := fun _ ds => decide (uptoBulkAll ds ≤ 1048576)
def OpenSpec.upto (s : _root_.Go.ChangeSpec) : _root_.Go.OpenSpec := { _root_.Go.OpenSpec.ofChange s with cond := some uptoSmall }

/-- 'netverifylaw3.IntervalPrefixes', WHERE WHAT IT READS IS OF BULK AT MOST 1048576: true; the input reads as it did. -/
def intervalPrefixesUptoRow : OpenClaim := { program := "ytpggnodnpjejlaadoor", sum := "5d1f844e1659d720f1bc1eb434ceba207cb68b77a55d5f5fec1b30e86d524de4", func := "netverify/netverifylaw3.IntervalPrefixes", spec := "intervalPrefixes", unfollowed := true, recurses := true, named := ["math/bits.deBruijn64tab"], apart := false, laid := [("math/bits.deBruijn64tab", laid_math_bits_deBruijn64tab)], narrowed := true }
def IntervalPrefixesUptoSaid : Prop := intervalPrefixesUptoRow.holds Tryd.pinned (OpenSpec.upto intervalPrefixesSpec)

/-- 'netverifylaw3.IntervalNormalizes', WHERE WHAT IT READS IS OF BULK AT MOST 1048576: true; the input reads as it did. -/
def intervalNormalizesUptoRow : OpenClaim := { program := "ytpggnodnpjejlaadoor", sum := "5d1f844e1659d720f1bc1eb434ceba207cb68b77a55d5f5fec1b30e86d524de4", func := "netverify/netverifylaw3.IntervalNormalizes", spec := "intervalNormalizes", unfollowed := true, recurses := true, named := ["math/bits.deBruijn64tab"], apart := false, laid := [("math/bits.deBruijn64tab", laid_math_bits_deBruijn64tab)], narrowed := true }
def IntervalNormalizesUptoSaid : Prop := intervalNormalizesUptoRow.holds Tryd.pinned (OpenSpec.upto intervalNormalizesSpec)

/-- 'netverifylaw3.IntervalShortest', WHERE WHAT IT READS IS OF BULK AT MOST 1048576: true; the input reads as it did. -/
def intervalShortestUptoRow : OpenClaim := { program := "ytpggnodnpjejlaadoor", sum := "5d1f844e1659d720f1bc1eb434ceba207cb68b77a55d5f5fec1b30e86d524de4", func := "netverify/netverifylaw3.IntervalShortest", spec := "intervalShortest", unfollowed := true, recurses := true, named := ["math/bits.deBruijn64tab"], apart := false, laid := [("math/bits.deBruijn64tab", laid_math_bits_deBruijn64tab)], narrowed := true }
def IntervalShortestUptoSaid : Prop := intervalShortestUptoRow.holds Tryd.pinned (OpenSpec.upto intervalShortestSpec)

/-- 'netverifylaw3.IntervalOf', WHERE WHAT IT READS IS OF BULK AT MOST 1048576: true; the input reads as it did. -/
def intervalOfUptoRow : OpenClaim := { program := "ytpggnodnpjejlaadoor", sum := "5d1f844e1659d720f1bc1eb434ceba207cb68b77a55d5f5fec1b30e86d524de4", func := "netverify/netverifylaw3.IntervalOf", spec := "intervalOf", unfollowed := true, recurses := true, named := ["math/bits.deBruijn64tab"], apart := false, laid := [("math/bits.deBruijn64tab", laid_math_bits_deBruijn64tab)], narrowed := true }
def IntervalOfUptoSaid : Prop := intervalOfUptoRow.holds Tryd.pinned (OpenSpec.upto intervalOfSpec)

/-- 'netverifylaw3.IntervalSizes', WHERE WHAT IT READS IS OF BULK AT MOST 1048576: true; the input reads as it did. -/
def intervalSizesUptoRow : OpenClaim := { program := "ytpggnodnpjejlaadoor", sum := "5d1f844e1659d720f1bc1eb434ceba207cb68b77a55d5f5fec1b30e86d524de4", func := "netverify/netverifylaw3.IntervalSizes", spec := "intervalSizes", unfollowed := true, recurses := true, named := ["math/bits.deBruijn64tab"], apart := false, laid := [("math/bits.deBruijn64tab", laid_math_bits_deBruijn64tab)], narrowed := true }
def IntervalSizesUptoSaid : Prop := intervalSizesUptoRow.holds Tryd.pinned (OpenSpec.upto intervalSizesSpec)

/-- 'netverifylaw3.IntervalExact', WHERE WHAT IT READS IS OF BULK AT MOST 1048576: true; the input reads as it did. -/
def intervalExactUptoRow : OpenClaim := { program := "ytpggnodnpjejlaadoor", sum := "5d1f844e1659d720f1bc1eb434ceba207cb68b77a55d5f5fec1b30e86d524de4", func := "netverify/netverifylaw3.IntervalExact", spec := "intervalExact", unfollowed := true, recurses := true, named := ["math/bits.deBruijn64tab"], apart := false, laid := [("math/bits.deBruijn64tab", laid_math_bits_deBruijn64tab)], narrowed := true }
def IntervalExactUptoSaid : Prop := intervalExactUptoRow.holds Tryd.pinned (OpenSpec.upto intervalExactSpec)

/-- 'netverifylaw3.IntervalAlgebra', WHERE WHAT IT READS IS OF BULK AT MOST 1048576: true; the input reads as it did. -/
def intervalAlgebraUptoRow : OpenClaim := { program := "ytpggnodnpjejlaadoor", sum := "5d1f844e1659d720f1bc1eb434ceba207cb68b77a55d5f5fec1b30e86d524de4", func := "netverify/netverifylaw3.IntervalAlgebra", spec := "intervalAlgebra", unfollowed := true, recurses := true, named := ["math/bits.deBruijn64tab"], apart := false, laid := [("math/bits.deBruijn64tab", laid_math_bits_deBruijn64tab)], narrowed := true }
def IntervalAlgebraUptoSaid : Prop := intervalAlgebraUptoRow.holds Tryd.pinned (OpenSpec.upto intervalAlgebraSpec)

/-- 'netverifylaw3.IntervalCombines', WHERE WHAT IT READS IS OF BULK AT MOST 1048576: true; the input reads as it did. -/
def intervalCombinesUptoRow : OpenClaim := { program := "ytpggnodnpjejlaadoor", sum := "5d1f844e1659d720f1bc1eb434ceba207cb68b77a55d5f5fec1b30e86d524de4", func := "netverify/netverifylaw3.IntervalCombines", spec := "intervalCombines", unfollowed := true, recurses := true, named := ["math/bits.deBruijn64tab"], apart := false, laid := [("math/bits.deBruijn64tab", laid_math_bits_deBruijn64tab)], narrowed := true }
def IntervalCombinesUptoSaid : Prop := intervalCombinesUptoRow.holds Tryd.pinned (OpenSpec.upto intervalCombinesSpec)

end Rows
end Go.Proofs.YtpggnodnpjejlaaDoor
