/-
  No cell of these rows narrows 'for every input' (looked for: loops, veiled, ifaces, maps, wideKeys, modest, calm, conditions, laid).
  DERIVED. THE GIVEN ROWS OF THIS SEAT. 6 by the template 'for every input the law returns true; each argument reads behind the call as it read before'; 0 by the template 'total and deterministic' (their statements: YtlhpjcjjnbfmbaaTotals.lean).
  GIVEN WITH THE SEED: the statements are not yours to turn. If you find one false, say at which input.
  Laid BY PROGRAM, IN A SANDBOX (cutbox-rows.mjs): the forced cells as the released guide's own fill.sh prints them over the translation c235777baef50434… (all of the seat's roots in one cut). By AI agents, Wed Nov 11 2026. No macro, syntax, notation, axiom, sorry.
-/
import Derived.Test.YtlhpjcjjnbfmbaaChecked
import GoSem.Claim
import GoSem.ClaimJoined
import GoSem.ClaimMapViews
import Derived.JoinedTies
import Derived.KernelRfl
namespace Go.Proofs.Ytlhpjcjjnbfmbaa
/- THE CELL 'sum', in the pinned program and in every row, IS THE sha256 OF THE DUMP (.gsa) THAT YtlhpjcjjnbfmbaaProg.lean LOADS. Nothing in Lean hashes anything: it is a label: what it is worth is what the hold of that sum in a sandbox is worth. -/
noncomputable def Try.pinned : Pinned := { name := "ytlhpjcjjnbfmbaa", sum := "c235777baef5043421303ef269a4d5c9d6de5d94c8d727b231cd5cac6e8b436c", checked := Try.checked }
namespace Rows
def none {H : Type} : Left H := { results := [], args := [] }

/-- 'netverifylaw15.SpfDistances': WHATEVER THE INPUT: true; the input reads as it did. -/
def spfDistancesSpec : ChangeSpec := { name := "spfDistances", fn := fun _ => fun
  | [d1, d2, d3] => { results := [.lit (.bool true)], args := [d1, d2, d3] }
  | _ => none }
def spfDistancesRow : OpenClaim := { program := "ytlhpjcjjnbfmbaa", sum := "c235777baef5043421303ef269a4d5c9d6de5d94c8d727b231cd5cac6e8b436c", func := "netverify/netverifylaw15.SpfDistances", spec := "spfDistances", unfollowed := true, recurses := true, apart := false }
def SpfDistancesSaid : Prop := spfDistancesRow.holds Try.pinned (OpenSpec.ofChange spfDistancesSpec)

/-- ITS FALSE NEIGHBOUR: 'it returns false'. Refute it at one input. -/
def spfDistancesWrong : ChangeSpec := { name := "spfDistances", fn := fun _ => fun
  | [d1, d2, d3] => { results := [.lit (.bool false)], args := [d1, d2, d3] }
  | _ => none }
def SpfDistancesWrongFalsely : Prop := spfDistancesRow.holds Try.pinned (OpenSpec.ofChange spfDistancesWrong)

/-- 'netverifylaw15.SpfHops': WHATEVER THE INPUT: true; the input reads as it did. -/
def spfHopsSpec : ChangeSpec := { name := "spfHops", fn := fun _ => fun
  | [d1, d2, d3] => { results := [.lit (.bool true)], args := [d1, d2, d3] }
  | _ => none }
def spfHopsRow : OpenClaim := { program := "ytlhpjcjjnbfmbaa", sum := "c235777baef5043421303ef269a4d5c9d6de5d94c8d727b231cd5cac6e8b436c", func := "netverify/netverifylaw15.SpfHops", spec := "spfHops", unfollowed := true, recurses := true, apart := false }
def SpfHopsSaid : Prop := spfHopsRow.holds Try.pinned (OpenSpec.ofChange spfHopsSpec)

/-- ITS FALSE NEIGHBOUR: 'it returns false'. Refute it at one input. -/
def spfHopsWrong : ChangeSpec := { name := "spfHops", fn := fun _ => fun
  | [d1, d2, d3] => { results := [.lit (.bool false)], args := [d1, d2, d3] }
  | _ => none }
def SpfHopsWrongFalsely : Prop := spfHopsRow.holds Try.pinned (OpenSpec.ofChange spfHopsWrong)

/-- 'netverifylaw15.SpfTight': WHATEVER THE INPUT: true; the input reads as it did. -/
def spfTightSpec : ChangeSpec := { name := "spfTight", fn := fun _ => fun
  | [d1, d2, d3] => { results := [.lit (.bool true)], args := [d1, d2, d3] }
  | _ => none }
def spfTightRow : OpenClaim := { program := "ytlhpjcjjnbfmbaa", sum := "c235777baef5043421303ef269a4d5c9d6de5d94c8d727b231cd5cac6e8b436c", func := "netverify/netverifylaw15.SpfTight", spec := "spfTight", unfollowed := true, recurses := true, apart := false }
def SpfTightSaid : Prop := spfTightRow.holds Try.pinned (OpenSpec.ofChange spfTightSpec)

/-- ITS FALSE NEIGHBOUR: 'it returns false'. Refute it at one input. -/
def spfTightWrong : ChangeSpec := { name := "spfTight", fn := fun _ => fun
  | [d1, d2, d3] => { results := [.lit (.bool false)], args := [d1, d2, d3] }
  | _ => none }
def SpfTightWrongFalsely : Prop := spfTightRow.holds Try.pinned (OpenSpec.ofChange spfTightWrong)

/-- 'netverifylaw15.SpfReverse': WHATEVER THE INPUT: true; the input reads as it did. -/
def spfReverseSpec : ChangeSpec := { name := "spfReverse", fn := fun _ => fun
  | [d1, d2, d3, d4] => { results := [.lit (.bool true)], args := [d1, d2, d3, d4] }
  | _ => none }
def spfReverseRow : OpenClaim := { program := "ytlhpjcjjnbfmbaa", sum := "c235777baef5043421303ef269a4d5c9d6de5d94c8d727b231cd5cac6e8b436c", func := "netverify/netverifylaw15.SpfReverse", spec := "spfReverse", unfollowed := true, recurses := true, apart := false }
def SpfReverseSaid : Prop := spfReverseRow.holds Try.pinned (OpenSpec.ofChange spfReverseSpec)

/-- ITS FALSE NEIGHBOUR: 'it returns false'. Refute it at one input. -/
def spfReverseWrong : ChangeSpec := { name := "spfReverse", fn := fun _ => fun
  | [d1, d2, d3, d4] => { results := [.lit (.bool false)], args := [d1, d2, d3, d4] }
  | _ => none }
def SpfReverseWrongFalsely : Prop := spfReverseRow.holds Try.pinned (OpenSpec.ofChange spfReverseWrong)

/-- 'netverifylaw15.SpfMore': WHATEVER THE INPUT: true; the input reads as it did. -/
def spfMoreSpec : ChangeSpec := { name := "spfMore", fn := fun _ => fun
  | [d1, d2, d3, d4] => { results := [.lit (.bool true)], args := [d1, d2, d3, d4] }
  | _ => none }
def spfMoreRow : OpenClaim := { program := "ytlhpjcjjnbfmbaa", sum := "c235777baef5043421303ef269a4d5c9d6de5d94c8d727b231cd5cac6e8b436c", func := "netverify/netverifylaw15.SpfMore", spec := "spfMore", unfollowed := true, recurses := true, apart := false }
def SpfMoreSaid : Prop := spfMoreRow.holds Try.pinned (OpenSpec.ofChange spfMoreSpec)

/-- ITS FALSE NEIGHBOUR: 'it returns false'. Refute it at one input. -/
def spfMoreWrong : ChangeSpec := { name := "spfMore", fn := fun _ => fun
  | [d1, d2, d3, d4] => { results := [.lit (.bool false)], args := [d1, d2, d3, d4] }
  | _ => none }
def SpfMoreWrongFalsely : Prop := spfMoreRow.holds Try.pinned (OpenSpec.ofChange spfMoreWrong)

/-- 'netverifylaw15.SpfFirst': WHATEVER THE INPUT: true; the input reads as it did. -/
def spfFirstSpec : ChangeSpec := { name := "spfFirst", fn := fun _ => fun
  | [d1, d2, d3] => { results := [.lit (.bool true)], args := [d1, d2, d3] }
  | _ => none }
def spfFirstRow : OpenClaim := { program := "ytlhpjcjjnbfmbaa", sum := "c235777baef5043421303ef269a4d5c9d6de5d94c8d727b231cd5cac6e8b436c", func := "netverify/netverifylaw15.SpfFirst", spec := "spfFirst", unfollowed := true, recurses := true, apart := false }
def SpfFirstSaid : Prop := spfFirstRow.holds Try.pinned (OpenSpec.ofChange spfFirstSpec)

/-- ITS FALSE NEIGHBOUR: 'it returns false'. Refute it at one input. -/
def spfFirstWrong : ChangeSpec := { name := "spfFirst", fn := fun _ => fun
  | [d1, d2, d3] => { results := [.lit (.bool false)], args := [d1, d2, d3] }
  | _ => none }
def SpfFirstWrongFalsely : Prop := spfFirstRow.holds Try.pinned (OpenSpec.ofChange spfFirstWrong)

/- THE SECOND FORM. 'bulk': how many values and letters a reading holds, each counted each time it is reached (what is shared counts as often as it is met; a slice's spare places count too). A statement '..UptoSaid' is the law's where the arguments, and the package variables that the reading takes, are together of bulk at most 1048576: NARROWER than '..Said'. Prove '..Said' where nothing that the law and all that it calls make is longer than what came in: it says more and counts as full. Else prove '..UptoSaid'. A law counts once. -/
mutual
def uptoBulk {H : Type} : DataW H → Nat
  | .lit (.string bytes) => bytes.length + 1
  | .lit _ => 1
  | .nil => 1
  | .ptr d => uptoBulk d + 1
  | .slice elems spare => uptoBulkAll elems + uptoBulkAll spare + 1
  | .agg parts => uptoBulkAll parts + 1
  | .iface _ d => uptoBulk d + 1
  | .map entries => uptoBulkEntries entries + 1
  | .held _ => 1
def uptoBulkAll {H : Type} : List (DataW H) → Nat
  | [] => 0
  | d :: r => uptoBulk d + uptoBulkAll r
def uptoBulkEntries {H : Type} : List (Lit × DataW H) → Nat
  | [] => 0
  | x :: r => uptoBulkEntry x + uptoBulkEntries r
def uptoBulkEntry {H : Type} : Lit × DataW H → Nat
  | (.string bytes, d) => bytes.length + uptoBulk d + 1
  | (_, d) => uptoBulk d + 1
 end
def uptoSmall : (H : Type) → List (DataW H) → Bool := fun _ ds => decide (uptoBulkAll ds ≤ 1048576)
def OpenSpec.upto (s : _root_.Go.ChangeSpec) : _root_.Go.OpenSpec := { _root_.Go.OpenSpec.ofChange s with cond := some uptoSmall }

/-- 'netverifylaw15.SpfDistances', WHERE WHAT IT READS IS OF BULK AT MOST 1048576: true; the input reads as it did. -/
def spfDistancesUptoRow : OpenClaim := { program := "ytlhpjcjjnbfmbaa", sum := "c235777baef5043421303ef269a4d5c9d6de5d94c8d727b231cd5cac6e8b436c", func := "netverify/netverifylaw15.SpfDistances", spec := "spfDistances", unfollowed := true, recurses := true, apart := false, narrowed := true }
def SpfDistancesUptoSaid : Prop := spfDistancesUptoRow.holds Try.pinned (OpenSpec.upto spfDistancesSpec)

/-- 'netverifylaw15.SpfHops', WHERE WHAT IT READS IS OF BULK AT MOST 1048576: true; the input reads as it did. -/
def spfHopsUptoRow : OpenClaim := { program := "ytlhpjcjjnbfmbaa", sum := "c235777baef5043421303ef269a4d5c9d6de5d94c8d727b231cd5cac6e8b436c", func := "netverify/netverifylaw15.SpfHops", spec := "spfHops", unfollowed := true, recurses := true, apart := false, narrowed := true }
def SpfHopsUptoSaid : Prop := spfHopsUptoRow.holds Try.pinned (OpenSpec.upto spfHopsSpec)

/-- 'netverifylaw15.SpfTight', WHERE WHAT IT READS IS OF BULK AT MOST 1048576: true; the input reads as it did. -/
def spfTightUptoRow : OpenClaim := { program := "ytlhpjcjjnbfmbaa", sum := "c235777baef5043421303ef269a4d5c9d6de5d94c8d727b231cd5cac6e8b436c", func := "netverify/netverifylaw15.SpfTight", spec := "spfTight", unfollowed := true, recurses := true, apart := false, narrowed := true }
def SpfTightUptoSaid : Prop := spfTightUptoRow.holds Try.pinned (OpenSpec.upto spfTightSpec)

/-- 'netverifylaw15.SpfReverse', WHERE WHAT IT READS IS OF BULK AT MOST 1048576: true; the input reads as it did. -/
def spfReverseUptoRow : OpenClaim := { program := "ytlhpjcjjnbfmbaa", sum := "c235777baef5043421303ef269a4d5c9d6de5d94c8d727b231cd5cac6e8b436c", func := "netverify/netverifylaw15.SpfReverse", spec := "spfReverse", unfollowed := true, recurses := true, apart := false, narrowed := true }
def SpfReverseUptoSaid : Prop := spfReverseUptoRow.holds Try.pinned (OpenSpec.upto spfReverseSpec)

/-- 'netverifylaw15.SpfMore', WHERE WHAT IT READS IS OF BULK AT MOST 1048576: true; the input reads as it did. -/
def spfMoreUptoRow : OpenClaim := { program := "ytlhpjcjjnbfmbaa", sum := "c235777baef5043421303ef269a4d5c9d6de5d94c8d727b231cd5cac6e8b436c", func := "netverify/netverifylaw15.SpfMore", spec := "spfMore", unfollowed := true, recurses := true, apart := false, narrowed := true }
def SpfMoreUptoSaid : Prop := spfMoreUptoRow.holds Try.pinned (OpenSpec.upto spfMoreSpec)

/-- 'netverifylaw15.SpfFirst', WHERE WHAT IT READS IS OF BULK AT MOST 1048576: true; the input reads as it did. -/
def spfFirstUptoRow : OpenClaim := { program := "ytlhpjcjjnbfmbaa", sum := "c235777baef5043421303ef269a4d5c9d6de5d94c8d727b231cd5cac6e8b436c", func := "netverify/netverifylaw15.SpfFirst", spec := "spfFirst", unfollowed := true, recurses := true, apart := false, narrowed := true }
def SpfFirstUptoSaid : Prop := spfFirstUptoRow.holds Try.pinned (OpenSpec.upto spfFirstSpec)

end Rows
end Go.Proofs.Ytlhpjcjjnbfmbaa
