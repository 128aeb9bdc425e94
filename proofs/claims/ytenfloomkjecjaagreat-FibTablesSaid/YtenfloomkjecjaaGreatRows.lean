/-
  No cell of these rows narrows 'for every input' (looked for: loops, veiled, ifaces, maps, wideKeys, modest, calm, conditions, laid).
  DERIVED. THE GIVEN ROWS OF THIS SEAT. 6 by the template 'for every input the law returns true; each argument reads behind the call as it read before'; 0 by the template 'total and deterministic' (their statements: YtenfloomkjecjaaGreatTotals.lean).
  GIVEN WITH THE SEED: the statements are not yours to turn. If you find one false, say at which input.
  Laid BY PROGRAM, IN A SANDBOX (cutbox-rows.mjs): the forced cells as the released guide's own fill.sh prints them over the translation 50fc908f48fc3d59… (all of the seat's roots in one cut). By AI agents, Wed Nov 11 2026. No macro, syntax, notation, axiom, sorry.
-/
import Derived.Test.YtenfloomkjecjaaGreatChecked
import GoSem.Claim
import GoSem.ClaimJoined
import GoSem.ClaimMapViews
import Derived.JoinedTies
import Derived.KernelRfl
namespace Go.Proofs.YtenfloomkjecjaaGreat
/- THE CELL 'sum', in the pinned program and in every row, IS THE sha256 OF THE DUMP (.gsa) THAT YtenfloomkjecjaaGreatProg.lean LOADS. Nothing in Lean hashes anything: it is a label: what it is worth is what the hold of that sum in a sandbox is worth. -/
noncomputable def Tryz.pinned : Pinned := { name := "ytenfloomkjecjaagreat", sum := "50fc908f48fc3d59285c799c93233ffe3c718349d42be65401040730ca02f612", checked := Tryz.checked }
namespace Rows
def none {H : Type} : Left H := { results := [], args := [] }

/-- 'netverifylaw24.FibTables': WHATEVER THE INPUT: true; the input reads as it did. -/
def fibTablesSpec : ChangeSpec := { name := "fibTables", fn := fun _ => fun
  | [d1, d2, d3] => { results := [.lit (.bool true)], args := [d1, d2, d3] }
  | _ => none }
def fibTablesRow : OpenClaim := { program := "ytenfloomkjecjaagreat", sum := "50fc908f48fc3d59285c799c93233ffe3c718349d42be65401040730ca02f612", func := "netverify/netverifylaw24.FibTables", spec := "fibTables", unfollowed := true, recurses := true, plainKeys := false, apart := false }
def FibTablesSaid : Prop := fibTablesRow.holds Tryz.pinned (OpenSpec.ofChange fibTablesSpec)

/-- ITS FALSE NEIGHBOUR: 'it returns false'. Refute it at one input. -/
def fibTablesWrong : ChangeSpec := { name := "fibTables", fn := fun _ => fun
  | [d1, d2, d3] => { results := [.lit (.bool false)], args := [d1, d2, d3] }
  | _ => none }
def FibTablesWrongFalsely : Prop := fibTablesRow.holds Tryz.pinned (OpenSpec.ofChange fibTablesWrong)

/-- 'netverifylaw24.FibHops': WHATEVER THE INPUT: true; the input reads as it did. -/
def fibHopsSpec : ChangeSpec := { name := "fibHops", fn := fun _ => fun
  | [d1, d2, d3] => { results := [.lit (.bool true)], args := [d1, d2, d3] }
  | _ => none }
def fibHopsRow : OpenClaim := { program := "ytenfloomkjecjaagreat", sum := "50fc908f48fc3d59285c799c93233ffe3c718349d42be65401040730ca02f612", func := "netverify/netverifylaw24.FibHops", spec := "fibHops", unfollowed := true, recurses := true, plainKeys := false, apart := false }
def FibHopsSaid : Prop := fibHopsRow.holds Tryz.pinned (OpenSpec.ofChange fibHopsSpec)

/-- ITS FALSE NEIGHBOUR: 'it returns false'. Refute it at one input. -/
def fibHopsWrong : ChangeSpec := { name := "fibHops", fn := fun _ => fun
  | [d1, d2, d3] => { results := [.lit (.bool false)], args := [d1, d2, d3] }
  | _ => none }
def FibHopsWrongFalsely : Prop := fibHopsRow.holds Tryz.pinned (OpenSpec.ofChange fibHopsWrong)

/-- 'netverifylaw24.FibLookups': WHATEVER THE INPUT: true; the input reads as it did. -/
def fibLookupsSpec : ChangeSpec := { name := "fibLookups", fn := fun _ => fun
  | [d1, d2] => { results := [.lit (.bool true)], args := [d1, d2] }
  | _ => none }
def fibLookupsRow : OpenClaim := { program := "ytenfloomkjecjaagreat", sum := "50fc908f48fc3d59285c799c93233ffe3c718349d42be65401040730ca02f612", func := "netverify/netverifylaw24.FibLookups", spec := "fibLookups", unfollowed := true, recurses := true, plainKeys := false, apart := false }
def FibLookupsSaid : Prop := fibLookupsRow.holds Tryz.pinned (OpenSpec.ofChange fibLookupsSpec)

/-- ITS FALSE NEIGHBOUR: 'it returns false'. Refute it at one input. -/
def fibLookupsWrong : ChangeSpec := { name := "fibLookups", fn := fun _ => fun
  | [d1, d2] => { results := [.lit (.bool false)], args := [d1, d2] }
  | _ => none }
def FibLookupsWrongFalsely : Prop := fibLookupsRow.holds Tryz.pinned (OpenSpec.ofChange fibLookupsWrong)

/-- 'netverifylaw24.FibRuns': WHATEVER THE INPUT: true; the input reads as it did. -/
def fibRunsSpec : ChangeSpec := { name := "fibRuns", fn := fun _ => fun
  | [d1, d2] => { results := [.lit (.bool true)], args := [d1, d2] }
  | _ => none }
def fibRunsRow : OpenClaim := { program := "ytenfloomkjecjaagreat", sum := "50fc908f48fc3d59285c799c93233ffe3c718349d42be65401040730ca02f612", func := "netverify/netverifylaw24.FibRuns", spec := "fibRuns", unfollowed := true, recurses := true, plainKeys := false, apart := false }
def FibRunsSaid : Prop := fibRunsRow.holds Tryz.pinned (OpenSpec.ofChange fibRunsSpec)

/-- ITS FALSE NEIGHBOUR: 'it returns false'. Refute it at one input. -/
def fibRunsWrong : ChangeSpec := { name := "fibRuns", fn := fun _ => fun
  | [d1, d2] => { results := [.lit (.bool false)], args := [d1, d2] }
  | _ => none }
def FibRunsWrongFalsely : Prop := fibRunsRow.holds Tryz.pinned (OpenSpec.ofChange fibRunsWrong)

/-- 'netverifylaw24.FibCompresses': WHATEVER THE INPUT: true; the input reads as it did. -/
def fibCompressesSpec : ChangeSpec := { name := "fibCompresses", fn := fun _ => fun
  | [d] => { results := [.lit (.bool true)], args := [d] }
  | _ => none }
def fibCompressesRow : OpenClaim := { program := "ytenfloomkjecjaagreat", sum := "50fc908f48fc3d59285c799c93233ffe3c718349d42be65401040730ca02f612", func := "netverify/netverifylaw24.FibCompresses", spec := "fibCompresses", unfollowed := true, recurses := true, plainKeys := false, apart := false }
def FibCompressesSaid : Prop := fibCompressesRow.holds Tryz.pinned (OpenSpec.ofChange fibCompressesSpec)

/-- ITS FALSE NEIGHBOUR: 'it returns false'. Refute it at one input. -/
def fibCompressesWrong : ChangeSpec := { name := "fibCompresses", fn := fun _ => fun
  | [d] => { results := [.lit (.bool false)], args := [d] }
  | _ => none }
def FibCompressesWrongFalsely : Prop := fibCompressesRow.holds Tryz.pinned (OpenSpec.ofChange fibCompressesWrong)

/-- 'netverifylaw24.FibKeeps': WHATEVER THE INPUT: true; the input reads as it did. -/
def fibKeepsSpec : ChangeSpec := { name := "fibKeeps", fn := fun _ => fun
  | [d1, d2] => { results := [.lit (.bool true)], args := [d1, d2] }
  | _ => none }
def fibKeepsRow : OpenClaim := { program := "ytenfloomkjecjaagreat", sum := "50fc908f48fc3d59285c799c93233ffe3c718349d42be65401040730ca02f612", func := "netverify/netverifylaw24.FibKeeps", spec := "fibKeeps", unfollowed := true, recurses := true, plainKeys := false, apart := false }
def FibKeepsSaid : Prop := fibKeepsRow.holds Tryz.pinned (OpenSpec.ofChange fibKeepsSpec)

/-- ITS FALSE NEIGHBOUR: 'it returns false'. Refute it at one input. -/
def fibKeepsWrong : ChangeSpec := { name := "fibKeeps", fn := fun _ => fun
  | [d1, d2] => { results := [.lit (.bool false)], args := [d1, d2] }
  | _ => none }
def FibKeepsWrongFalsely : Prop := fibKeepsRow.holds Tryz.pinned (OpenSpec.ofChange fibKeepsWrong)

/- THE SECOND FORM. 'bulk': how many values and letters a reading holds, each counted each time it is reached (what is shared counts as often as it is met; a slice's spare places count too). A statement '..UptoSaid' is the law's where the arguments, and the package variables that the reading takes, are together of bulk at most 1048576: NARROWER than '..Said'. Prove '..Said' where nothing that the law and all that it calls make is longer than what came in: it says more and counts as full. Else prove '..UptoSaid'. A law counts once. -/
mutual
def uptoBulk {H : Type} : DataW H → Nat
  | .lit (.string bytes) => bytes.length + 1
  | .lit _ => 1
  | .nil => 1
  | .ptr d => uptoBulk d + 1
  | .slice elems spare => uptoBulkAll elems + uptoBulkAll spare + 1
  | .agg parts => uptoBulkAll parts + 1
  | .iface _ d => uptoBulk d + 1
  | .map entries => uptoBulkEntries entries + 1
  | .held _ => 1
def uptoBulkAll {H : Type} : List (DataW H) → Nat
  | [] => 0
  | d :: r => uptoBulk d + uptoBulkAll r
def uptoBulkEntries {H : Type} : List (Lit × DataW H) → Nat
  | [] => 0
  | x :: r => uptoBulkEntry x + uptoBulkEntries r
def uptoBulkEntry {H : Type} : Lit × DataW H → Nat
  | (.string bytes, d) => bytes.length + uptoBulk d + 1
  | (_, d) => uptoBulk d + 1
 end
def uptoSmall : (H : Type) → List (DataW H) → Bool := fun _ ds => decide (uptoBulkAll ds ≤ 1048576)
def OpenSpec.upto (s : _root_.Go.ChangeSpec) : _root_.Go.OpenSpec := { _root_.Go.OpenSpec.ofChange s with cond := some uptoSmall }

/-- 'netverifylaw24.FibTables', WHERE WHAT IT READS IS OF BULK AT MOST 1048576: true; the input reads as it did. -/
def fibTablesUptoRow : OpenClaim := { program := "ytenfloomkjecjaagreat", sum := "50fc908f48fc3d59285c799c93233ffe3c718349d42be65401040730ca02f612", func := "netverify/netverifylaw24.FibTables", spec := "fibTables", unfollowed := true, recurses := true, plainKeys := false, apart := false, narrowed := true }
def FibTablesUptoSaid : Prop := fibTablesUptoRow.holds Tryz.pinned (OpenSpec.upto fibTablesSpec)

/-- 'netverifylaw24.FibHops', WHERE WHAT IT READS IS OF BULK AT MOST 1048576: true; the input reads as it did. -/
def fibHopsUptoRow : OpenClaim := { program := "ytenfloomkjecjaagreat", sum := "50fc908f48fc3d59285c799c93233ffe3c718349d42be65401040730ca02f612", func := "netverify/netverifylaw24.FibHops", spec := "fibHops", unfollowed := true, recurses := true, plainKeys := false, apart := false, narrowed := true }
def FibHopsUptoSaid : Prop := fibHopsUptoRow.holds Tryz.pinned (OpenSpec.upto fibHopsSpec)

/-- 'netverifylaw24.FibLookups', WHERE WHAT IT READS IS OF BULK AT MOST 1048576: true; the input reads as it did. -/
def fibLookupsUptoRow : OpenClaim := { program := "ytenfloomkjecjaagreat", sum := "50fc908f48fc3d59285c799c93233ffe3c718349d42be65401040730ca02f612", func := "netverify/netverifylaw24.FibLookups", spec := "fibLookups", unfollowed := true, recurses := true, plainKeys := false, apart := false, narrowed := true }
def FibLookupsUptoSaid : Prop := fibLookupsUptoRow.holds Tryz.pinned (OpenSpec.upto fibLookupsSpec)

/-- 'netverifylaw24.FibRuns', WHERE WHAT IT READS IS OF BULK AT MOST 1048576: true; the input reads as it did. -/
def fibRunsUptoRow : OpenClaim := { program := "ytenfloomkjecjaagreat", sum := "50fc908f48fc3d59285c799c93233ffe3c718349d42be65401040730ca02f612", func := "netverify/netverifylaw24.FibRuns", spec := "fibRuns", unfollowed := true, recurses := true, plainKeys := false, apart := false, narrowed := true }
def FibRunsUptoSaid : Prop := fibRunsUptoRow.holds Tryz.pinned (OpenSpec.upto fibRunsSpec)

/-- 'netverifylaw24.FibCompresses', WHERE WHAT IT READS IS OF BULK AT MOST 1048576: true; the input reads as it did. -/
def fibCompressesUptoRow : OpenClaim := { program := "ytenfloomkjecjaagreat", sum := "50fc908f48fc3d59285c799c93233ffe3c718349d42be65401040730ca02f612", func := "netverify/netverifylaw24.FibCompresses", spec := "fibCompresses", unfollowed := true, recurses := true, plainKeys := false, apart := false, narrowed := true }
def FibCompressesUptoSaid : Prop := fibCompressesUptoRow.holds Tryz.pinned (OpenSpec.upto fibCompressesSpec)

/-- 'netverifylaw24.FibKeeps', WHERE WHAT IT READS IS OF BULK AT MOST 1048576: true; the input reads as it did. -/
def fibKeepsUptoRow : OpenClaim := { program := "ytenfloomkjecjaagreat", sum := "50fc908f48fc3d59285c799c93233ffe3c718349d42be65401040730ca02f612", func := "netverify/netverifylaw24.FibKeeps", spec := "fibKeeps", unfollowed := true, recurses := true, plainKeys := false, apart := false, narrowed := true }
def FibKeepsUptoSaid : Prop := fibKeepsUptoRow.holds Tryz.pinned (OpenSpec.upto fibKeepsSpec)

end Rows
end Go.Proofs.YtenfloomkjecjaaGreat
