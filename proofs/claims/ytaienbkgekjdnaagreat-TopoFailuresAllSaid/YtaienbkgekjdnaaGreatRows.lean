/-
  No cell of these rows narrows 'for every input' (looked for: loops, veiled, ifaces, maps, wideKeys, modest, calm, conditions, laid).
  DERIVED. THE GIVEN ROWS OF THIS SEAT. 8 by the template 'for every input the law returns true; each argument reads behind the call as it read before'; 0 by the template 'total and deterministic' (their statements: YtaienbkgekjdnaaGreatTotals.lean).
  GIVEN WITH THE SEED: the statements are not yours to turn. If you find one false, say at which input.
  Laid BY PROGRAM, IN A SANDBOX (cutbox-rows.mjs): the forced cells as the released guide's own fill.sh prints them over the translation 217ffe82108ffd89… (all of the seat's roots in one cut). By AI agents, Wed Nov 11 2026. No macro, syntax, notation, axiom, sorry.
-/
import Derived.Test.YtaienbkgekjdnaaGreatChecked
import GoSem.Claim
import GoSem.ClaimJoined
import GoSem.ClaimMapViews
import Derived.JoinedTies
import Derived.KernelRfl
namespace Go.Proofs.YtaienbkgekjdnaaGreat
/- THE CELL 'sum', in the pinned program and in every row, IS THE sha256 OF THE DUMP (.gsa) THAT YtaienbkgekjdnaaGreatProg.lean LOADS. Nothing in Lean hashes anything: it is a label: what it is worth is what the hold of that sum in a sandbox is worth. -/
noncomputable def Tryz.pinned : Pinned := { name := "ytaienbkgekjdnaagreat", sum := "217ffe82108ffd899aa1180235affee4bf04f77266c86842295ea3d72e28e2bc", checked := Tryz.checked }
namespace Rows
def none {H : Type} : Left H := { results := [], args := [] }

/-- 'netverifylaw13.TopoBuilds': WHATEVER THE INPUT: true; the input reads as it did. -/
def topoBuildsSpec : ChangeSpec := { name := "topoBuilds", fn := fun _ => fun
  | [d] => { results := [.lit (.bool true)], args := [d] }
  | _ => none }
def topoBuildsRow : OpenClaim := { program := "ytaienbkgekjdnaagreat", sum := "217ffe82108ffd899aa1180235affee4bf04f77266c86842295ea3d72e28e2bc", func := "netverify/netverifylaw13.TopoBuilds", spec := "topoBuilds", unfollowed := true, recurses := true, plainKeys := false, apart := false }
def TopoBuildsSaid : Prop := topoBuildsRow.holds Tryz.pinned (OpenSpec.ofChange topoBuildsSpec)

/-- ITS FALSE NEIGHBOUR: 'it returns false'. Refute it at one input. -/
def topoBuildsWrong : ChangeSpec := { name := "topoBuilds", fn := fun _ => fun
  | [d] => { results := [.lit (.bool false)], args := [d] }
  | _ => none }
def TopoBuildsWrongFalsely : Prop := topoBuildsRow.holds Tryz.pinned (OpenSpec.ofChange topoBuildsWrong)

/-- 'netverifylaw13.TopoMakes': WHATEVER THE INPUT: true; the input reads as it did. -/
def topoMakesSpec : ChangeSpec := { name := "topoMakes", fn := fun _ => fun
  | [d1, d2] => { results := [.lit (.bool true)], args := [d1, d2] }
  | _ => none }
def topoMakesRow : OpenClaim := { program := "ytaienbkgekjdnaagreat", sum := "217ffe82108ffd899aa1180235affee4bf04f77266c86842295ea3d72e28e2bc", func := "netverify/netverifylaw13.TopoMakes", spec := "topoMakes", unfollowed := true, recurses := true, plainKeys := false, apart := false }
def TopoMakesSaid : Prop := topoMakesRow.holds Tryz.pinned (OpenSpec.ofChange topoMakesSpec)

/-- ITS FALSE NEIGHBOUR: 'it returns false'. Refute it at one input. -/
def topoMakesWrong : ChangeSpec := { name := "topoMakes", fn := fun _ => fun
  | [d1, d2] => { results := [.lit (.bool false)], args := [d1, d2] }
  | _ => none }
def TopoMakesWrongFalsely : Prop := topoMakesRow.holds Tryz.pinned (OpenSpec.ofChange topoMakesWrong)

/-- 'netverifylaw13.TopoDomains': WHATEVER THE INPUT: true; the input reads as it did. -/
def topoDomainsSpec : ChangeSpec := { name := "topoDomains", fn := fun _ => fun
  | [d] => { results := [.lit (.bool true)], args := [d] }
  | _ => none }
def topoDomainsRow : OpenClaim := { program := "ytaienbkgekjdnaagreat", sum := "217ffe82108ffd899aa1180235affee4bf04f77266c86842295ea3d72e28e2bc", func := "netverify/netverifylaw13.TopoDomains", spec := "topoDomains", unfollowed := true, recurses := true, plainKeys := false, apart := false }
def TopoDomainsSaid : Prop := topoDomainsRow.holds Tryz.pinned (OpenSpec.ofChange topoDomainsSpec)

/-- ITS FALSE NEIGHBOUR: 'it returns false'. Refute it at one input. -/
def topoDomainsWrong : ChangeSpec := { name := "topoDomains", fn := fun _ => fun
  | [d] => { results := [.lit (.bool false)], args := [d] }
  | _ => none }
def TopoDomainsWrongFalsely : Prop := topoDomainsRow.holds Tryz.pinned (OpenSpec.ofChange topoDomainsWrong)

/-- 'netverifylaw13.TopoFailures': WHATEVER THE INPUT: true; the input reads as it did. -/
def topoFailuresSpec : ChangeSpec := { name := "topoFailures", fn := fun _ => fun
  | [d1, d2] => { results := [.lit (.bool true)], args := [d1, d2] }
  | _ => none }
def topoFailuresRow : OpenClaim := { program := "ytaienbkgekjdnaagreat", sum := "217ffe82108ffd899aa1180235affee4bf04f77266c86842295ea3d72e28e2bc", func := "netverify/netverifylaw13.TopoFailures", spec := "topoFailures", unfollowed := true, recurses := true, plainKeys := false, apart := false }
def TopoFailuresSaid : Prop := topoFailuresRow.holds Tryz.pinned (OpenSpec.ofChange topoFailuresSpec)

/-- ITS FALSE NEIGHBOUR: 'it returns false'. Refute it at one input. -/
def topoFailuresWrong : ChangeSpec := { name := "topoFailures", fn := fun _ => fun
  | [d1, d2] => { results := [.lit (.bool false)], args := [d1, d2] }
  | _ => none }
def TopoFailuresWrongFalsely : Prop := topoFailuresRow.holds Tryz.pinned (OpenSpec.ofChange topoFailuresWrong)

/-- 'netverifylaw13.TopoFailuresAll': WHATEVER THE INPUT: true; the input reads as it did. -/
def topoFailuresAllSpec : ChangeSpec := { name := "topoFailuresAll", fn := fun _ => fun
  | [d1, d2] => { results := [.lit (.bool true)], args := [d1, d2] }
  | _ => none }
def topoFailuresAllRow : OpenClaim := { program := "ytaienbkgekjdnaagreat", sum := "217ffe82108ffd899aa1180235affee4bf04f77266c86842295ea3d72e28e2bc", func := "netverify/netverifylaw13.TopoFailuresAll", spec := "topoFailuresAll", unfollowed := true, recurses := true, plainKeys := false, apart := false }
def TopoFailuresAllSaid : Prop := topoFailuresAllRow.holds Tryz.pinned (OpenSpec.ofChange topoFailuresAllSpec)

/-- ITS FALSE NEIGHBOUR: 'it returns false'. Refute it at one input. -/
def topoFailuresAllWrong : ChangeSpec := { name := "topoFailuresAll", fn := fun _ => fun
  | [d1, d2] => { results := [.lit (.bool false)], args := [d1, d2] }
  | _ => none }
def TopoFailuresAllWrongFalsely : Prop := topoFailuresAllRow.holds Tryz.pinned (OpenSpec.ofChange topoFailuresAllWrong)

/-- 'netverifylaw13.TopoTells': WHATEVER THE INPUT: true; the input reads as it did. -/
def topoTellsSpec : ChangeSpec := { name := "topoTells", fn := fun _ => fun
  | [d1, d2, d3, d4, d5] => { results := [.lit (.bool true)], args := [d1, d2, d3, d4, d5] }
  | _ => none }
def topoTellsRow : OpenClaim := { program := "ytaienbkgekjdnaagreat", sum := "217ffe82108ffd899aa1180235affee4bf04f77266c86842295ea3d72e28e2bc", func := "netverify/netverifylaw13.TopoTells", spec := "topoTells", unfollowed := true, recurses := true, plainKeys := false, apart := false }
def TopoTellsSaid : Prop := topoTellsRow.holds Tryz.pinned (OpenSpec.ofChange topoTellsSpec)

/-- ITS FALSE NEIGHBOUR: 'it returns false'. Refute it at one input. -/
def topoTellsWrong : ChangeSpec := { name := "topoTells", fn := fun _ => fun
  | [d1, d2, d3, d4, d5] => { results := [.lit (.bool false)], args := [d1, d2, d3, d4, d5] }
  | _ => none }
def TopoTellsWrongFalsely : Prop := topoTellsRow.holds Tryz.pinned (OpenSpec.ofChange topoTellsWrong)

/-- 'netverifylaw13.TopoSymmetric': WHATEVER THE INPUT: true; the input reads as it did. -/
def topoSymmetricSpec : ChangeSpec := { name := "topoSymmetric", fn := fun _ => fun
  | [d1, d2] => { results := [.lit (.bool true)], args := [d1, d2] }
  | _ => none }
def topoSymmetricRow : OpenClaim := { program := "ytaienbkgekjdnaagreat", sum := "217ffe82108ffd899aa1180235affee4bf04f77266c86842295ea3d72e28e2bc", func := "netverify/netverifylaw13.TopoSymmetric", spec := "topoSymmetric", unfollowed := true, recurses := true, plainKeys := false, apart := false }
def TopoSymmetricSaid : Prop := topoSymmetricRow.holds Tryz.pinned (OpenSpec.ofChange topoSymmetricSpec)

/-- ITS FALSE NEIGHBOUR: 'it returns false'. Refute it at one input. -/
def topoSymmetricWrong : ChangeSpec := { name := "topoSymmetric", fn := fun _ => fun
  | [d1, d2] => { results := [.lit (.bool false)], args := [d1, d2] }
  | _ => none }
def TopoSymmetricWrongFalsely : Prop := topoSymmetricRow.holds Tryz.pinned (OpenSpec.ofChange topoSymmetricWrong)

/-- 'netverifylaw13.TopoComponents': WHATEVER THE INPUT: true; the input reads as it did. -/
def topoComponentsSpec : ChangeSpec := { name := "topoComponents", fn := fun _ => fun
  | [d1, d2] => { results := [.lit (.bool true)], args := [d1, d2] }
  | _ => none }
def topoComponentsRow : OpenClaim := { program := "ytaienbkgekjdnaagreat", sum := "217ffe82108ffd899aa1180235affee4bf04f77266c86842295ea3d72e28e2bc", func := "netverify/netverifylaw13.TopoComponents", spec := "topoComponents", unfollowed := true, recurses := true, plainKeys := false, apart := false }
def TopoComponentsSaid : Prop := topoComponentsRow.holds Tryz.pinned (OpenSpec.ofChange topoComponentsSpec)

/-- ITS FALSE NEIGHBOUR: 'it returns false'. Refute it at one input. -/
def topoComponentsWrong : ChangeSpec := { name := "topoComponents", fn := fun _ => fun
  | [d1, d2] => { results := [.lit (.bool false)], args := [d1, d2] }
  | _ => none }
def TopoComponentsWrongFalsely : Prop := topoComponentsRow.holds Tryz.pinned (OpenSpec.ofChange topoComponentsWrong)

/- THE SECOND FORM. 'bulk': how many values and letters a reading holds, each counted each time it is reached (what is shared counts as often as it is met; a slice's spare places count too). A statement '..UptoSaid' is the law's where the arguments, and the package variables that the reading takes, are together of bulk at most 1048576: NARROWER than '..Said'. Prove '..Said' where nothing that the law and all that it calls make is longer than what came in: it says more and counts as full. Else prove '..UptoSaid'. A law counts once. -/
mutual
def uptoBulk {H : Type} : DataW H → Nat
  | .lit (.string bytes) => bytes.length + 1
  | .lit _ => 1
  | .nil => 1
  | .ptr d => uptoBulk d + 1
  | .slice elems spare => uptoBulkAll elems + uptoBulkAll spare + 1
  | .agg parts => uptoBulkAll parts + 1
  | .iface _ d => uptoBulk d + 1
  | .map entries => uptoBulkEntries entries + 1
  | .held _ => 1
def uptoBulkAll {H : Type} : List (DataW H) → Nat
  | [] => 0
  | d :: r => uptoBulk d + uptoBulkAll r
def uptoBulkEntries {H : Type} : List (Lit × DataW H) → Nat
  | [] => 0
  | x :: r => uptoBulkEntry x + uptoBulkEntries r
def uptoBulkEntry {H : Type} : Lit × DataW H → Nat
  | (.string bytes, d) => bytes.length + uptoBulk d + 1
  | (_, d) => uptoBulk d + 1
 end
def uptoSmall : (H : Type) → List (DataW H) → Bool := fun _ ds => decide (uptoBulkAll ds ≤ 1048576)
def OpenSpec.upto (s : _root_.Go.ChangeSpec) : _root_.Go.OpenSpec := { _root_.Go.OpenSpec.ofChange s with cond := some uptoSmall }

/-- 'netverifylaw13.TopoBuilds', WHERE WHAT IT READS IS OF BULK AT MOST 1048576: true; the input reads as it did. -/
def topoBuildsUptoRow : OpenClaim := { program := "ytaienbkgekjdnaagreat", sum := "217ffe82108ffd899aa1180235affee4bf04f77266c86842295ea3d72e28e2bc", func := "netverify/netverifylaw13.TopoBuilds", spec := "topoBuilds", unfollowed := true, recurses := true, plainKeys := false, apart := false, narrowed := true }
def TopoBuildsUptoSaid : Prop := topoBuildsUptoRow.holds Tryz.pinned (OpenSpec.upto topoBuildsSpec)

/-- 'netverifylaw13.TopoMakes', WHERE WHAT IT READS IS OF BULK AT MOST 1048576: true; the input reads as it did. -/
def topoMakesUptoRow : OpenClaim := { program := "ytaienbkgekjdnaagreat", sum := "217ffe82108ffd899aa1180235affee4bf04f77266c86842295ea3d72e28e2bc", func := "netverify/netverifylaw13.TopoMakes", spec := "topoMakes", unfollowed := true, recurses := true, plainKeys := false, apart := false, narrowed := true }
def TopoMakesUptoSaid : Prop := topoMakesUptoRow.holds Tryz.pinned (OpenSpec.upto topoMakesSpec)

/-- 'netverifylaw13.TopoDomains', WHERE WHAT IT READS IS OF BULK AT MOST 1048576: true; the input reads as it did. -/
def topoDomainsUptoRow : OpenClaim := { program := "ytaienbkgekjdnaagreat", sum := "217ffe82108ffd899aa1180235affee4bf04f77266c86842295ea3d72e28e2bc", func := "netverify/netverifylaw13.TopoDomains", spec := "topoDomains", unfollowed := true, recurses := true, plainKeys := false, apart := false, narrowed := true }
def TopoDomainsUptoSaid : Prop := topoDomainsUptoRow.holds Tryz.pinned (OpenSpec.upto topoDomainsSpec)

/-- 'netverifylaw13.TopoFailures', WHERE WHAT IT READS IS OF BULK AT MOST 1048576: true; the input reads as it did. -/
def topoFailuresUptoRow : OpenClaim := { program := "ytaienbkgekjdnaagreat", sum := "217ffe82108ffd899aa1180235affee4bf04f77266c86842295ea3d72e28e2bc", func := "netverify/netverifylaw13.TopoFailures", spec := "topoFailures", unfollowed := true, recurses := true, plainKeys := false, apart := false, narrowed := true }
def TopoFailuresUptoSaid : Prop := topoFailuresUptoRow.holds Tryz.pinned (OpenSpec.upto topoFailuresSpec)

/-- 'netverifylaw13.TopoFailuresAll', WHERE WHAT IT READS IS OF BULK AT MOST 1048576: true; the input reads as it did. -/
def topoFailuresAllUptoRow : OpenClaim := { program := "ytaienbkgekjdnaagreat", sum := "217ffe82108ffd899aa1180235affee4bf04f77266c86842295ea3d72e28e2bc", func := "netverify/netverifylaw13.TopoFailuresAll", spec := "topoFailuresAll", unfollowed := true, recurses := true, plainKeys := false, apart := false, narrowed := true }
def TopoFailuresAllUptoSaid : Prop := topoFailuresAllUptoRow.holds Tryz.pinned (OpenSpec.upto topoFailuresAllSpec)

/-- 'netverifylaw13.TopoTells', WHERE WHAT IT READS IS OF BULK AT MOST 1048576: true; the input reads as it did. -/
def topoTellsUptoRow : OpenClaim := { program := "ytaienbkgekjdnaagreat", sum := "217ffe82108ffd899aa1180235affee4bf04f77266c86842295ea3d72e28e2bc", func := "netverify/netverifylaw13.TopoTells", spec := "topoTells", unfollowed := true, recurses := true, plainKeys := false, apart := false, narrowed := true }
def TopoTellsUptoSaid : Prop := topoTellsUptoRow.holds Tryz.pinned (OpenSpec.upto topoTellsSpec)

/-- 'netverifylaw13.TopoSymmetric', WHERE WHAT IT READS IS OF BULK AT MOST 1048576: true; the input reads as it did. -/
def topoSymmetricUptoRow : OpenClaim := { program := "ytaienbkgekjdnaagreat", sum := "217ffe82108ffd899aa1180235affee4bf04f77266c86842295ea3d72e28e2bc", func := "netverify/netverifylaw13.TopoSymmetric", spec := "topoSymmetric", unfollowed := true, recurses := true, plainKeys := false, apart := false, narrowed := true }
def TopoSymmetricUptoSaid : Prop := topoSymmetricUptoRow.holds Tryz.pinned (OpenSpec.upto topoSymmetricSpec)

/-- 'netverifylaw13.TopoComponents', WHERE WHAT IT READS IS OF BULK AT MOST 1048576: true; the input reads as it did. -/
def topoComponentsUptoRow : OpenClaim := { program := "ytaienbkgekjdnaagreat", sum := "217ffe82108ffd899aa1180235affee4bf04f77266c86842295ea3d72e28e2bc", func := "netverify/netverifylaw13.TopoComponents", spec := "topoComponents", unfollowed := true, recurses := true, plainKeys := false, apart := false, narrowed := true }
def TopoComponentsUptoSaid : Prop := topoComponentsUptoRow.holds Tryz.pinned (OpenSpec.upto topoComponentsSpec)

end Rows
end Go.Proofs.YtaienbkgekjdnaaGreat
