/-
  No cell of these rows narrows 'for every input' (looked for: loops, veiled, ifaces, maps, wideKeys, modest, calm, conditions, laid).
  DERIVED. THE GIVEN ROWS OF THIS SEAT. 9 by the template 'for every input the law returns true; each argument reads behind the call as it read before'; 0 by the template 'total and deterministic' (their statements: YtkonldpliejgpaaTotals.lean).
  GIVEN WITH THE SEED: the statements are not yours to turn. If you find one false, say at which input.
  Laid BY PROGRAM, IN A SANDBOX (cutbox-rows.mjs): the forced cells as the released guide's own fill.sh prints them over the translation 9cae67f2dc6eefe6… (all of the seat's roots in one cut). By AI agents, Wed Nov 11 2026. No macro, syntax, notation, axiom, sorry.
-/
import Derived.Test.YtkonldpliejgpaaChecked
import GoSem.Claim
import GoSem.ClaimJoined
import GoSem.ClaimMapViews
import Derived.JoinedTies
import Derived.KernelRfl
namespace Go.Proofs.Ytkonldpliejgpaa
/- THE CELL 'sum', in the pinned program and in every row, IS THE sha256 OF THE DUMP (.gsa) THAT YtkonldpliejgpaaProg.lean LOADS. Nothing in Lean hashes anything: it is a label: what it is worth is what the hold of that sum in a sandbox is worth. -/
noncomputable def Try.pinned : Pinned := { name := "ytkonldpliejgpaa", sum := "9cae67f2dc6eefe680d28500679cfcbe43bbc0fccf0eca58c0751cbb7076a94d", checked := Try.checked }
namespace Rows
def none {H : Type} : Left H := { results := [], args := [] }

/-- 'netverifylaw14.RouteValid': WHATEVER THE INPUT: true; the input reads as it did. -/
def routeValidSpec : ChangeSpec := { name := "routeValid", fn := fun _ => fun
  | [d] => { results := [.lit (.bool true)], args := [d] }
  | _ => none }
def routeValidRow : OpenClaim := { program := "ytkonldpliejgpaa", sum := "9cae67f2dc6eefe680d28500679cfcbe43bbc0fccf0eca58c0751cbb7076a94d", func := "netverify/netverifylaw14.RouteValid", spec := "routeValid", unfollowed := true, recurses := true, apart := false }
def RouteValidSaid : Prop := routeValidRow.holds Try.pinned (OpenSpec.ofChange routeValidSpec)

/-- ITS FALSE NEIGHBOUR: 'it returns false'. Refute it at one input. -/
def routeValidWrong : ChangeSpec := { name := "routeValid", fn := fun _ => fun
  | [d] => { results := [.lit (.bool false)], args := [d] }
  | _ => none }
def RouteValidWrongFalsely : Prop := routeValidRow.holds Try.pinned (OpenSpec.ofChange routeValidWrong)

/-- 'netverifylaw14.RoutePrefers': WHATEVER THE INPUT: true; the input reads as it did. -/
def routePrefersSpec : ChangeSpec := { name := "routePrefers", fn := fun _ => fun
  | [d1, d2] => { results := [.lit (.bool true)], args := [d1, d2] }
  | _ => none }
def routePrefersRow : OpenClaim := { program := "ytkonldpliejgpaa", sum := "9cae67f2dc6eefe680d28500679cfcbe43bbc0fccf0eca58c0751cbb7076a94d", func := "netverify/netverifylaw14.RoutePrefers", spec := "routePrefers", unfollowed := true, recurses := true, apart := false }
def RoutePrefersSaid : Prop := routePrefersRow.holds Try.pinned (OpenSpec.ofChange routePrefersSpec)

/-- ITS FALSE NEIGHBOUR: 'it returns false'. Refute it at one input. -/
def routePrefersWrong : ChangeSpec := { name := "routePrefers", fn := fun _ => fun
  | [d1, d2] => { results := [.lit (.bool false)], args := [d1, d2] }
  | _ => none }
def RoutePrefersWrongFalsely : Prop := routePrefersRow.holds Try.pinned (OpenSpec.ofChange routePrefersWrong)

/-- 'netverifylaw14.RouteOrder': WHATEVER THE INPUT: true; the input reads as it did. -/
def routeOrderSpec : ChangeSpec := { name := "routeOrder", fn := fun _ => fun
  | [d1, d2, d3] => { results := [.lit (.bool true)], args := [d1, d2, d3] }
  | _ => none }
def routeOrderRow : OpenClaim := { program := "ytkonldpliejgpaa", sum := "9cae67f2dc6eefe680d28500679cfcbe43bbc0fccf0eca58c0751cbb7076a94d", func := "netverify/netverifylaw14.RouteOrder", spec := "routeOrder", unfollowed := true, recurses := true, apart := false }
def RouteOrderSaid : Prop := routeOrderRow.holds Try.pinned (OpenSpec.ofChange routeOrderSpec)

/-- ITS FALSE NEIGHBOUR: 'it returns false'. Refute it at one input. -/
def routeOrderWrong : ChangeSpec := { name := "routeOrder", fn := fun _ => fun
  | [d1, d2, d3] => { results := [.lit (.bool false)], args := [d1, d2, d3] }
  | _ => none }
def RouteOrderWrongFalsely : Prop := routeOrderRow.holds Try.pinned (OpenSpec.ofChange routeOrderWrong)

/-- 'netverifylaw14.RouteBest': WHATEVER THE INPUT: true; the input reads as it did. -/
def routeBestSpec : ChangeSpec := { name := "routeBest", fn := fun _ => fun
  | [d] => { results := [.lit (.bool true)], args := [d] }
  | _ => none }
def routeBestRow : OpenClaim := { program := "ytkonldpliejgpaa", sum := "9cae67f2dc6eefe680d28500679cfcbe43bbc0fccf0eca58c0751cbb7076a94d", func := "netverify/netverifylaw14.RouteBest", spec := "routeBest", unfollowed := true, recurses := true, apart := false }
def RouteBestSaid : Prop := routeBestRow.holds Try.pinned (OpenSpec.ofChange routeBestSpec)

/-- ITS FALSE NEIGHBOUR: 'it returns false'. Refute it at one input. -/
def routeBestWrong : ChangeSpec := { name := "routeBest", fn := fun _ => fun
  | [d] => { results := [.lit (.bool false)], args := [d] }
  | _ => none }
def RouteBestWrongFalsely : Prop := routeBestRow.holds Try.pinned (OpenSpec.ofChange routeBestWrong)

/-- 'netverifylaw14.RouteLongest': WHATEVER THE INPUT: true; the input reads as it did. -/
def routeLongestSpec : ChangeSpec := { name := "routeLongest", fn := fun _ => fun
  | [d1, d2] => { results := [.lit (.bool true)], args := [d1, d2] }
  | _ => none }
def routeLongestRow : OpenClaim := { program := "ytkonldpliejgpaa", sum := "9cae67f2dc6eefe680d28500679cfcbe43bbc0fccf0eca58c0751cbb7076a94d", func := "netverify/netverifylaw14.RouteLongest", spec := "routeLongest", unfollowed := true, recurses := true, apart := false }
def RouteLongestSaid : Prop := routeLongestRow.holds Try.pinned (OpenSpec.ofChange routeLongestSpec)

/-- ITS FALSE NEIGHBOUR: 'it returns false'. Refute it at one input. -/
def routeLongestWrong : ChangeSpec := { name := "routeLongest", fn := fun _ => fun
  | [d1, d2] => { results := [.lit (.bool false)], args := [d1, d2] }
  | _ => none }
def RouteLongestWrongFalsely : Prop := routeLongestRow.holds Try.pinned (OpenSpec.ofChange routeLongestWrong)

/-- 'netverifylaw14.RouteTables': WHATEVER THE INPUT: true; the input reads as it did. -/
def routeTablesSpec : ChangeSpec := { name := "routeTables", fn := fun _ => fun
  | [d1, d2, d3, d4] => { results := [.lit (.bool true)], args := [d1, d2, d3, d4] }
  | _ => none }
def routeTablesRow : OpenClaim := { program := "ytkonldpliejgpaa", sum := "9cae67f2dc6eefe680d28500679cfcbe43bbc0fccf0eca58c0751cbb7076a94d", func := "netverify/netverifylaw14.RouteTables", spec := "routeTables", unfollowed := true, recurses := true, apart := false }
def RouteTablesSaid : Prop := routeTablesRow.holds Try.pinned (OpenSpec.ofChange routeTablesSpec)

/-- ITS FALSE NEIGHBOUR: 'it returns false'. Refute it at one input. -/
def routeTablesWrong : ChangeSpec := { name := "routeTables", fn := fun _ => fun
  | [d1, d2, d3, d4] => { results := [.lit (.bool false)], args := [d1, d2, d3, d4] }
  | _ => none }
def RouteTablesWrongFalsely : Prop := routeTablesRow.holds Try.pinned (OpenSpec.ofChange routeTablesWrong)

/-- 'netverifylaw14.RouteSame': WHATEVER THE INPUT: true; the input reads as it did. -/
def routeSameSpec : ChangeSpec := { name := "routeSame", fn := fun _ => fun
  | [d1, d2, d3] => { results := [.lit (.bool true)], args := [d1, d2, d3] }
  | _ => none }
def routeSameRow : OpenClaim := { program := "ytkonldpliejgpaa", sum := "9cae67f2dc6eefe680d28500679cfcbe43bbc0fccf0eca58c0751cbb7076a94d", func := "netverify/netverifylaw14.RouteSame", spec := "routeSame", unfollowed := true, recurses := true, apart := false }
def RouteSameSaid : Prop := routeSameRow.holds Try.pinned (OpenSpec.ofChange routeSameSpec)

/-- ITS FALSE NEIGHBOUR: 'it returns false'. Refute it at one input. -/
def routeSameWrong : ChangeSpec := { name := "routeSame", fn := fun _ => fun
  | [d1, d2, d3] => { results := [.lit (.bool false)], args := [d1, d2, d3] }
  | _ => none }
def RouteSameWrongFalsely : Prop := routeSameRow.holds Try.pinned (OpenSpec.ofChange routeSameWrong)

/-- 'netverifylaw14.RouteMerges': WHATEVER THE INPUT: true; the input reads as it did. -/
def routeMergesSpec : ChangeSpec := { name := "routeMerges", fn := fun _ => fun
  | [d] => { results := [.lit (.bool true)], args := [d] }
  | _ => none }
def routeMergesRow : OpenClaim := { program := "ytkonldpliejgpaa", sum := "9cae67f2dc6eefe680d28500679cfcbe43bbc0fccf0eca58c0751cbb7076a94d", func := "netverify/netverifylaw14.RouteMerges", spec := "routeMerges", unfollowed := true, recurses := true, apart := false }
def RouteMergesSaid : Prop := routeMergesRow.holds Try.pinned (OpenSpec.ofChange routeMergesSpec)

/-- ITS FALSE NEIGHBOUR: 'it returns false'. Refute it at one input. -/
def routeMergesWrong : ChangeSpec := { name := "routeMerges", fn := fun _ => fun
  | [d] => { results := [.lit (.bool false)], args := [d] }
  | _ => none }
def RouteMergesWrongFalsely : Prop := routeMergesRow.holds Try.pinned (OpenSpec.ofChange routeMergesWrong)

/-- 'netverifylaw14.RouteMergeAgain': WHATEVER THE INPUT: true; the input reads as it did. -/
def routeMergeAgainSpec : ChangeSpec := { name := "routeMergeAgain", fn := fun _ => fun
  | [d1, d2] => { results := [.lit (.bool true)], args := [d1, d2] }
  | _ => none }
def routeMergeAgainRow : OpenClaim := { program := "ytkonldpliejgpaa", sum := "9cae67f2dc6eefe680d28500679cfcbe43bbc0fccf0eca58c0751cbb7076a94d", func := "netverify/netverifylaw14.RouteMergeAgain", spec := "routeMergeAgain", unfollowed := true, recurses := true, apart := false }
def RouteMergeAgainSaid : Prop := routeMergeAgainRow.holds Try.pinned (OpenSpec.ofChange routeMergeAgainSpec)

/-- ITS FALSE NEIGHBOUR: 'it returns false'. Refute it at one input. -/
def routeMergeAgainWrong : ChangeSpec := { name := "routeMergeAgain", fn := fun _ => fun
  | [d1, d2] => { results := [.lit (.bool false)], args := [d1, d2] }
  | _ => none }
def RouteMergeAgainWrongFalsely : Prop := routeMergeAgainRow.holds Try.pinned (OpenSpec.ofChange routeMergeAgainWrong)

/- THE SECOND FORM. 'bulk': how many values and letters a reading holds, each counted each time it is reached (what is shared counts as often as it is met; a slice's spare places count too). A statement '..UptoSaid' is the law's where the arguments, and the package variables that the reading takes, are together of bulk at most 1048576: NARROWER than '..Said'. Prove '..Said' where nothing that the law and all that it calls make is longer than what came in: it says more and counts as full. Else prove '..UptoSaid'. A law counts once. -/
mutual
def uptoBulk {H : Type} : DataW H → Nat
  | .lit (.string bytes) => bytes.length + 1
  | .lit _ => 1
  | .nil => 1
  | .ptr d => uptoBulk d + 1
  | .slice elems spare => uptoBulkAll elems + uptoBulkAll spare + 1
  | .agg parts => uptoBulkAll parts + 1
  | .iface _ d => uptoBulk d + 1
  | .map entries => uptoBulkEntries entries + 1
  | .held _ => 1
def uptoBulkAll {H : Type} : List (DataW H) → Nat
  | [] => 0
  | d :: r => uptoBulk d + uptoBulkAll r
def uptoBulkEntries {H : Type} : List (Lit × DataW H) → Nat
  | [] => 0
  | x :: r => uptoBulkEntry x + uptoBulkEntries r
def uptoBulkEntry {H : Type} : Lit × DataW H → Nat
  | (.string bytes, d) => bytes.length + uptoBulk d + 1
  | (_, d) => uptoBulk d + 1
 end
def uptoSmall : (H : Type) → List (DataW H) → Bool := fun _ ds => decide (uptoBulkAll ds ≤ 1048576)
def OpenSpec.upto (s : _root_.Go.ChangeSpec) : _root_.Go.OpenSpec := { _root_.Go.OpenSpec.ofChange s with cond := some uptoSmall }

/-- 'netverifylaw14.RouteValid', WHERE WHAT IT READS IS OF BULK AT MOST 1048576: true; the input reads as it did. -/
def routeValidUptoRow : OpenClaim := { program := "ytkonldpliejgpaa", sum := "9cae67f2dc6eefe680d28500679cfcbe43bbc0fccf0eca58c0751cbb7076a94d", func := "netverify/netverifylaw14.RouteValid", spec := "routeValid", unfollowed := true, recurses := true, apart := false, narrowed := true }
def RouteValidUptoSaid : Prop := routeValidUptoRow.holds Try.pinned (OpenSpec.upto routeValidSpec)

/-- 'netverifylaw14.RoutePrefers', WHERE WHAT IT READS IS OF BULK AT MOST 1048576: true; the input reads as it did. -/
def routePrefersUptoRow : OpenClaim := { program := "ytkonldpliejgpaa", sum := "9cae67f2dc6eefe680d28500679cfcbe43bbc0fccf0eca58c0751cbb7076a94d", func := "netverify/netverifylaw14.RoutePrefers", spec := "routePrefers", unfollowed := true, recurses := true, apart := false, narrowed := true }
def RoutePrefersUptoSaid : Prop := routePrefersUptoRow.holds Try.pinned (OpenSpec.upto routePrefersSpec)

/-- 'netverifylaw14.RouteOrder', WHERE WHAT IT READS IS OF BULK AT MOST 1048576: true; the input reads as it did. -/
def routeOrderUptoRow : OpenClaim := { program := "ytkonldpliejgpaa", sum := "9cae67f2dc6eefe680d28500679cfcbe43bbc0fccf0eca58c0751cbb7076a94d", func := "netverify/netverifylaw14.RouteOrder", spec := "routeOrder", unfollowed := true, recurses := true, apart := false, narrowed := true }
def RouteOrderUptoSaid : Prop := routeOrderUptoRow.holds Try.pinned (OpenSpec.upto routeOrderSpec)

/-- 'netverifylaw14.RouteBest', WHERE WHAT IT READS IS OF BULK AT MOST 1048576: true; the input reads as it did. -/
def routeBestUptoRow : OpenClaim := { program := "ytkonldpliejgpaa", sum := "9cae67f2dc6eefe680d28500679cfcbe43bbc0fccf0eca58c0751cbb7076a94d", func := "netverify/netverifylaw14.RouteBest", spec := "routeBest", unfollowed := true, recurses := true, apart := false, narrowed := true }
def RouteBestUptoSaid : Prop := routeBestUptoRow.holds Try.pinned (OpenSpec.upto routeBestSpec)

/-- 'netverifylaw14.RouteLongest', WHERE WHAT IT READS IS OF BULK AT MOST 1048576: true; the input reads as it did. -/
def routeLongestUptoRow : OpenClaim := { program := "ytkonldpliejgpaa", sum := "9cae67f2dc6eefe680d28500679cfcbe43bbc0fccf0eca58c0751cbb7076a94d", func := "netverify/netverifylaw14.RouteLongest", spec := "routeLongest", unfollowed := true, recurses := true, apart := false, narrowed := true }
def RouteLongestUptoSaid : Prop := routeLongestUptoRow.holds Try.pinned (OpenSpec.upto routeLongestSpec)

/-- 'netverifylaw14.RouteTables', WHERE WHAT IT READS IS OF BULK AT MOST 1048576: true; the input reads as it did. -/
def routeTablesUptoRow : OpenClaim := { program := "ytkonldpliejgpaa", sum := "9cae67f2dc6eefe680d28500679cfcbe43bbc0fccf0eca58c0751cbb7076a94d", func := "netverify/netverifylaw14.RouteTables", spec := "routeTables", unfollowed := true, recurses := true, apart := false, narrowed := true }
def RouteTablesUptoSaid : Prop := routeTablesUptoRow.holds Try.pinned (OpenSpec.upto routeTablesSpec)

/-- 'netverifylaw14.RouteSame', WHERE WHAT IT READS IS OF BULK AT MOST 1048576: true; the input reads as it did. -/
def routeSameUptoRow : OpenClaim := { program := "ytkonldpliejgpaa", sum := "9cae67f2dc6eefe680d28500679cfcbe43bbc0fccf0eca58c0751cbb7076a94d", func := "netverify/netverifylaw14.RouteSame", spec := "routeSame", unfollowed := true, recurses := true, apart := false, narrowed := true }
def RouteSameUptoSaid : Prop := routeSameUptoRow.holds Try.pinned (OpenSpec.upto routeSameSpec)

/-- 'netverifylaw14.RouteMerges', WHERE WHAT IT READS IS OF BULK AT MOST 1048576: true; the input reads as it did. -/
def routeMergesUptoRow : OpenClaim := { program := "ytkonldpliejgpaa", sum := "9cae67f2dc6eefe680d28500679cfcbe43bbc0fccf0eca58c0751cbb7076a94d", func := "netverify/netverifylaw14.RouteMerges", spec := "routeMerges", unfollowed := true, recurses := true, apart := false, narrowed := true }
def RouteMergesUptoSaid : Prop := routeMergesUptoRow.holds Try.pinned (OpenSpec.upto routeMergesSpec)

/-- 'netverifylaw14.RouteMergeAgain', WHERE WHAT IT READS IS OF BULK AT MOST 1048576: true; the input reads as it did. -/
def routeMergeAgainUptoRow : OpenClaim := { program := "ytkonldpliejgpaa", sum := "9cae67f2dc6eefe680d28500679cfcbe43bbc0fccf0eca58c0751cbb7076a94d", func := "netverify/netverifylaw14.RouteMergeAgain", spec := "routeMergeAgain", unfollowed := true, recurses := true, apart := false, narrowed := true }
def RouteMergeAgainUptoSaid : Prop := routeMergeAgainUptoRow.holds Try.pinned (OpenSpec.upto routeMergeAgainSpec)

end Rows
end Go.Proofs.Ytkonldpliejgpaa
