/-
  No cell of these rows narrows 'for every input' (looked for: loops, veiled, ifaces, maps, wideKeys, modest, calm, conditions, laid).
  DERIVED. THE GIVEN ROWS OF THIS SEAT. 3 by the template 'for every input the law returns true; each argument reads behind the call as it read before'; 0 by the template 'total and deterministic' (their statements: YtmangnohekiphaaGreatTotals.lean).
  GIVEN WITH THE SEED: the statements are not yours to turn. If you find one false, say at which input.
  Laid BY PROGRAM, IN A SANDBOX (cutbox-rows.mjs): the forced cells as the released guide's own fill.sh prints them over the translation 5a1f04d6a16ea46a… (all of the seat's roots in one cut). By AI agents, Wed Nov 11 2026. No macro, syntax, notation, axiom, sorry.
-/
import Derived.Test.YtmangnohekiphaaGreatChecked
import GoSem.Claim
import GoSem.ClaimJoined
import GoSem.ClaimMapViews
import Derived.JoinedTies
import Derived.KernelRfl
namespace Go.Proofs.YtmangnohekiphaaGreat
/- THE CELL 'sum', in the pinned program and in every row, IS THE sha256 OF THE DUMP (.gsa) THAT YtmangnohekiphaaGreatProg.lean LOADS. Nothing in Lean hashes anything: it is a label: what it is worth is what the hold of that sum in a sandbox is worth. -/
noncomputable def Tryz.pinned : Pinned := { name := "ytmangnohekiphaagreat", sum := "5a1f04d6a16ea46a113543da72781954a5b0e474385e0a5d5e8e4081e232d57b", checked := Tryz.checked }
namespace Rows
def none {H : Type} : Left H := { results := [], args := [] }

/-- 'netverifylaw5.ModelRouters': WHATEVER THE INPUT: true; the input reads as it did. -/
def modelRoutersSpec : ChangeSpec := { name := "modelRouters", fn := fun _ => fun
  | [d] => { results := [.lit (.bool true)], args := [d] }
  | _ => none }
def modelRoutersRow : OpenClaim := { program := "ytmangnohekiphaagreat", sum := "5a1f04d6a16ea46a113543da72781954a5b0e474385e0a5d5e8e4081e232d57b", func := "netverify/netverifylaw5.ModelRouters", spec := "modelRouters", unfollowed := true, recurses := true, apart := false }
def ModelRoutersSaid : Prop := modelRoutersRow.holds Tryz.pinned (OpenSpec.ofChange modelRoutersSpec)

/-- ITS FALSE NEIGHBOUR: 'it returns false'. Refute it at one input. -/
def modelRoutersWrong : ChangeSpec := { name := "modelRouters", fn := fun _ => fun
  | [d] => { results := [.lit (.bool false)], args := [d] }
  | _ => none }
def ModelRoutersWrongFalsely : Prop := modelRoutersRow.holds Tryz.pinned (OpenSpec.ofChange modelRoutersWrong)

/-- 'netverifylaw5.ModelSpoiled': WHATEVER THE INPUT: true; the input reads as it did. -/
def modelSpoiledSpec : ChangeSpec := { name := "modelSpoiled", fn := fun _ => fun
  | [d1, d2, d3] => { results := [.lit (.bool true)], args := [d1, d2, d3] }
  | _ => none }
def modelSpoiledRow : OpenClaim := { program := "ytmangnohekiphaagreat", sum := "5a1f04d6a16ea46a113543da72781954a5b0e474385e0a5d5e8e4081e232d57b", func := "netverify/netverifylaw5.ModelSpoiled", spec := "modelSpoiled", unfollowed := true, recurses := true, apart := false }
def ModelSpoiledSaid : Prop := modelSpoiledRow.holds Tryz.pinned (OpenSpec.ofChange modelSpoiledSpec)

/-- ITS FALSE NEIGHBOUR: 'it returns false'. Refute it at one input. -/
def modelSpoiledWrong : ChangeSpec := { name := "modelSpoiled", fn := fun _ => fun
  | [d1, d2, d3] => { results := [.lit (.bool false)], args := [d1, d2, d3] }
  | _ => none }
def ModelSpoiledWrongFalsely : Prop := modelSpoiledRow.holds Tryz.pinned (OpenSpec.ofChange modelSpoiledWrong)

/-- 'netverifylaw5.ModelNetworks': WHATEVER THE INPUT: true; the input reads as it did. -/
def modelNetworksSpec : ChangeSpec := { name := "modelNetworks", fn := fun _ => fun
  | [d] => { results := [.lit (.bool true)], args := [d] }
  | _ => none }
def modelNetworksRow : OpenClaim := { program := "ytmangnohekiphaagreat", sum := "5a1f04d6a16ea46a113543da72781954a5b0e474385e0a5d5e8e4081e232d57b", func := "netverify/netverifylaw5.ModelNetworks", spec := "modelNetworks", unfollowed := true, recurses := true, apart := false }
def ModelNetworksSaid : Prop := modelNetworksRow.holds Tryz.pinned (OpenSpec.ofChange modelNetworksSpec)

/-- ITS FALSE NEIGHBOUR: 'it returns false'. Refute it at one input. -/
def modelNetworksWrong : ChangeSpec := { name := "modelNetworks", fn := fun _ => fun
  | [d] => { results := [.lit (.bool false)], args := [d] }
  | _ => none }
def ModelNetworksWrongFalsely : Prop := modelNetworksRow.holds Tryz.pinned (OpenSpec.ofChange modelNetworksWrong)

/- THE SECOND FORM. 'bulk': how many values and letters a reading holds, each counted each time it is reached (what is shared counts as often as it is met; a slice's spare places count too). A statement '..UptoSaid' is the law's where the arguments, and the package variables that the reading takes, are together of bulk at most 1048576: NARROWER than '..Said'. Prove '..Said' where nothing that the law and all that it calls make is longer than what came in: it says more and counts as full. Else prove '..UptoSaid'. A law counts once. -/
mutual
def uptoBulk {H : Type} : DataW H → Nat
  | .lit (.string bytes) => bytes.length + 1
  | .lit _ => 1
  | .nil => 1
  | .ptr d => uptoBulk d + 1
  | .slice elems spare => uptoBulkAll elems + uptoBulkAll spare + 1
  | .agg parts => uptoBulkAll parts + 1
  | .iface _ d => uptoBulk d + 1
  | .map entries => uptoBulkEntries entries + 1
  | .held _ => 1
def uptoBulkAll {H : Type} : List (DataW H) → Nat
  | [] => 0
  | d :: r => uptoBulk d + uptoBulkAll r
def uptoBulkEntries {H : Type} : List (Lit × DataW H) → Nat
  | [] => 0
  | x :: r => uptoBulkEntry x + uptoBulkEntries r
def uptoBulkEntry {H : Type} : Lit × DataW H → Nat
  | (.string bytes, d) => bytes.length + uptoBulk d + 1
  | (_, d) => uptoBulk d + 1
 end
def uptoSmall : (H : Type) → List (DataW H) → Bool := fun _ ds => decide (uptoBulkAll ds ≤ 1048576)
def OpenSpec.upto (s : _root_.Go.ChangeSpec) : _root_.Go.OpenSpec := { _root_.Go.OpenSpec.ofChange s with cond := some uptoSmall }

/-- 'netverifylaw5.ModelRouters', WHERE WHAT IT READS IS OF BULK AT MOST 1048576: true; the input reads as it did. -/
def modelRoutersUptoRow : OpenClaim := { program := "ytmangnohekiphaagreat", sum := "5a1f04d6a16ea46a113543da72781954a5b0e474385e0a5d5e8e4081e232d57b", func := "netverify/netverifylaw5.ModelRouters", spec := "modelRouters", unfollowed := true, recurses := true, apart := false, narrowed := true }
def ModelRoutersUptoSaid : Prop := modelRoutersUptoRow.holds Tryz.pinned (OpenSpec.upto modelRoutersSpec)

/-- 'netverifylaw5.ModelSpoiled', WHERE WHAT IT READS IS OF BULK AT MOST 1048576: true; the input reads as it did. -/
def modelSpoiledUptoRow : OpenClaim := { program := "ytmangnohekiphaagreat", sum := "5a1f04d6a16ea46a113543da72781954a5b0e474385e0a5d5e8e4081e232d57b", func := "netverify/netverifylaw5.ModelSpoiled", spec := "modelSpoiled", unfollowed := true, recurses := true, apart := false, narrowed := true }
def ModelSpoiledUptoSaid : Prop := modelSpoiledUptoRow.holds Tryz.pinned (OpenSpec.upto modelSpoiledSpec)

/-- 'netverifylaw5.ModelNetworks', WHERE WHAT IT READS IS OF BULK AT MOST 1048576: true; the input reads as it did. -/
def modelNetworksUptoRow : OpenClaim := { program := "ytmangnohekiphaagreat", sum := "5a1f04d6a16ea46a113543da72781954a5b0e474385e0a5d5e8e4081e232d57b", func := "netverify/netverifylaw5.ModelNetworks", spec := "modelNetworks", unfollowed := true, recurses := true, apart := false, narrowed := true }
def ModelNetworksUptoSaid : Prop := modelNetworksUptoRow.holds Tryz.pinned (OpenSpec.upto modelNetworksSpec)

end Rows
end Go.Proofs.YtmangnohekiphaaGreat
