/-
  No cell of these rows narrows 'for every input' (looked for: loops, veiled, ifaces, maps, wideKeys, modest, calm, conditions, laid).
  DERIVED. THE GIVEN ROWS OF THIS SEAT. 6 by the template 'for every input the law returns true; each argument reads behind the call as it read before'; 0 by the template 'total and deterministic' (their statements: YtghjgndlgliieaaTotals.lean).
  GIVEN WITH THE SEED: the statements are not yours to turn. If you find one false, say at which input.
  Laid BY PROGRAM, IN A SANDBOX (cutbox-rows.mjs): the forced cells as the released guide's own fill.sh prints them over the translation 4c0fdd30dbb8f6d9… (all of the seat's roots in one cut). By AI agents, Wed Nov 11 2026. No macro, syntax, notation, axiom, sorry.
-/
import Derived.Test.YtghjgndlgliieaaChecked
import GoSem.Claim
import GoSem.ClaimJoined
import GoSem.ClaimMapViews
import Derived.JoinedTies
import Derived.KernelRfl
namespace Go.Proofs.Ytghjgndlgliieaa
/- THE CELL 'sum', in the pinned program and in every row, IS THE sha256 OF THE DUMP (.gsa) THAT YtghjgndlgliieaaProg.lean LOADS. Nothing in Lean hashes anything: it is a label: what it is worth is what the hold of that sum in a sandbox is worth. -/
noncomputable def Try.pinned : Pinned := { name := "ytghjgndlgliieaa", sum := "4c0fdd30dbb8f6d9e1b9568701e88dbeb590d684deead713ebe0a1ae5dba239e", checked := Try.checked }
namespace Rows
def none {H : Type} : Left H := { results := [], args := [] }

/-- 'netverifylaw19.RibSelects': WHATEVER THE INPUT: true; the input reads as it did. -/
def ribSelectsSpec : ChangeSpec := { name := "ribSelects", fn := fun _ => fun
  | [d] => { results := [.lit (.bool true)], args := [d] }
  | _ => none }
def ribSelectsRow : OpenClaim := { program := "ytghjgndlgliieaa", sum := "4c0fdd30dbb8f6d9e1b9568701e88dbeb590d684deead713ebe0a1ae5dba239e", func := "netverify/netverifylaw19.RibSelects", spec := "ribSelects", unfollowed := true, recurses := true, apart := false }
def RibSelectsSaid : Prop := ribSelectsRow.holds Try.pinned (OpenSpec.ofChange ribSelectsSpec)

/-- ITS FALSE NEIGHBOUR: 'it returns false'. Refute it at one input. -/
def ribSelectsWrong : ChangeSpec := { name := "ribSelects", fn := fun _ => fun
  | [d] => { results := [.lit (.bool false)], args := [d] }
  | _ => none }
def RibSelectsWrongFalsely : Prop := ribSelectsRow.holds Try.pinned (OpenSpec.ofChange ribSelectsWrong)

/-- 'netverifylaw19.RibOrder': WHATEVER THE INPUT: true; the input reads as it did. -/
def ribOrderSpec : ChangeSpec := { name := "ribOrder", fn := fun _ => fun
  | [d1, d2, d3] => { results := [.lit (.bool true)], args := [d1, d2, d3] }
  | _ => none }
def ribOrderRow : OpenClaim := { program := "ytghjgndlgliieaa", sum := "4c0fdd30dbb8f6d9e1b9568701e88dbeb590d684deead713ebe0a1ae5dba239e", func := "netverify/netverifylaw19.RibOrder", spec := "ribOrder", unfollowed := true, recurses := true, apart := false }
def RibOrderSaid : Prop := ribOrderRow.holds Try.pinned (OpenSpec.ofChange ribOrderSpec)

/-- ITS FALSE NEIGHBOUR: 'it returns false'. Refute it at one input. -/
def ribOrderWrong : ChangeSpec := { name := "ribOrder", fn := fun _ => fun
  | [d1, d2, d3] => { results := [.lit (.bool false)], args := [d1, d2, d3] }
  | _ => none }
def RibOrderWrongFalsely : Prop := ribOrderRow.holds Try.pinned (OpenSpec.ofChange ribOrderWrong)

/-- 'netverifylaw19.RibBest': WHATEVER THE INPUT: true; the input reads as it did. -/
def ribBestSpec : ChangeSpec := { name := "ribBest", fn := fun _ => fun
  | [d] => { results := [.lit (.bool true)], args := [d] }
  | _ => none }
def ribBestRow : OpenClaim := { program := "ytghjgndlgliieaa", sum := "4c0fdd30dbb8f6d9e1b9568701e88dbeb590d684deead713ebe0a1ae5dba239e", func := "netverify/netverifylaw19.RibBest", spec := "ribBest", unfollowed := true, recurses := true, apart := false }
def RibBestSaid : Prop := ribBestRow.holds Try.pinned (OpenSpec.ofChange ribBestSpec)

/-- ITS FALSE NEIGHBOUR: 'it returns false'. Refute it at one input. -/
def ribBestWrong : ChangeSpec := { name := "ribBest", fn := fun _ => fun
  | [d] => { results := [.lit (.bool false)], args := [d] }
  | _ => none }
def RibBestWrongFalsely : Prop := ribBestRow.holds Try.pinned (OpenSpec.ofChange ribBestWrong)

/-- 'netverifylaw19.RibCandidates': WHATEVER THE INPUT: true; the input reads as it did. -/
def ribCandidatesSpec : ChangeSpec := { name := "ribCandidates", fn := fun _ => fun
  | [d] => { results := [.lit (.bool true)], args := [d] }
  | _ => none }
def ribCandidatesRow : OpenClaim := { program := "ytghjgndlgliieaa", sum := "4c0fdd30dbb8f6d9e1b9568701e88dbeb590d684deead713ebe0a1ae5dba239e", func := "netverify/netverifylaw19.RibCandidates", spec := "ribCandidates", unfollowed := true, recurses := true, apart := false }
def RibCandidatesSaid : Prop := ribCandidatesRow.holds Try.pinned (OpenSpec.ofChange ribCandidatesSpec)

/-- ITS FALSE NEIGHBOUR: 'it returns false'. Refute it at one input. -/
def ribCandidatesWrong : ChangeSpec := { name := "ribCandidates", fn := fun _ => fun
  | [d] => { results := [.lit (.bool false)], args := [d] }
  | _ => none }
def RibCandidatesWrongFalsely : Prop := ribCandidatesRow.holds Try.pinned (OpenSpec.ofChange ribCandidatesWrong)

/-- 'netverifylaw19.RibRedistributes': WHATEVER THE INPUT: true; the input reads as it did. -/
def ribRedistributesSpec : ChangeSpec := { name := "ribRedistributes", fn := fun _ => fun
  | [d1, d2, d3] => { results := [.lit (.bool true)], args := [d1, d2, d3] }
  | _ => none }
def ribRedistributesRow : OpenClaim := { program := "ytghjgndlgliieaa", sum := "4c0fdd30dbb8f6d9e1b9568701e88dbeb590d684deead713ebe0a1ae5dba239e", func := "netverify/netverifylaw19.RibRedistributes", spec := "ribRedistributes", unfollowed := true, recurses := true, apart := false }
def RibRedistributesSaid : Prop := ribRedistributesRow.holds Try.pinned (OpenSpec.ofChange ribRedistributesSpec)

/-- ITS FALSE NEIGHBOUR: 'it returns false'. Refute it at one input. -/
def ribRedistributesWrong : ChangeSpec := { name := "ribRedistributes", fn := fun _ => fun
  | [d1, d2, d3] => { results := [.lit (.bool false)], args := [d1, d2, d3] }
  | _ => none }
def RibRedistributesWrongFalsely : Prop := ribRedistributesRow.holds Try.pinned (OpenSpec.ofChange ribRedistributesWrong)

/-- 'netverifylaw19.RibOffers': WHATEVER THE INPUT: true; the input reads as it did. -/
def ribOffersSpec : ChangeSpec := { name := "ribOffers", fn := fun _ => fun
  | [d1, d2, d3] => { results := [.lit (.bool true)], args := [d1, d2, d3] }
  | _ => none }
def ribOffersRow : OpenClaim := { program := "ytghjgndlgliieaa", sum := "4c0fdd30dbb8f6d9e1b9568701e88dbeb590d684deead713ebe0a1ae5dba239e", func := "netverify/netverifylaw19.RibOffers", spec := "ribOffers", unfollowed := true, recurses := true, apart := false }
def RibOffersSaid : Prop := ribOffersRow.holds Try.pinned (OpenSpec.ofChange ribOffersSpec)

/-- ITS FALSE NEIGHBOUR: 'it returns false'. Refute it at one input. -/
def ribOffersWrong : ChangeSpec := { name := "ribOffers", fn := fun _ => fun
  | [d1, d2, d3] => { results := [.lit (.bool false)], args := [d1, d2, d3] }
  | _ => none }
def RibOffersWrongFalsely : Prop := ribOffersRow.holds Try.pinned (OpenSpec.ofChange ribOffersWrong)

/- THE SECOND FORM. 'bulk': how many values and letters a reading holds, each counted each time it is reached (what is shared counts as often as it is met; a slice's spare places count too). A statement '..UptoSaid' is the law's where the arguments, and the package variables that the reading takes, are together of bulk at most 1048576: NARROWER than '..Said'. Prove '..Said' where nothing that the law and all that it calls make is longer than what came in: it says more and counts as full. Else prove '..UptoSaid'. A law counts once. -/
mutual
def uptoBulk {H : Type} : DataW H → Nat
  | .lit (.string bytes) => bytes.length + 1
  | .lit _ => 1
  | .nil => 1
  | .ptr d => uptoBulk d + 1
  | .slice elems spare => uptoBulkAll elems + uptoBulkAll spare + 1
  | .agg parts => uptoBulkAll parts + 1
  | .iface _ d => uptoBulk d + 1
  | .map entries => uptoBulkEntries entries + 1
  | .held _ => 1
def uptoBulkAll {H : Type} : List (DataW H) → Nat
  | [] => 0
  | d :: r => uptoBulk d + uptoBulkAll r
def uptoBulkEntries {H : Type} : List (Lit × DataW H) → Nat
  | [] => 0
  | x :: r => uptoBulkEntry x + uptoBulkEntries r
def uptoBulkEntry {H : Type} : Lit × DataW H → Nat
  | (.string bytes, d) => bytes.length + uptoBulk d + 1
  | (_, d) => uptoBulk d + 1
 end
def uptoSmall : (H : Type) → List (DataW H) → Bool := fun _ ds => decide (uptoBulkAll ds ≤ 1048576)
def OpenSpec.upto (s : _root_.Go.ChangeSpec) : _root_.Go.OpenSpec := { _root_.Go.OpenSpec.ofChange s with cond := some uptoSmall }

/-- 'netverifylaw19.RibSelects', WHERE WHAT IT READS IS OF BULK AT MOST 1048576: true; the input reads as it did. -/
def ribSelectsUptoRow : OpenClaim := { program := "ytghjgndlgliieaa", sum := "4c0fdd30dbb8f6d9e1b9568701e88dbeb590d684deead713ebe0a1ae5dba239e", func := "netverify/netverifylaw19.RibSelects", spec := "ribSelects", unfollowed := true, recurses := true, apart := false, narrowed := true }
def RibSelectsUptoSaid : Prop := ribSelectsUptoRow.holds Try.pinned (OpenSpec.upto ribSelectsSpec)

/-- 'netverifylaw19.RibOrder', WHERE WHAT IT READS IS OF BULK AT MOST 1048576: true; the input reads as it did. -/
def ribOrderUptoRow : OpenClaim := { program := "ytghjgndlgliieaa", sum := "4c0fdd30dbb8f6d9e1b9568701e88dbeb590d684deead713ebe0a1ae5dba239e", func := "netverify/netverifylaw19.RibOrder", spec := "ribOrder", unfollowed := true, recurses := true, apart := false, narrowed := true }
def RibOrderUptoSaid : Prop := ribOrderUptoRow.holds Try.pinned (OpenSpec.upto ribOrderSpec)

/-- 'netverifylaw19.RibBest', WHERE WHAT IT READS IS OF BULK AT MOST 1048576: true; the input reads as it did. -/
def ribBestUptoRow : OpenClaim := { program := "ytghjgndlgliieaa", sum := "4c0fdd30dbb8f6d9e1b9568701e88dbeb590d684deead713ebe0a1ae5dba239e", func := "netverify/netverifylaw19.RibBest", spec := "ribBest", unfollowed := true, recurses := true, apart := false, narrowed := true }
def RibBestUptoSaid : Prop := ribBestUptoRow.holds Try.pinned (OpenSpec.upto ribBestSpec)

/-- 'netverifylaw19.RibCandidates', WHERE WHAT IT READS IS OF BULK AT MOST 1048576: true; the input reads as it did. -/
def ribCandidatesUptoRow : OpenClaim := { program := "ytghjgndlgliieaa", sum := "4c0fdd30dbb8f6d9e1b9568701e88dbeb590d684deead713ebe0a1ae5dba239e", func := "netverify/netverifylaw19.RibCandidates", spec := "ribCandidates", unfollowed := true, recurses := true, apart := false, narrowed := true }
def RibCandidatesUptoSaid : Prop := ribCandidatesUptoRow.holds Try.pinned (OpenSpec.upto ribCandidatesSpec)

/-- 'netverifylaw19.RibRedistributes', WHERE WHAT IT READS IS OF BULK AT MOST 1048576: true; the input reads as it did. -/
def ribRedistributesUptoRow : OpenClaim := { program := "ytghjgndlgliieaa", sum := "4c0fdd30dbb8f6d9e1b9568701e88dbeb590d684deead713ebe0a1ae5dba239e", func := "netverify/netverifylaw19.RibRedistributes", spec := "ribRedistributes", unfollowed := true, recurses := true, apart := false, narrowed := true }
def RibRedistributesUptoSaid : Prop := ribRedistributesUptoRow.holds Try.pinned (OpenSpec.upto ribRedistributesSpec)

/-- 'netverifylaw19.RibOffers', WHERE WHAT IT READS IS OF BULK AT MOST 1048576: true; the input reads as it did. -/
def ribOffersUptoRow : OpenClaim := { program := "ytghjgndlgliieaa", sum := "4c0fdd30dbb8f6d9e1b9568701e88dbeb590d684deead713ebe0a1ae5dba239e", func := "netverify/netverifylaw19.RibOffers", spec := "ribOffers", unfollowed := true, recurses := true, apart := false, narrowed := true }
def RibOffersUptoSaid : Prop := ribOffersUptoRow.holds Try.pinned (OpenSpec.upto ribOffersSpec)

end Rows
end Go.Proofs.Ytghjgndlgliieaa
