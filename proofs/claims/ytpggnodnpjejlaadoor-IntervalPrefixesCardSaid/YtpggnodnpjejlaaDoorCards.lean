/-
  DERIVED. GIVEN WITH THE SEED: THE CARDS: each row of YtpggnodnpjejlaaDoorRows.lean that lists a variable, with what it lists TIED to the program's text (the seventh form; the later family's looks); each row that meets fmt, with fmt's text TOLD by the authors' own Lean function (tested against real Go, not proved from fmt's source: count such statements apart). THE CARD IS WHAT COUNTS. Prove the row's statement (the work); the ties are given (YtpggnodnpjejlaaDoorTie.lean); close each card by the builder's one call (the guide's Derived/Test/ToyasCard.lean, 'card_holds'). Laid BY PROGRAM, IN A SANDBOX (cutbox-door.mjs). By AI agents, Wed Nov 11 2026. No macro, syntax, notation, axiom, sorry.
-/
import Derived.Test.YtpggnodnpjejlaaDoorRows
import GoSem.ClaimSeven
namespace Go.Proofs.YtpggnodnpjejlaaDoor
namespace Rows

/-- THE TIED CARD OF 'netverifylaw3.IntervalPrefixes'. -/
def intervalPrefixesCard : Claim7 := { stood := { row := intervalPrefixesRow, standIns := [], harness := (true, "acff87b95aee9710bb573ac82724f33d9dee4d7bd0678eb755925edf2cd95327"), looks := false }, kinds := [], alts := [], laidByText := true, laidKinds := [.data], laidTests := true, laidLooks := .later }
def IntervalPrefixesCardSaid : Prop := Claim7.holds Tryd.pinned (.plain (OpenSpec.ofChange intervalPrefixesSpec)) intervalPrefixesCard

/-- THE TIED CARD OF 'netverifylaw3.IntervalNormalizes'. -/
def intervalNormalizesCard : Claim7 := { stood := { row := intervalNormalizesRow, standIns := [], harness := (true, "acff87b95aee9710bb573ac82724f33d9dee4d7bd0678eb755925edf2cd95327"), looks := false }, kinds := [], alts := [], laidByText := true, laidKinds := [.data], laidTests := true, laidLooks := .later }
def IntervalNormalizesCardSaid : Prop := Claim7.holds Tryd.pinned (.plain (OpenSpec.ofChange intervalNormalizesSpec)) intervalNormalizesCard

/-- THE TIED CARD OF 'netverifylaw3.IntervalShortest'. -/
def intervalShortestCard : Claim7 := { stood := { row := intervalShortestRow, standIns := [], harness := (true, "acff87b95aee9710bb573ac82724f33d9dee4d7bd0678eb755925edf2cd95327"), looks := false }, kinds := [], alts := [], laidByText := true, laidKinds := [.data], laidTests := true, laidLooks := .later }
def IntervalShortestCardSaid : Prop := Claim7.holds Tryd.pinned (.plain (OpenSpec.ofChange intervalShortestSpec)) intervalShortestCard

/-- THE TIED CARD OF 'netverifylaw3.IntervalOf'. -/
def intervalOfCard : Claim7 := { stood := { row := intervalOfRow, standIns := [], harness := (true, "acff87b95aee9710bb573ac82724f33d9dee4d7bd0678eb755925edf2cd95327"), looks := false }, kinds := [], alts := [], laidByText := true, laidKinds := [.data], laidTests := true, laidLooks := .later }
def IntervalOfCardSaid : Prop := Claim7.holds Tryd.pinned (.plain (OpenSpec.ofChange intervalOfSpec)) intervalOfCard

/-- THE TIED CARD OF 'netverifylaw3.IntervalSizes'. -/
def intervalSizesCard : Claim7 := { stood := { row := intervalSizesRow, standIns := [], harness := (true, "acff87b95aee9710bb573ac82724f33d9dee4d7bd0678eb755925edf2cd95327"), looks := false }, kinds := [], alts := [], laidByText := true, laidKinds := [.data], laidTests := true, laidLooks := .later }
def IntervalSizesCardSaid : Prop := Claim7.holds Tryd.pinned (.plain (OpenSpec.ofChange intervalSizesSpec)) intervalSizesCard

/-- THE TIED CARD OF 'netverifylaw3.IntervalExact'. -/
def intervalExactCard : Claim7 := { stood := { row := intervalExactRow, standIns := [], harness := (true, "acff87b95aee9710bb573ac82724f33d9dee4d7bd0678eb755925edf2cd95327"), looks := false }, kinds := [], alts := [], laidByText := true, laidKinds := [.data], laidTests := true, laidLooks := .later }
def IntervalExactCardSaid : Prop := Claim7.holds Tryd.pinned (.plain (OpenSpec.ofChange intervalExactSpec)) intervalExactCard

/-- THE TIED CARD OF 'netverifylaw3.IntervalAlgebra'. -/
def intervalAlgebraCard : Claim7 := { stood := { row := intervalAlgebraRow, standIns := [], harness := (true, "acff87b95aee9710bb573ac82724f33d9dee4d7bd0678eb755925edf2cd95327"), looks := false }, kinds := [], alts := [], laidByText := true, laidKinds := [.data], laidTests := true, laidLooks := .later }
def IntervalAlgebraCardSaid : Prop := Claim7.holds Tryd.pinned (.plain (OpenSpec.ofChange intervalAlgebraSpec)) intervalAlgebraCard

/-- THE TIED CARD OF 'netverifylaw3.IntervalCombines'. -/
def intervalCombinesCard : Claim7 := { stood := { row := intervalCombinesRow, standIns := [], harness := (true, "acff87b95aee9710bb573ac82724f33d9dee4d7bd0678eb755925edf2cd95327"), looks := false }, kinds := [], alts := [], laidByText := true, laidKinds := [.data], laidTests := true, laidLooks := .later }
def IntervalCombinesCardSaid : Prop := Claim7.holds Tryd.pinned (.plain (OpenSpec.ofChange intervalCombinesSpec)) intervalCombinesCard

/-- THE SECOND FORM's CARD OF 'netverifylaw3.IntervalPrefixes'. -/
def intervalPrefixesUptoCard : Claim7 := { stood := { row := intervalPrefixesUptoRow, standIns := [], harness := (true, "acff87b95aee9710bb573ac82724f33d9dee4d7bd0678eb755925edf2cd95327"), looks := false }, kinds := [], alts := [], laidByText := true, laidKinds := [.data], laidTests := true, laidLooks := .later }
def IntervalPrefixesUptoCardSaid : Prop := Claim7.holds Tryd.pinned (.plain (OpenSpec.upto intervalPrefixesSpec)) intervalPrefixesUptoCard

/-- THE SECOND FORM's CARD OF 'netverifylaw3.IntervalNormalizes'. -/
def intervalNormalizesUptoCard : Claim7 := { stood := { row := intervalNormalizesUptoRow, standIns := [], harness := (true, "acff87b95aee9710bb573ac82724f33d9dee4d7bd0678eb755925edf2cd95327"), looks := false }, kinds := [], alts := [], laidByText := true, laidKinds := [.data], laidTests := true, laidLooks := .later }
def IntervalNormalizesUptoCardSaid : Prop := Claim7.holds Tryd.pinned (.plain (OpenSpec.upto intervalNormalizesSpec)) intervalNormalizesUptoCard

/-- THE SECOND FORM's CARD OF 'netverifylaw3.IntervalShortest'. -/
def intervalShortestUptoCard : Claim7 := { stood := { row := intervalShortestUptoRow, standIns := [], harness := (true, "acff87b95aee9710bb573ac82724f33d9dee4d7bd0678eb755925edf2cd95327"), looks := false }, kinds := [], alts := [], laidByText := true, laidKinds := [.data], laidTests := true, laidLooks := .later }
def IntervalShortestUptoCardSaid : Prop := Claim7.holds Tryd.pinned (.plain (OpenSpec.upto intervalShortestSpec)) intervalShortestUptoCard

/-- THE SECOND FORM's CARD OF 'netverifylaw3.IntervalOf'. -/
def intervalOfUptoCard : Claim7 := { stood := { row := intervalOfUptoRow, standIns := [], harness := (true, "acff87b95aee9710bb573ac82724f33d9dee4d7bd0678eb755925edf2cd95327"), looks := false }, kinds := [], alts := [], laidByText := true, laidKinds := [.data], laidTests := true, laidLooks := .later }
def IntervalOfUptoCardSaid : Prop := Claim7.holds Tryd.pinned (.plain (OpenSpec.upto intervalOfSpec)) intervalOfUptoCard

/-- THE SECOND FORM's CARD OF 'netverifylaw3.IntervalSizes'. -/
def intervalSizesUptoCard : Claim7 := { stood := { row := intervalSizesUptoRow, standIns := [], harness := (true, "acff87b95aee9710bb573ac82724f33d9dee4d7bd0678eb755925edf2cd95327"), looks := false }, kinds := [], alts := [], laidByText := true, laidKinds := [.data], laidTests := true, laidLooks := .later }
def IntervalSizesUptoCardSaid : Prop := Claim7.holds Tryd.pinned (.plain (OpenSpec.upto intervalSizesSpec)) intervalSizesUptoCard

/-- THE SECOND FORM's CARD OF 'netverifylaw3.IntervalExact'. -/
def intervalExactUptoCard : Claim7 := { stood := { row := intervalExactUptoRow, standIns := [], harness := (true, "acff87b95aee9710bb573ac82724f33d9dee4d7bd0678eb755925edf2cd95327"), looks := false }, kinds := [], alts := [], laidByText := true, laidKinds := [.data], laidTests := true, laidLooks := .later }
def IntervalExactUptoCardSaid : Prop := Claim7.holds Tryd.pinned (.plain (OpenSpec.upto intervalExactSpec)) intervalExactUptoCard

/-- THE SECOND FORM's CARD OF 'netverifylaw3.IntervalAlgebra'. -/
def intervalAlgebraUptoCard : Claim7 := { stood := { row := intervalAlgebraUptoRow, standIns := [], harness := (true, "acff87b95aee9710bb573ac82724f33d9dee4d7bd0678eb755925edf2cd95327"), looks := false }, kinds := [], alts := [], laidByText := true, laidKinds := [.data], laidTests := true, laidLooks := .later }
def IntervalAlgebraUptoCardSaid : Prop := Claim7.holds Tryd.pinned (.plain (OpenSpec.upto intervalAlgebraSpec)) intervalAlgebraUptoCard

/-- THE SECOND FORM's CARD OF 'netverifylaw3.IntervalCombines'. -/
def intervalCombinesUptoCard : Claim7 := { stood := { row := intervalCombinesUptoRow, standIns := [], harness := (true, "acff87b95aee9710bb573ac82724f33d9dee4d7bd0678eb755925edf2cd95327"), looks := false }, kinds := [], alts := [], laidByText := true, laidKinds := [.data], laidTests := true, laidLooks := .later }
def IntervalCombinesUptoCardSaid : Prop := Claim7.holds Tryd.pinned (.plain (OpenSpec.upto intervalCombinesSpec)) intervalCombinesUptoCard
end Rows
end Go.Proofs.YtpggnodnpjejlaaDoor
