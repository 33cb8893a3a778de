/-
  DERIVED. GIVEN WITH THE SEED: THE CARDS: each row of YtnecgfofefinaaaDoorRows.lean that lists a variable, with what it lists TIED to the program's text (the seventh form; the later family's looks); each row that meets fmt, with fmt's text TOLD by the authors' own Lean function (tested against real Go, not proved from fmt's source: count such statements apart). THE CARD IS WHAT COUNTS. Prove the row's statement (the work); the ties are given (YtnecgfofefinaaaDoorTie.lean); close each card by the builder's one call (the guide's Derived/Test/ToyasCard.lean, 'card_holds'). Laid BY PROGRAM, IN A SANDBOX (cutbox-door.mjs). By AI agents, Wed Nov 11 2026. No macro, syntax, notation, axiom, sorry.
-/
import Derived.Test.YtnecgfofefinaaaDoorRows
import GoSem.ClaimSeven
namespace Go.Proofs.YtnecgfofefinaaaDoor
namespace Rows

/-- THE TIED CARD OF 'evenhandlaw16.FoldTells'. -/
def foldTellsCard : Claim7 := { stood := { row := foldTellsRow, standIns := [], harness := (true, "4a00528dfae32b845e6ae15d3fc753770d8b2dd4ce42b47ef6a37d03194d7c5f"), looks := false }, kinds := [], alts := [], laidByText := true, laidKinds := [.data, .data, .data, .data], laidTests := true, laidLooks := .later }
def FoldTellsCardSaid : Prop := Claim7.holds Tryd.pinned (.plain (OpenSpec.ofChange foldTellsSpec)) foldTellsCard

/-- THE TIED CARD OF 'evenhandlaw16.FoldTwice'. -/
def foldTwiceCard : Claim7 := { stood := { row := foldTwiceRow, standIns := [], harness := (true, "4a00528dfae32b845e6ae15d3fc753770d8b2dd4ce42b47ef6a37d03194d7c5f"), looks := false }, kinds := [], alts := [], laidByText := true, laidKinds := [.data, .data, .data, .data], laidTests := true, laidLooks := .later }
def FoldTwiceCardSaid : Prop := Claim7.holds Tryd.pinned (.plain (OpenSpec.ofChange foldTwiceSpec)) foldTwiceCard

/-- THE TIED CARD OF 'evenhandlaw16.FoldSum'. -/
def foldSumCard : Claim7 := { stood := { row := foldSumRow, standIns := [], harness := (true, "4a00528dfae32b845e6ae15d3fc753770d8b2dd4ce42b47ef6a37d03194d7c5f"), looks := false }, kinds := [], alts := [], laidByText := true, laidKinds := [.data, .data, .data, .data], laidTests := true, laidLooks := .later }
def FoldSumCardSaid : Prop := Claim7.holds Tryd.pinned (.plain (OpenSpec.ofChange foldSumSpec)) foldSumCard

/-- THE TIED CARD OF 'evenhandlaw16.FoldNone'. -/
def foldNoneCard : Claim7 := { stood := { row := foldNoneRow, standIns := [], harness := (true, "4a00528dfae32b845e6ae15d3fc753770d8b2dd4ce42b47ef6a37d03194d7c5f"), looks := false }, kinds := [], alts := [], laidByText := true, laidKinds := [.data, .data, .data, .data], laidTests := true, laidLooks := .later }
def FoldNoneCardSaid : Prop := Claim7.holds Tryd.pinned (.plain (OpenSpec.ofChange foldNoneSpec)) foldNoneCard

/-- THE TIED CARD OF 'evenhandlaw16.FoldJumps'. -/
def foldJumpsCard : Claim7 := { stood := { row := foldJumpsRow, standIns := [], harness := (true, "4a00528dfae32b845e6ae15d3fc753770d8b2dd4ce42b47ef6a37d03194d7c5f"), looks := false }, kinds := [], alts := [], laidByText := true, laidKinds := [.data, .data, .data, .data], laidTests := true, laidLooks := .later }
def FoldJumpsCardSaid : Prop := Claim7.holds Tryd.pinned (.plain (OpenSpec.ofChange foldJumpsSpec)) foldJumpsCard

/-- THE SECOND FORM's CARD OF 'evenhandlaw16.FoldTells'. -/
def foldTellsUptoCard : Claim7 := { stood := { row := foldTellsUptoRow, standIns := [], harness := (true, "4a00528dfae32b845e6ae15d3fc753770d8b2dd4ce42b47ef6a37d03194d7c5f"), looks := false }, kinds := [], alts := [], laidByText := true, laidKinds := [.data, .data, .data, .data], laidTests := true, laidLooks := .later }
def FoldTellsUptoCardSaid : Prop := Claim7.holds Tryd.pinned (.plain (OpenSpec.upto foldTellsSpec)) foldTellsUptoCard

/-- THE SECOND FORM's CARD OF 'evenhandlaw16.FoldTwice'. -/
def foldTwiceUptoCard : Claim7 := { stood := { row := foldTwiceUptoRow, standIns := [], harness := (true, "4a00528dfae32b845e6ae15d3fc753770d8b2dd4ce42b47ef6a37d03194d7c5f"), looks := false }, kinds := [], alts := [], laidByText := true, laidKinds := [.data, .data, .data, .data], laidTests := true, laidLooks := .later }
def FoldTwiceUptoCardSaid : Prop := Claim7.holds Tryd.pinned (.plain (OpenSpec.upto foldTwiceSpec)) foldTwiceUptoCard

/-- THE SECOND FORM's CARD OF 'evenhandlaw16.FoldSum'. -/
def foldSumUptoCard : Claim7 := { stood := { row := foldSumUptoRow, standIns := [], harness := (true, "4a00528dfae32b845e6ae15d3fc753770d8b2dd4ce42b47ef6a37d03194d7c5f"), looks := false }, kinds := [], alts := [], laidByText := true, laidKinds := [.data, .data, .data, .data], laidTests := true, laidLooks := .later }
def FoldSumUptoCardSaid : Prop := Claim7.holds Tryd.pinned (.plain (OpenSpec.upto foldSumSpec)) foldSumUptoCard

/-- THE SECOND FORM's CARD OF 'evenhandlaw16.FoldNone'. -/
def foldNoneUptoCard : Claim7 := { stood := { row := foldNoneUptoRow, standIns := [], harness := (true, "4a00528dfae32b845e6ae15d3fc753770d8b2dd4ce42b47ef6a37d03194d7c5f"), looks := false }, kinds := [], alts := [], laidByText := true, laidKinds := [.data, .data, .data, .data], laidTests := true, laidLooks := .later }
def FoldNoneUptoCardSaid : Prop := Claim7.holds Tryd.pinned (.plain (OpenSpec.upto foldNoneSpec)) foldNoneUptoCard

/-- THE SECOND FORM's CARD OF 'evenhandlaw16.FoldJumps'. -/
def foldJumpsUptoCard : Claim7 := { stood := { row := foldJumpsUptoRow, standIns := [], harness := (true, "4a00528dfae32b845e6ae15d3fc753770d8b2dd4ce42b47ef6a37d03194d7c5f"), looks := false }, kinds := [], alts := [], laidByText := true, laidKinds := [.data, .data, .data, .data], laidTests := true, laidLooks := .later }
def FoldJumpsUptoCardSaid : Prop := Claim7.holds Tryd.pinned (.plain (OpenSpec.upto foldJumpsSpec)) foldJumpsUptoCard
end Rows
end Go.Proofs.YtnecgfofefinaaaDoor
