/-
  DERIVED. GIVEN WITH THE SEED: THE CARDS: each row of YtahmnmpfjgddpaaGreatDoorRows.lean that lists a variable, with what it lists TIED to the program's text (the seventh form; the later family's looks); each row that meets fmt, with fmt's text TOLD by the authors' own Lean function (tested against real Go, not proved from fmt's source: count such statements apart). THE CARD IS WHAT COUNTS. Prove the row's statement (the work); the ties are given (YtahmnmpfjgddpaaGreatDoorTie.lean); close each card by the builder's one call (the guide's Derived/Test/ToyasCard.lean, 'card_holds'). Laid BY PROGRAM, IN A SANDBOX (cutbox-door.mjs). By AI agents, Wed Nov 11 2026. No macro, syntax, notation, axiom, sorry.
-/
import Derived.Test.YtahmnmpfjgddpaaGreatDoorRows
import GoSem.ClaimSeven
namespace Go.Proofs.YtahmnmpfjgddpaaGreatDoor
namespace Rows

/-- THE TIED CARD OF 'evenhandlaw16.FoldRuns'. -/
def foldRunsCard : Claim7 := { stood := { row := foldRunsRow, standIns := [], harness := (true, "52a86e16003f93d757d1dcd41d4ee3e8bb93ec86c2dc641202bfb7bbec25140b"), looks := false }, kinds := [], alts := [], laidByText := true, laidKinds := [.data, .data, .data, .data], laidTests := true, laidLooks := .later }
def FoldRunsCardSaid : Prop := Claim7.holds Tryz.pinned (.plain (OpenSpec.ofChange foldRunsSpec)) foldRunsCard

/-- THE TIED CARD OF 'evenhandlaw17.SpecSame'. -/
def specSameCard : Claim7 := { stood := { row := specSameRow, standIns := [], harness := (true, "52a86e16003f93d757d1dcd41d4ee3e8bb93ec86c2dc641202bfb7bbec25140b"), looks := false }, kinds := [], alts := [], laidByText := true, laidKinds := [.data, .data, .data, .data], laidTests := true, laidLooks := .later }
def SpecSameCardSaid : Prop := Claim7.holds Tryz.pinned (.plain (OpenSpec.ofChange specSameSpec)) specSameCard

/-- THE SECOND FORM's CARD OF 'evenhandlaw16.FoldRuns'. -/
def foldRunsUptoCard : Claim7 := { stood := { row := foldRunsUptoRow, standIns := [], harness := (true, "52a86e16003f93d757d1dcd41d4ee3e8bb93ec86c2dc641202bfb7bbec25140b"), looks := false }, kinds := [], alts := [], laidByText := true, laidKinds := [.data, .data, .data, .data], laidTests := true, laidLooks := .later }
def FoldRunsUptoCardSaid : Prop := Claim7.holds Tryz.pinned (.plain (OpenSpec.upto foldRunsSpec)) foldRunsUptoCard

/-- THE SECOND FORM's CARD OF 'evenhandlaw17.SpecSame'. -/
def specSameUptoCard : Claim7 := { stood := { row := specSameUptoRow, standIns := [], harness := (true, "52a86e16003f93d757d1dcd41d4ee3e8bb93ec86c2dc641202bfb7bbec25140b"), looks := false }, kinds := [], alts := [], laidByText := true, laidKinds := [.data, .data, .data, .data], laidTests := true, laidLooks := .later }
def SpecSameUptoCardSaid : Prop := Claim7.holds Tryz.pinned (.plain (OpenSpec.upto specSameSpec)) specSameUptoCard
end Rows
end Go.Proofs.YtahmnmpfjgddpaaGreatDoor
