/-
  DERIVED. GIVEN WITH THE SEED: THE CARDS: each row of YtgiegkacilfofabDoorRows.lean that lists a variable, with what it lists TIED to the program's text (the seventh form; the later family's looks); each row that meets fmt, with fmt's text TOLD by the authors' own Lean function (tested against real Go, not proved from fmt's source: count such statements apart). THE CARD IS WHAT COUNTS. Prove the row's statement (the work); the ties are given (YtgiegkacilfofabDoorTie.lean); close each card by the builder's one call (the guide's Derived/Test/ToyasCard.lean, 'card_holds'). Laid BY PROGRAM, IN A SANDBOX (cutbox-door.mjs). By AI agents, Wed Nov 11 2026. No macro, syntax, notation, axiom, sorry.
-/
import Derived.Test.YtgiegkacilfofabDoorRows
import GoSem.ClaimSeven
namespace Go.Proofs.YtgiegkacilfofabDoor
namespace Rows

/-- THE TIED CARD OF 'evenhandlaw19.TierKeeps'. -/
def tierKeepsCard : Claim7 := { stood := { row := tierKeepsRow, standIns := [], harness := (true, "534d1b83153ad76c60f6cc81b8fb88cd3ce2e999deafb62bd08944066784f0de"), looks := false }, kinds := [], alts := [], laidByText := true, laidKinds := [.data, .data, .data, .data], laidTests := true, laidLooks := .later }
def TierKeepsCardSaid : Prop := Claim7.holds Tryd.pinned (.plain (OpenSpec.ofChange tierKeepsSpec)) tierKeepsCard

/-- THE TIED CARD OF 'evenhandlaw19.TierEvicts'. -/
def tierEvictsCard : Claim7 := { stood := { row := tierEvictsRow, standIns := [], harness := (true, "534d1b83153ad76c60f6cc81b8fb88cd3ce2e999deafb62bd08944066784f0de"), looks := false }, kinds := [], alts := [], laidByText := true, laidKinds := [.data, .data, .data, .data], laidTests := true, laidLooks := .later }
def TierEvictsCardSaid : Prop := Claim7.holds Tryd.pinned (.plain (OpenSpec.ofChange tierEvictsSpec)) tierEvictsCard

/-- THE TIED CARD OF 'evenhandlaw19.TierOwn'. -/
def tierOwnCard : Claim7 := { stood := { row := tierOwnRow, standIns := [], harness := (true, "534d1b83153ad76c60f6cc81b8fb88cd3ce2e999deafb62bd08944066784f0de"), looks := false }, kinds := [], alts := [], laidByText := true, laidKinds := [.data, .data, .data, .data], laidTests := true, laidLooks := .later }
def TierOwnCardSaid : Prop := Claim7.holds Tryd.pinned (.plain (OpenSpec.ofChange tierOwnSpec)) tierOwnCard

/-- THE SECOND FORM's CARD OF 'evenhandlaw19.TierKeeps'. -/
def tierKeepsUptoCard : Claim7 := { stood := { row := tierKeepsUptoRow, standIns := [], harness := (true, "534d1b83153ad76c60f6cc81b8fb88cd3ce2e999deafb62bd08944066784f0de"), looks := false }, kinds := [], alts := [], laidByText := true, laidKinds := [.data, .data, .data, .data], laidTests := true, laidLooks := .later }
def TierKeepsUptoCardSaid : Prop := Claim7.holds Tryd.pinned (.plain (OpenSpec.upto tierKeepsSpec)) tierKeepsUptoCard

/-- THE SECOND FORM's CARD OF 'evenhandlaw19.TierEvicts'. -/
def tierEvictsUptoCard : Claim7 := { stood := { row := tierEvictsUptoRow, standIns := [], harness := (true, "534d1b83153ad76c60f6cc81b8fb88cd3ce2e999deafb62bd08944066784f0de"), looks := false }, kinds := [], alts := [], laidByText := true, laidKinds := [.data, .data, .data, .data], laidTests := true, laidLooks := .later }
def TierEvictsUptoCardSaid : Prop := Claim7.holds Tryd.pinned (.plain (OpenSpec.upto tierEvictsSpec)) tierEvictsUptoCard

/-- THE SECOND FORM's CARD OF 'evenhandlaw19.TierOwn'. -/
def tierOwnUptoCard : Claim7 := { stood := { row := tierOwnUptoRow, standIns := [], harness := (true, "534d1b83153ad76c60f6cc81b8fb88cd3ce2e999deafb62bd08944066784f0de"), looks := false }, kinds := [], alts := [], laidByText := true, laidKinds := [.data, .data, .data, .data], laidTests := true, laidLooks := .later }
def TierOwnUptoCardSaid : Prop := Claim7.holds Tryd.pinned (.plain (OpenSpec.upto tierOwnSpec)) tierOwnUptoCard
end Rows
end Go.Proofs.YtgiegkacilfofabDoor
