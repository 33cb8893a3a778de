/-
  DERIVED. GIVEN WITH THE SEED: THE CARDS: each row of YtgiegkacilfofaaDoorRows.lean that lists a variable, with what it lists TIED to the program's text (the seventh form; the later family's looks); each row that meets fmt, with fmt's text TOLD by the authors' own Lean function (tested against real Go, not proved from fmt's source: count such statements apart). THE CARD IS WHAT COUNTS. Prove the row's statement (the work); the ties are given (YtgiegkacilfofaaDoorTie.lean); close each card by the builder's one call (the guide's Derived/Test/ToyasCard.lean, 'card_holds'). Laid BY PROGRAM, IN A SANDBOX (cutbox-door.mjs). By AI agents, Wed Nov 11 2026. No macro, syntax, notation, axiom, sorry.
-/
import Derived.Test.YtgiegkacilfofaaDoorRows
import GoSem.ClaimSeven
namespace Go.Proofs.YtgiegkacilfofaaDoor
namespace Rows

/-- THE TIED CARD OF 'evenhandlaw19.TierPublic'. -/
def tierPublicCard : Claim7 := { stood := { row := tierPublicRow, standIns := [], harness := (true, "ac2fb35fdf673d6fb4606ccef6a29b578b6f0ec567252d2bf0fdaae274022461"), looks := false }, kinds := [], alts := [], laidByText := true, laidKinds := [.data, .data, .data, .data], laidTests := true, laidLooks := .later }
def TierPublicCardSaid : Prop := Claim7.holds Tryd.pinned (.plain (OpenSpec.ofChange tierPublicSpec)) tierPublicCard

/-- THE TIED CARD OF 'evenhandlaw19.TierSkips'. -/
def tierSkipsCard : Claim7 := { stood := { row := tierSkipsRow, standIns := [], harness := (true, "ac2fb35fdf673d6fb4606ccef6a29b578b6f0ec567252d2bf0fdaae274022461"), looks := false }, kinds := [], alts := [], laidByText := true, laidKinds := [.data, .data, .data, .data], laidTests := true, laidLooks := .later }
def TierSkipsCardSaid : Prop := Claim7.holds Tryd.pinned (.plain (OpenSpec.ofChange tierSkipsSpec)) tierSkipsCard

/-- THE TIED CARD OF 'evenhandlaw19.TierCharges'. -/
def tierChargesCard : Claim7 := { stood := { row := tierChargesRow, standIns := [], harness := (true, "ac2fb35fdf673d6fb4606ccef6a29b578b6f0ec567252d2bf0fdaae274022461"), looks := false }, kinds := [], alts := [], laidByText := true, laidKinds := [.data, .data, .data, .data], laidTests := true, laidLooks := .later }
def TierChargesCardSaid : Prop := Claim7.holds Tryd.pinned (.plain (OpenSpec.ofChange tierChargesSpec)) tierChargesCard

/-- THE SECOND FORM's CARD OF 'evenhandlaw19.TierPublic'. -/
def tierPublicUptoCard : Claim7 := { stood := { row := tierPublicUptoRow, standIns := [], harness := (true, "ac2fb35fdf673d6fb4606ccef6a29b578b6f0ec567252d2bf0fdaae274022461"), looks := false }, kinds := [], alts := [], laidByText := true, laidKinds := [.data, .data, .data, .data], laidTests := true, laidLooks := .later }
def TierPublicUptoCardSaid : Prop := Claim7.holds Tryd.pinned (.plain (OpenSpec.upto tierPublicSpec)) tierPublicUptoCard

/-- THE SECOND FORM's CARD OF 'evenhandlaw19.TierSkips'. -/
def tierSkipsUptoCard : Claim7 := { stood := { row := tierSkipsUptoRow, standIns := [], harness := (true, "ac2fb35fdf673d6fb4606ccef6a29b578b6f0ec567252d2bf0fdaae274022461"), looks := false }, kinds := [], alts := [], laidByText := true, laidKinds := [.data, .data, .data, .data], laidTests := true, laidLooks := .later }
def TierSkipsUptoCardSaid : Prop := Claim7.holds Tryd.pinned (.plain (OpenSpec.upto tierSkipsSpec)) tierSkipsUptoCard

/-- THE SECOND FORM's CARD OF 'evenhandlaw19.TierCharges'. -/
def tierChargesUptoCard : Claim7 := { stood := { row := tierChargesUptoRow, standIns := [], harness := (true, "ac2fb35fdf673d6fb4606ccef6a29b578b6f0ec567252d2bf0fdaae274022461"), looks := false }, kinds := [], alts := [], laidByText := true, laidKinds := [.data, .data, .data, .data], laidTests := true, laidLooks := .later }
def TierChargesUptoCardSaid : Prop := Claim7.holds Tryd.pinned (.plain (OpenSpec.upto tierChargesSpec)) tierChargesUptoCard
end Rows
end Go.Proofs.YtgiegkacilfofaaDoor
