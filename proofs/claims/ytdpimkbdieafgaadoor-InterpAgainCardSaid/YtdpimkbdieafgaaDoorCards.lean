/-
  DERIVED. GIVEN WITH THE SEED: THE CARDS: each row of YtdpimkbdieafgaaDoorRows.lean that lists a variable, with what it lists TIED to the program's text (the seventh form; the later family's looks); each row that meets fmt, with fmt's text TOLD by the authors' own Lean function (tested against real Go, not proved from fmt's source: count such statements apart). THE CARD IS WHAT COUNTS. Prove the row's statement (the work); the ties are given (YtdpimkbdieafgaaDoorTie.lean); close each card by the builder's one call (the guide's Derived/Test/ToyasCard.lean, 'card_holds'). Laid BY PROGRAM, IN A SANDBOX (cutbox-door.mjs). By AI agents, Wed Nov 11 2026. No macro, syntax, notation, axiom, sorry.
-/
import Derived.Test.YtdpimkbdieafgaaDoorRows
import GoSem.ClaimSeven
namespace Go.Proofs.YtdpimkbdieafgaaDoor
namespace Rows

/-- THE TIED CARD OF 'evenhandlaw14.InterpTells'. -/
def interpTellsCard : Claim7 := { stood := { row := interpTellsRow, standIns := [], harness := (true, "dcc9372a28c8699a96b584df18456ded1089bd7b653357663a3109ebe23146d9"), looks := false }, kinds := [], alts := [], laidByText := true, laidKinds := [.data], laidTests := true, laidLooks := .later }
def InterpTellsCardSaid : Prop := Claim7.holds Tryd.pinned (.plain (OpenSpec.ofChange interpTellsSpec)) interpTellsCard

/-- THE TIED CARD OF 'evenhandlaw14.InterpBounds'. -/
def interpBoundsCard : Claim7 := { stood := { row := interpBoundsRow, standIns := [], harness := (true, "dcc9372a28c8699a96b584df18456ded1089bd7b653357663a3109ebe23146d9"), looks := false }, kinds := [], alts := [], laidByText := true, laidKinds := [.data], laidTests := true, laidLooks := .later }
def InterpBoundsCardSaid : Prop := Claim7.holds Tryd.pinned (.plain (OpenSpec.ofChange interpBoundsSpec)) interpBoundsCard

/-- THE TIED CARD OF 'evenhandlaw14.InterpMore'. -/
def interpMoreCard : Claim7 := { stood := { row := interpMoreRow, standIns := [], harness := (true, "dcc9372a28c8699a96b584df18456ded1089bd7b653357663a3109ebe23146d9"), looks := false }, kinds := [], alts := [], laidByText := true, laidKinds := [.data], laidTests := true, laidLooks := .later }
def InterpMoreCardSaid : Prop := Claim7.holds Tryd.pinned (.plain (OpenSpec.ofChange interpMoreSpec)) interpMoreCard

/-- THE TIED CARD OF 'evenhandlaw14.InterpInputs'. -/
def interpInputsCard : Claim7 := { stood := { row := interpInputsRow, standIns := [], harness := (true, "dcc9372a28c8699a96b584df18456ded1089bd7b653357663a3109ebe23146d9"), looks := false }, kinds := [], alts := [], laidByText := true, laidKinds := [.data], laidTests := true, laidLooks := .later }
def InterpInputsCardSaid : Prop := Claim7.holds Tryd.pinned (.plain (OpenSpec.ofChange interpInputsSpec)) interpInputsCard

/-- THE TIED CARD OF 'evenhandlaw14.InterpDepth'. -/
def interpDepthCard : Claim7 := { stood := { row := interpDepthRow, standIns := [], harness := (true, "dcc9372a28c8699a96b584df18456ded1089bd7b653357663a3109ebe23146d9"), looks := false }, kinds := [], alts := [], laidByText := true, laidKinds := [.data], laidTests := true, laidLooks := .later }
def InterpDepthCardSaid : Prop := Claim7.holds Tryd.pinned (.plain (OpenSpec.ofChange interpDepthSpec)) interpDepthCard

/-- THE TIED CARD OF 'evenhandlaw14.InterpArrays'. -/
def interpArraysCard : Claim7 := { stood := { row := interpArraysRow, standIns := [], harness := (true, "dcc9372a28c8699a96b584df18456ded1089bd7b653357663a3109ebe23146d9"), looks := false }, kinds := [], alts := [], laidByText := true, laidKinds := [.data], laidTests := true, laidLooks := .later }
def InterpArraysCardSaid : Prop := Claim7.holds Tryd.pinned (.plain (OpenSpec.ofChange interpArraysSpec)) interpArraysCard

/-- THE TIED CARD OF 'evenhandlaw14.InterpAgain'. -/
def interpAgainCard : Claim7 := { stood := { row := interpAgainRow, standIns := [], harness := (true, "dcc9372a28c8699a96b584df18456ded1089bd7b653357663a3109ebe23146d9"), looks := false }, kinds := [], alts := [], laidByText := true, laidKinds := [.data, .data, .data, .data], laidTests := true, laidLooks := .later }
def InterpAgainCardSaid : Prop := Claim7.holds Tryd.pinned (.plain (OpenSpec.ofChange interpAgainSpec)) interpAgainCard

/-- THE SECOND FORM's CARD OF 'evenhandlaw14.InterpTells'. -/
def interpTellsUptoCard : Claim7 := { stood := { row := interpTellsUptoRow, standIns := [], harness := (true, "dcc9372a28c8699a96b584df18456ded1089bd7b653357663a3109ebe23146d9"), looks := false }, kinds := [], alts := [], laidByText := true, laidKinds := [.data], laidTests := true, laidLooks := .later }
def InterpTellsUptoCardSaid : Prop := Claim7.holds Tryd.pinned (.plain (OpenSpec.upto interpTellsSpec)) interpTellsUptoCard

/-- THE SECOND FORM's CARD OF 'evenhandlaw14.InterpBounds'. -/
def interpBoundsUptoCard : Claim7 := { stood := { row := interpBoundsUptoRow, standIns := [], harness := (true, "dcc9372a28c8699a96b584df18456ded1089bd7b653357663a3109ebe23146d9"), looks := false }, kinds := [], alts := [], laidByText := true, laidKinds := [.data], laidTests := true, laidLooks := .later }
def InterpBoundsUptoCardSaid : Prop := Claim7.holds Tryd.pinned (.plain (OpenSpec.upto interpBoundsSpec)) interpBoundsUptoCard

/-- THE SECOND FORM's CARD OF 'evenhandlaw14.InterpMore'. -/
def interpMoreUptoCard : Claim7 := { stood := { row := interpMoreUptoRow, standIns := [], harness := (true, "dcc9372a28c8699a96b584df18456ded1089bd7b653357663a3109ebe23146d9"), looks := false }, kinds := [], alts := [], laidByText := true, laidKinds := [.data], laidTests := true, laidLooks := .later }
def InterpMoreUptoCardSaid : Prop := Claim7.holds Tryd.pinned (.plain (OpenSpec.upto interpMoreSpec)) interpMoreUptoCard

/-- THE SECOND FORM's CARD OF 'evenhandlaw14.InterpInputs'. -/
def interpInputsUptoCard : Claim7 := { stood := { row := interpInputsUptoRow, standIns := [], harness := (true, "dcc9372a28c8699a96b584df18456ded1089bd7b653357663a3109ebe23146d9"), looks := false }, kinds := [], alts := [], laidByText := true, laidKinds := [.data], laidTests := true, laidLooks := .later }
def InterpInputsUptoCardSaid : Prop := Claim7.holds Tryd.pinned (.plain (OpenSpec.upto interpInputsSpec)) interpInputsUptoCard

/-- THE SECOND FORM's CARD OF 'evenhandlaw14.InterpDepth'. -/
def interpDepthUptoCard : Claim7 := { stood := { row := interpDepthUptoRow, standIns := [], harness := (true, "dcc9372a28c8699a96b584df18456ded1089bd7b653357663a3109ebe23146d9"), looks := false }, kinds := [], alts := [], laidByText := true, laidKinds := [.data], laidTests := true, laidLooks := .later }
def InterpDepthUptoCardSaid : Prop := Claim7.holds Tryd.pinned (.plain (OpenSpec.upto interpDepthSpec)) interpDepthUptoCard

/-- THE SECOND FORM's CARD OF 'evenhandlaw14.InterpArrays'. -/
def interpArraysUptoCard : Claim7 := { stood := { row := interpArraysUptoRow, standIns := [], harness := (true, "dcc9372a28c8699a96b584df18456ded1089bd7b653357663a3109ebe23146d9"), looks := false }, kinds := [], alts := [], laidByText := true, laidKinds := [.data], laidTests := true, laidLooks := .later }
def InterpArraysUptoCardSaid : Prop := Claim7.holds Tryd.pinned (.plain (OpenSpec.upto interpArraysSpec)) interpArraysUptoCard

/-- THE SECOND FORM's CARD OF 'evenhandlaw14.InterpAgain'. -/
def interpAgainUptoCard : Claim7 := { stood := { row := interpAgainUptoRow, standIns := [], harness := (true, "dcc9372a28c8699a96b584df18456ded1089bd7b653357663a3109ebe23146d9"), looks := false }, kinds := [], alts := [], laidByText := true, laidKinds := [.data, .data, .data, .data], laidTests := true, laidLooks := .later }
def InterpAgainUptoCardSaid : Prop := Claim7.holds Tryd.pinned (.plain (OpenSpec.upto interpAgainSpec)) interpAgainUptoCard
end Rows
end Go.Proofs.YtdpimkbdieafgaaDoor
