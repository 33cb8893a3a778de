/-
  DERIVED. GIVEN WITH THE SEED: THE CARDS: each row of YtpjpndndpcebcaaDoorRows.lean that lists a variable, with what it lists TIED to the program's text (the seventh form; the later family's looks); each row that meets fmt, with fmt's text TOLD by the authors' own Lean function (tested against real Go, not proved from fmt's source: count such statements apart). THE CARD IS WHAT COUNTS. Prove the row's statement (the work); the ties are given (YtpjpndndpcebcaaDoorTie.lean); close each card by the builder's one call (the guide's Derived/Test/ToyasCard.lean, 'card_holds'). Laid BY PROGRAM, IN A SANDBOX (cutbox-door.mjs). By AI agents, Wed Nov 11 2026. No macro, syntax, notation, axiom, sorry.
-/
import Derived.Test.YtpjpndndpcebcaaDoorRows
import GoSem.ClaimSeven
namespace Go.Proofs.YtpjpndndpcebcaaDoor
namespace Rows

/-- THE TIED CARD OF 'evenhandlaw17.SpecTells'. -/
def specTellsCard : Claim7 := { stood := { row := specTellsRow, standIns := [], harness := (true, "ba715fd091d43932c316a6d1348cc3c75c57c22a150af1fbd218f3a2f8f78f0a"), looks := false }, kinds := [], alts := [], laidByText := true, laidKinds := [.data, .data, .data, .data], laidTests := true, laidLooks := .later }
def SpecTellsCardSaid : Prop := Claim7.holds Tryd.pinned (.plain (OpenSpec.ofChange specTellsSpec)) specTellsCard

/-- THE TIED CARD OF 'evenhandlaw17.SpecOwn'. -/
def specOwnCard : Claim7 := { stood := { row := specOwnRow, standIns := [], harness := (true, "ba715fd091d43932c316a6d1348cc3c75c57c22a150af1fbd218f3a2f8f78f0a"), looks := false }, kinds := [], alts := [], laidByText := true, laidKinds := [.data, .data, .data, .data], laidTests := true, laidLooks := .later }
def SpecOwnCardSaid : Prop := Claim7.holds Tryd.pinned (.plain (OpenSpec.ofChange specOwnSpec)) specOwnCard

/-- THE SECOND FORM's CARD OF 'evenhandlaw17.SpecTells'. -/
def specTellsUptoCard : Claim7 := { stood := { row := specTellsUptoRow, standIns := [], harness := (true, "ba715fd091d43932c316a6d1348cc3c75c57c22a150af1fbd218f3a2f8f78f0a"), looks := false }, kinds := [], alts := [], laidByText := true, laidKinds := [.data, .data, .data, .data], laidTests := true, laidLooks := .later }
def SpecTellsUptoCardSaid : Prop := Claim7.holds Tryd.pinned (.plain (OpenSpec.upto specTellsSpec)) specTellsUptoCard

/-- THE SECOND FORM's CARD OF 'evenhandlaw17.SpecOwn'. -/
def specOwnUptoCard : Claim7 := { stood := { row := specOwnUptoRow, standIns := [], harness := (true, "ba715fd091d43932c316a6d1348cc3c75c57c22a150af1fbd218f3a2f8f78f0a"), looks := false }, kinds := [], alts := [], laidByText := true, laidKinds := [.data, .data, .data, .data], laidTests := true, laidLooks := .later }
def SpecOwnUptoCardSaid : Prop := Claim7.holds Tryd.pinned (.plain (OpenSpec.upto specOwnSpec)) specOwnUptoCard
end Rows
end Go.Proofs.YtpjpndndpcebcaaDoor
