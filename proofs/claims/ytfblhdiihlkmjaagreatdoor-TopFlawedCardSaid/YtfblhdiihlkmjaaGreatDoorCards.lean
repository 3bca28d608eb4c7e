/-
  DERIVED. GIVEN WITH THE SEED: THE CARDS: each row of YtfblhdiihlkmjaaGreatDoorRows.lean that lists a variable, with what it lists TIED to the program's text (the seventh form; the later family's looks); each row that meets fmt, with fmt's text TOLD by the authors' own Lean function (tested against real Go, not proved from fmt's source: count such statements apart). THE CARD IS WHAT COUNTS. Prove the row's statement (the work); the ties are given (YtfblhdiihlkmjaaGreatDoorTie.lean); close each card by the builder's one call (the guide's Derived/Test/ToyasCard.lean, 'card_holds'). Laid BY PROGRAM, IN A SANDBOX (cutbox-door.mjs). By AI agents, Wed Nov 11 2026. No macro, syntax, notation, axiom, sorry.
-/
import Derived.Test.YtfblhdiihlkmjaaGreatDoorRows
import GoSem.ClaimSeven
namespace Go.Proofs.YtfblhdiihlkmjaaGreatDoor
namespace Rows

/-- THE TIED CARD OF 'turnbuckletop.TopEncoded'. -/
def topEncodedCard : Claim7 := { stood := { row := topEncodedRow, standIns := [], harness := (true, "0b93d5e0cfbcb3f3f24e0fc928d0976ef298d6cd90403bd626d9421a1a57b650"), looks := true }, kinds := [], alts := [], laidByText := true, laidKinds := [.data], laidTests := true, laidLooks := .later }
def TopEncodedCardSaid : Prop := Claim7.holds Tryz.pinned (.plain (OpenSpec.ofChange topEncodedSpec)) topEncodedCard

/-- THE TIED CARD OF 'turnbuckletop.TopFlawed'. -/
def topFlawedCard : Claim7 := { stood := { row := topFlawedRow, standIns := [], harness := (true, "0b93d5e0cfbcb3f3f24e0fc928d0976ef298d6cd90403bd626d9421a1a57b650"), looks := true }, kinds := [], alts := [], laidByText := true, laidKinds := [.data], laidTests := true, laidLooks := .later }
def TopFlawedCardSaid : Prop := Claim7.holds Tryz.pinned (.plain (OpenSpec.ofChange topFlawedSpec)) topFlawedCard

/-- THE TIED CARD OF 'turnbuckletop.TopReckoned'. -/
def topReckonedCard : Claim7 := { stood := { row := topReckonedRow, standIns := [], harness := (true, "0b93d5e0cfbcb3f3f24e0fc928d0976ef298d6cd90403bd626d9421a1a57b650"), looks := true }, kinds := [], alts := [], laidByText := true, laidKinds := [.data], laidTests := true, laidLooks := .later }
def TopReckonedCardSaid : Prop := Claim7.holds Tryz.pinned (.plain (OpenSpec.ofChange topReckonedSpec)) topReckonedCard

/-- THE SECOND FORM's CARD OF 'turnbuckletop.TopEncoded'. -/
def topEncodedUptoCard : Claim7 := { stood := { row := topEncodedUptoRow, standIns := [], harness := (true, "0b93d5e0cfbcb3f3f24e0fc928d0976ef298d6cd90403bd626d9421a1a57b650"), looks := true }, kinds := [], alts := [], laidByText := true, laidKinds := [.data], laidTests := true, laidLooks := .later }
def TopEncodedUptoCardSaid : Prop := Claim7.holds Tryz.pinned (.plain (OpenSpec.upto topEncodedSpec)) topEncodedUptoCard

/-- THE SECOND FORM's CARD OF 'turnbuckletop.TopFlawed'. -/
def topFlawedUptoCard : Claim7 := { stood := { row := topFlawedUptoRow, standIns := [], harness := (true, "0b93d5e0cfbcb3f3f24e0fc928d0976ef298d6cd90403bd626d9421a1a57b650"), looks := true }, kinds := [], alts := [], laidByText := true, laidKinds := [.data], laidTests := true, laidLooks := .later }
def TopFlawedUptoCardSaid : Prop := Claim7.holds Tryz.pinned (.plain (OpenSpec.upto topFlawedSpec)) topFlawedUptoCard

/-- THE SECOND FORM's CARD OF 'turnbuckletop.TopReckoned'. -/
def topReckonedUptoCard : Claim7 := { stood := { row := topReckonedUptoRow, standIns := [], harness := (true, "0b93d5e0cfbcb3f3f24e0fc928d0976ef298d6cd90403bd626d9421a1a57b650"), looks := true }, kinds := [], alts := [], laidByText := true, laidKinds := [.data], laidTests := true, laidLooks := .later }
def TopReckonedUptoCardSaid : Prop := Claim7.holds Tryz.pinned (.plain (OpenSpec.upto topReckonedSpec)) topReckonedUptoCard
end Rows
end Go.Proofs.YtfblhdiihlkmjaaGreatDoor
