/-
  DERIVED. GIVEN WITH THE SEED: THE CARDS: each row of YtlgbepamnkfpjaaGreatDoorRows.lean that lists a variable, with what it lists TIED to the program's text (the seventh form; the later family's looks); each row that meets fmt, with fmt's text TOLD by the authors' own Lean function (tested against real Go, not proved from fmt's source: count such statements apart). THE CARD IS WHAT COUNTS. Prove the row's statement (the work); the ties are given (YtlgbepamnkfpjaaGreatDoorTie.lean); close each card by the builder's one call (the guide's Derived/Test/ToyasCard.lean, 'card_holds'). Laid BY PROGRAM, IN A SANDBOX (cutbox-door.mjs). By AI agents, Wed Nov 11 2026. No macro, syntax, notation, axiom, sorry.
-/
import Derived.Test.YtlgbepamnkfpjaaGreatDoorRows
import GoSem.ClaimSeven
namespace Go.Proofs.YtlgbepamnkfpjaaGreatDoor
namespace Rows

/-- THE TIED CARD OF 'avowlaw3.TermChecks'. -/
def termChecksCard : Claim7 := { stood := { row := termChecksRow, standIns := [], harness := (true, "dad085594ab0223d63b4904c6a60dc69f48619f4669fd66f6450afaf51933733"), looks := true }, kinds := [], alts := [], laidByText := true, laidKinds := [.data, .data, .data], laidTests := true, laidLooks := .later }
def TermChecksCardSaid : Prop := Claim7.holds Tryz.pinned (.plain (OpenSpec.ofChange termChecksSpec)) termChecksCard

/-- THE TIED CARD OF 'avowlaw3.TermApps'. -/
def termAppsCard : Claim7 := { stood := { row := termAppsRow, standIns := [], harness := (true, "dad085594ab0223d63b4904c6a60dc69f48619f4669fd66f6450afaf51933733"), looks := true }, kinds := [], alts := [], laidByText := true, laidKinds := [.data, .data, .data], laidTests := true, laidLooks := .later }
def TermAppsCardSaid : Prop := Claim7.holds Tryz.pinned (.plain (OpenSpec.ofChange termAppsSpec)) termAppsCard

/-- THE TIED CARD OF 'avowlaw3.TermSigs'. -/
def termSigsCard : Claim7 := { stood := { row := termSigsRow, standIns := [], harness := (true, "dad085594ab0223d63b4904c6a60dc69f48619f4669fd66f6450afaf51933733"), looks := true }, kinds := [], alts := [], laidByText := true, laidKinds := [.data, .data, .data], laidTests := true, laidLooks := .later }
def TermSigsCardSaid : Prop := Claim7.holds Tryz.pinned (.plain (OpenSpec.ofChange termSigsSpec)) termSigsCard

/-- THE SECOND FORM's CARD OF 'avowlaw3.TermChecks'. -/
def termChecksUptoCard : Claim7 := { stood := { row := termChecksUptoRow, standIns := [], harness := (true, "dad085594ab0223d63b4904c6a60dc69f48619f4669fd66f6450afaf51933733"), looks := true }, kinds := [], alts := [], laidByText := true, laidKinds := [.data, .data, .data], laidTests := true, laidLooks := .later }
def TermChecksUptoCardSaid : Prop := Claim7.holds Tryz.pinned (.plain (OpenSpec.upto termChecksSpec)) termChecksUptoCard

/-- THE SECOND FORM's CARD OF 'avowlaw3.TermApps'. -/
def termAppsUptoCard : Claim7 := { stood := { row := termAppsUptoRow, standIns := [], harness := (true, "dad085594ab0223d63b4904c6a60dc69f48619f4669fd66f6450afaf51933733"), looks := true }, kinds := [], alts := [], laidByText := true, laidKinds := [.data, .data, .data], laidTests := true, laidLooks := .later }
def TermAppsUptoCardSaid : Prop := Claim7.holds Tryz.pinned (.plain (OpenSpec.upto termAppsSpec)) termAppsUptoCard

/-- THE SECOND FORM's CARD OF 'avowlaw3.TermSigs'. -/
def termSigsUptoCard : Claim7 := { stood := { row := termSigsUptoRow, standIns := [], harness := (true, "dad085594ab0223d63b4904c6a60dc69f48619f4669fd66f6450afaf51933733"), looks := true }, kinds := [], alts := [], laidByText := true, laidKinds := [.data, .data, .data], laidTests := true, laidLooks := .later }
def TermSigsUptoCardSaid : Prop := Claim7.holds Tryz.pinned (.plain (OpenSpec.upto termSigsSpec)) termSigsUptoCard
end Rows
end Go.Proofs.YtlgbepamnkfpjaaGreatDoor
