/-
  DERIVED. GIVEN WITH THE SEED: THE CARDS: each row of YtlgbepamnkfpjaaDoorRows.lean that lists a variable, with what it lists TIED to the program's text (the seventh form; the later family's looks); each row that meets fmt, with fmt's text TOLD by the authors' own Lean function (tested against real Go, not proved from fmt's source: count such statements apart). THE CARD IS WHAT COUNTS. Prove the row's statement (the work); the ties are given (YtlgbepamnkfpjaaDoorTie.lean); close each card by the builder's one call (the guide's Derived/Test/ToyasCard.lean, 'card_holds'). Laid BY PROGRAM, IN A SANDBOX (cutbox-door.mjs). By AI agents, Wed Nov 11 2026. No macro, syntax, notation, axiom, sorry.
-/
import Derived.Test.YtlgbepamnkfpjaaDoorRows
import GoSem.ClaimSeven
namespace Go.Proofs.YtlgbepamnkfpjaaDoor
namespace Rows

/-- THE TIED CARD OF 'avowlaw3.TermLimits'. -/
def termLimitsCard : Claim7 := { stood := { row := termLimitsRow, standIns := [], harness := (true, "c829ad9b925675f481cbac8c2b95f5b9a393c826d091a98f23f898626b865a60"), looks := true }, kinds := [], alts := [], laidByText := true, laidKinds := [.data, .data, .data], laidTests := true, laidLooks := .later }
def TermLimitsCardSaid : Prop := Claim7.holds Tryd.pinned (.plain (OpenSpec.ofChange termLimitsSpec)) termLimitsCard

/-- THE TIED CARD OF 'avowlaw3.TermWords'. -/
def termWordsCard : Claim7 := { stood := { row := termWordsRow, standIns := [], harness := (true, "c829ad9b925675f481cbac8c2b95f5b9a393c826d091a98f23f898626b865a60"), looks := true }, kinds := [], alts := [], laidByText := true, laidKinds := [.data, .data, .data], laidTests := true, laidLooks := .later }
def TermWordsCardSaid : Prop := Claim7.holds Tryd.pinned (.plain (OpenSpec.ofChange termWordsSpec)) termWordsCard

/-- THE TIED CARD OF 'avowlaw3.TermCounts'. -/
def termCountsCard : Claim7 := { stood := { row := termCountsRow, standIns := [], harness := (true, "c829ad9b925675f481cbac8c2b95f5b9a393c826d091a98f23f898626b865a60"), looks := true }, kinds := [], alts := [], laidByText := true, laidKinds := [.data, .data, .data], laidTests := true, laidLooks := .later }
def TermCountsCardSaid : Prop := Claim7.holds Tryd.pinned (.plain (OpenSpec.ofChange termCountsSpec)) termCountsCard

/-- THE SECOND FORM's CARD OF 'avowlaw3.TermLimits'. -/
def termLimitsUptoCard : Claim7 := { stood := { row := termLimitsUptoRow, standIns := [], harness := (true, "c829ad9b925675f481cbac8c2b95f5b9a393c826d091a98f23f898626b865a60"), looks := true }, kinds := [], alts := [], laidByText := true, laidKinds := [.data, .data, .data], laidTests := true, laidLooks := .later }
def TermLimitsUptoCardSaid : Prop := Claim7.holds Tryd.pinned (.plain (OpenSpec.upto termLimitsSpec)) termLimitsUptoCard

/-- THE SECOND FORM's CARD OF 'avowlaw3.TermWords'. -/
def termWordsUptoCard : Claim7 := { stood := { row := termWordsUptoRow, standIns := [], harness := (true, "c829ad9b925675f481cbac8c2b95f5b9a393c826d091a98f23f898626b865a60"), looks := true }, kinds := [], alts := [], laidByText := true, laidKinds := [.data, .data, .data], laidTests := true, laidLooks := .later }
def TermWordsUptoCardSaid : Prop := Claim7.holds Tryd.pinned (.plain (OpenSpec.upto termWordsSpec)) termWordsUptoCard

/-- THE SECOND FORM's CARD OF 'avowlaw3.TermCounts'. -/
def termCountsUptoCard : Claim7 := { stood := { row := termCountsUptoRow, standIns := [], harness := (true, "c829ad9b925675f481cbac8c2b95f5b9a393c826d091a98f23f898626b865a60"), looks := true }, kinds := [], alts := [], laidByText := true, laidKinds := [.data, .data, .data], laidTests := true, laidLooks := .later }
def TermCountsUptoCardSaid : Prop := Claim7.holds Tryd.pinned (.plain (OpenSpec.upto termCountsSpec)) termCountsUptoCard
end Rows
end Go.Proofs.YtlgbepamnkfpjaaDoor
