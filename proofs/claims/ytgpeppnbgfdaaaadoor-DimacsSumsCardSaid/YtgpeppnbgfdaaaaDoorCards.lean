/-
  DERIVED. GIVEN WITH THE SEED: THE CARDS: each row of YtgpeppnbgfdaaaaDoorRows.lean that lists a variable, with what it lists TIED to the program's text (the seventh form; the later family's looks); each row that meets fmt, with fmt's text TOLD by the authors' own Lean function (tested against real Go, not proved from fmt's source: count such statements apart). THE CARD IS WHAT COUNTS. Prove the row's statement (the work); the ties are given (YtgpeppnbgfdaaaaDoorTie.lean); close each card by the builder's one call (the guide's Derived/Test/ToyasCard.lean, 'card_holds'). Laid BY PROGRAM, IN A SANDBOX (cutbox-door.mjs). By AI agents, Wed Nov 11 2026. No macro, syntax, notation, axiom, sorry.
-/
import Derived.Test.YtgpeppnbgfdaaaaDoorRows
import GoSem.ClaimSeven
namespace Go.Proofs.YtgpeppnbgfdaaaaDoor
namespace Rows

/-- THE TIED CARD OF 'racewaylaw4.DimacsSums'. -/
def dimacsSumsCard : Claim7 := { stood := { row := dimacsSumsRow, standIns := [], harness := (true, "50e763d1709239f8c49334171a6f76ea2494f445a3d48598c5b3999aa2649bd7"), looks := true }, kinds := [], alts := [], laidByText := true, laidKinds := [.data, .data, .data, .data, .sentinel, .sentinel, .pinned], laidTests := true, laidLooks := .later }
def DimacsSumsCardSaid : Prop := Claim7.holds Tryd.pinned (.plain (OpenSpec.ofChange dimacsSumsSpec)) dimacsSumsCard

/-- THE SECOND FORM's CARD OF 'racewaylaw4.DimacsSums'. -/
def dimacsSumsUptoCard : Claim7 := { stood := { row := dimacsSumsUptoRow, standIns := [], harness := (true, "50e763d1709239f8c49334171a6f76ea2494f445a3d48598c5b3999aa2649bd7"), looks := true }, kinds := [], alts := [], laidByText := true, laidKinds := [.data, .data, .data, .data, .sentinel, .sentinel, .pinned], laidTests := true, laidLooks := .later }
def DimacsSumsUptoCardSaid : Prop := Claim7.holds Tryd.pinned (.plain (OpenSpec.upto dimacsSumsSpec)) dimacsSumsUptoCard
end Rows
end Go.Proofs.YtgpeppnbgfdaaaaDoor
