/-
  DERIVED. GIVEN WITH THE SEED: THE CARDS: each row of YtdcnpkbflelpfaaDoorRows.lean that lists a variable, with what it lists TIED to the program's text (the seventh form; the later family's looks); each row that meets fmt, with fmt's text TOLD by the authors' own Lean function (tested against real Go, not proved from fmt's source: count such statements apart). THE CARD IS WHAT COUNTS. Prove the row's statement (the work); the ties are given (YtdcnpkbflelpfaaDoorTie.lean); close each card by the builder's one call (the guide's Derived/Test/ToyasCard.lean, 'card_holds'). Laid BY PROGRAM, IN A SANDBOX (cutbox-door.mjs). By AI agents, Wed Nov 11 2026. No macro, syntax, notation, axiom, sorry.
-/
import Derived.Test.YtdcnpkbflelpfaaDoorRows
import GoSem.ClaimSeven
namespace Go.Proofs.YtdcnpkbflelpfaaDoor
namespace Rows

/-- THE TIED CARD OF 'foliotlaw19.ControlVars'. -/
def controlVarsCard : Claim7 := { stood := { row := controlVarsRow, standIns := [], harness := (true, "0fd095605ec529025c3eb831117a42ca9c477135ffce8bffacada76f9e7c20b7"), looks := false }, kinds := [], alts := [], laidByText := true, laidKinds := [.data, .data, .data], laidTests := true, laidLooks := .later }
def ControlVarsCardSaid : Prop := Claim7.holds Tryd.pinned (.plain (OpenSpec.ofChange controlVarsSpec)) controlVarsCard

/-- THE SECOND FORM's CARD OF 'foliotlaw19.ControlVars'. -/
def controlVarsUptoCard : Claim7 := { stood := { row := controlVarsUptoRow, standIns := [], harness := (true, "0fd095605ec529025c3eb831117a42ca9c477135ffce8bffacada76f9e7c20b7"), looks := false }, kinds := [], alts := [], laidByText := true, laidKinds := [.data, .data, .data], laidTests := true, laidLooks := .later }
def ControlVarsUptoCardSaid : Prop := Claim7.holds Tryd.pinned (.plain (OpenSpec.upto controlVarsSpec)) controlVarsUptoCard
end Rows
end Go.Proofs.YtdcnpkbflelpfaaDoor
