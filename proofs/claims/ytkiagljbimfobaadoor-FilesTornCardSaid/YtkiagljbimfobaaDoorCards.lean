/-
  DERIVED. GIVEN WITH THE SEED: THE CARDS: each row of YtkiagljbimfobaaDoorRows.lean that lists a variable, with what it lists TIED to the program's text (the seventh form; the later family's looks); each row that meets fmt, with fmt's text TOLD by the authors' own Lean function (tested against real Go, not proved from fmt's source: count such statements apart). THE CARD IS WHAT COUNTS. Prove the row's statement (the work); the ties are given (YtkiagljbimfobaaDoorTie.lean); close each card by the builder's one call (the guide's Derived/Test/ToyasCard.lean, 'card_holds'). Laid BY PROGRAM, IN A SANDBOX (cutbox-door.mjs). By AI agents, Wed Nov 11 2026. No macro, syntax, notation, axiom, sorry.
-/
import Derived.Test.YtkiagljbimfobaaDoorRows
import GoSem.ClaimSeven
namespace Go.Proofs.YtkiagljbimfobaaDoor
namespace Rows

/-- THE TIED CARD OF 'foliotlaw18.FilesTorn'. -/
def filesTornCard : Claim7 := { stood := { row := filesTornRow, standIns := [], harness := (true, "3b2398cceaa8ab2600bb4453d7106e85829303a872066976da39e9d436bc3265"), looks := false }, kinds := [], alts := [], laidByText := true, laidKinds := [.data, .pinned], laidTests := true, laidLooks := .later }
def FilesTornCardSaid : Prop := Claim7.holds Tryd.pinned (.plain (OpenSpec.ofChange filesTornSpec)) filesTornCard

/-- THE SECOND FORM's CARD OF 'foliotlaw18.FilesTorn'. -/
def filesTornUptoCard : Claim7 := { stood := { row := filesTornUptoRow, standIns := [], harness := (true, "3b2398cceaa8ab2600bb4453d7106e85829303a872066976da39e9d436bc3265"), looks := false }, kinds := [], alts := [], laidByText := true, laidKinds := [.data, .pinned], laidTests := true, laidLooks := .later }
def FilesTornUptoCardSaid : Prop := Claim7.holds Tryd.pinned (.plain (OpenSpec.upto filesTornSpec)) filesTornUptoCard
end Rows
end Go.Proofs.YtkiagljbimfobaaDoor
