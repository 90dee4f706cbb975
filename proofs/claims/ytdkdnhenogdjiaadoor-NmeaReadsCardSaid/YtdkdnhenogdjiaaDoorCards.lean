/-
  DERIVED. GIVEN WITH THE SEED: THE CARDS: each row of YtdkdnhenogdjiaaDoorRows.lean that lists a variable, with what it lists TIED to the program's text (the seventh form; the later family's looks); each row that meets fmt, with fmt's text TOLD by the authors' own Lean function (tested against real Go, not proved from fmt's source: count such statements apart). THE CARD IS WHAT COUNTS. Prove the row's statement (the work); the ties are given (YtdkdnhenogdjiaaDoorTie.lean); close each card by the builder's one call (the guide's Derived/Test/ToyasCard.lean, 'card_holds'). Laid BY PROGRAM, IN A SANDBOX (cutbox-door.mjs). By AI agents, Wed Nov 11 2026. No macro, syntax, notation, axiom, sorry.
-/
import Derived.Test.YtdkdnhenogdjiaaDoorRows
import GoSem.ClaimSeven
namespace Go.Proofs.YtdkdnhenogdjiaaDoor
namespace Rows

/-- THE TIED CARD OF 'foliotlaw07.NmeaReads'. -/
def nmeaReadsCard : Claim7 := { stood := { row := nmeaReadsRow, standIns := [], harness := (true, "0e23e60a0cf564439411476a32a3eeb4e499e988facbfc333161c1d5ebae7691"), looks := false }, kinds := [], alts := [], laidByText := true, laidKinds := [.data, .pinned], laidTests := true, laidLooks := .later }
def NmeaReadsCardSaid : Prop := Claim7.holds Tryd.pinned (.plain (OpenSpec.ofChange nmeaReadsSpec)) nmeaReadsCard

/-- THE SECOND FORM's CARD OF 'foliotlaw07.NmeaReads'. -/
def nmeaReadsUptoCard : Claim7 := { stood := { row := nmeaReadsUptoRow, standIns := [], harness := (true, "0e23e60a0cf564439411476a32a3eeb4e499e988facbfc333161c1d5ebae7691"), looks := false }, kinds := [], alts := [], laidByText := true, laidKinds := [.data, .pinned], laidTests := true, laidLooks := .later }
def NmeaReadsUptoCardSaid : Prop := Claim7.holds Tryd.pinned (.plain (OpenSpec.upto nmeaReadsSpec)) nmeaReadsUptoCard
end Rows
end Go.Proofs.YtdkdnhenogdjiaaDoor
