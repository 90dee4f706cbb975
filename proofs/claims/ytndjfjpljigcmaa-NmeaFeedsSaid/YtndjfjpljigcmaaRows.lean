/-
  No cell of these rows narrows 'for every input' (looked for: loops, veiled, ifaces, maps, wideKeys, modest, calm, conditions, laid).
  DERIVED. THE GIVEN ROWS OF THIS SEAT. 4 by the template 'for every input the law returns true; each argument reads behind the call as it read before'; 0 by the template 'total and deterministic' (their statements: YtndjfjpljigcmaaTotals.lean).
  GIVEN WITH THE SEED: the statements are not yours to turn. If you find one false, say at which input.
  Laid BY PROGRAM, IN A SANDBOX (cutbox-rows.mjs): the forced cells as the released guide's own fill.sh prints them over the translation 7d2de8311beafa8b… (all of the seat's roots in one cut). By AI agents, Wed Nov 11 2026. No macro, syntax, notation, axiom, sorry.
-/
import Derived.Test.YtndjfjpljigcmaaChecked
import GoSem.Claim
import GoSem.ClaimJoined
import GoSem.ClaimMapViews
import Derived.JoinedTies
import Derived.KernelRfl
namespace Go.Proofs.Ytndjfjpljigcmaa
/- THE CELL 'sum', in the pinned program and in every row, IS THE sha256 OF THE DUMP (.gsa) THAT YtndjfjpljigcmaaProg.lean LOADS. Nothing in Lean hashes anything: it is a label: what it is worth is what the hold of that sum in a sandbox is worth. -/
noncomputable def Try.pinned : Pinned := { name := "ytndjfjpljigcmaa", sum := "7d2de8311beafa8b2ce51520871a2d21543cb5d8d242e64723d9dc3b88b4dd60", checked := Try.checked }
namespace Rows
def none {H : Type} : Left H := { results := [], args := [] }

/-- 'foliotlaw07.NmeaTold': WHATEVER THE INPUT: true; the input reads as it did. -/
def nmeaToldSpec : ChangeSpec := { name := "nmeaTold", fn := fun _ => fun
  | [d1, d2] => { results := [.lit (.bool true)], args := [d1, d2] }
  | _ => none }
def nmeaToldRow : OpenClaim := { program := "ytndjfjpljigcmaa", sum := "7d2de8311beafa8b2ce51520871a2d21543cb5d8d242e64723d9dc3b88b4dd60", func := "foliot/foliotlaw07.NmeaTold", spec := "nmeaTold", apart := false }
def NmeaToldSaid : Prop := nmeaToldRow.holds Try.pinned (OpenSpec.ofChange nmeaToldSpec)

/-- ITS FALSE NEIGHBOUR: 'it returns false'. Refute it at one input. -/
def nmeaToldWrong : ChangeSpec := { name := "nmeaTold", fn := fun _ => fun
  | [d1, d2] => { results := [.lit (.bool false)], args := [d1, d2] }
  | _ => none }
def NmeaToldWrongFalsely : Prop := nmeaToldRow.holds Try.pinned (OpenSpec.ofChange nmeaToldWrong)

/-- 'foliotlaw07.NmeaCounts': WHATEVER THE INPUT: true; the input reads as it did. -/
def nmeaCountsSpec : ChangeSpec := { name := "nmeaCounts", fn := fun _ => fun
  | [d] => { results := [.lit (.bool true)], args := [d] }
  | _ => none }
def nmeaCountsRow : OpenClaim := { program := "ytndjfjpljigcmaa", sum := "7d2de8311beafa8b2ce51520871a2d21543cb5d8d242e64723d9dc3b88b4dd60", func := "foliot/foliotlaw07.NmeaCounts", spec := "nmeaCounts", apart := false }
def NmeaCountsSaid : Prop := nmeaCountsRow.holds Try.pinned (OpenSpec.ofChange nmeaCountsSpec)

/-- ITS FALSE NEIGHBOUR: 'it returns false'. Refute it at one input. -/
def nmeaCountsWrong : ChangeSpec := { name := "nmeaCounts", fn := fun _ => fun
  | [d] => { results := [.lit (.bool false)], args := [d] }
  | _ => none }
def NmeaCountsWrongFalsely : Prop := nmeaCountsRow.holds Try.pinned (OpenSpec.ofChange nmeaCountsWrong)

/-- 'foliotlaw07.NmeaFeeds': WHATEVER THE INPUT: true; the input reads as it did. -/
def nmeaFeedsSpec : ChangeSpec := { name := "nmeaFeeds", fn := fun _ => fun
  | [d] => { results := [.lit (.bool true)], args := [d] }
  | _ => none }
def nmeaFeedsRow : OpenClaim := { program := "ytndjfjpljigcmaa", sum := "7d2de8311beafa8b2ce51520871a2d21543cb5d8d242e64723d9dc3b88b4dd60", func := "foliot/foliotlaw07.NmeaFeeds", spec := "nmeaFeeds", apart := false }
def NmeaFeedsSaid : Prop := nmeaFeedsRow.holds Try.pinned (OpenSpec.ofChange nmeaFeedsSpec)

/-- ITS FALSE NEIGHBOUR: 'it returns false'. Refute it at one input. -/
def nmeaFeedsWrong : ChangeSpec := { name := "nmeaFeeds", fn := fun _ => fun
  | [d] => { results := [.lit (.bool false)], args := [d] }
  | _ => none }
def NmeaFeedsWrongFalsely : Prop := nmeaFeedsRow.holds Try.pinned (OpenSpec.ofChange nmeaFeedsWrong)

/-- 'foliotlaw07.NmeaPieces': WHATEVER THE INPUT: true; the input reads as it did. -/
def nmeaPiecesSpec : ChangeSpec := { name := "nmeaPieces", fn := fun _ => fun
  | [d] => { results := [.lit (.bool true)], args := [d] }
  | _ => none }
def nmeaPiecesRow : OpenClaim := { program := "ytndjfjpljigcmaa", sum := "7d2de8311beafa8b2ce51520871a2d21543cb5d8d242e64723d9dc3b88b4dd60", func := "foliot/foliotlaw07.NmeaPieces", spec := "nmeaPieces", apart := false }
def NmeaPiecesSaid : Prop := nmeaPiecesRow.holds Try.pinned (OpenSpec.ofChange nmeaPiecesSpec)

/-- ITS FALSE NEIGHBOUR: 'it returns false'. Refute it at one input. -/
def nmeaPiecesWrong : ChangeSpec := { name := "nmeaPieces", fn := fun _ => fun
  | [d] => { results := [.lit (.bool false)], args := [d] }
  | _ => none }
def NmeaPiecesWrongFalsely : Prop := nmeaPiecesRow.holds Try.pinned (OpenSpec.ofChange nmeaPiecesWrong)

/- THE SECOND FORM. 'bulk': how many values and letters a reading holds, each counted each time it is reached (what is shared counts as often as it is met; a slice's spare places count too). A statement '..UptoSaid' is the law's where the arguments, and the package variables that the reading takes, are together of bulk at most 1048576: NARROWER than '..Said'. Prove '..Said' where nothing that the law and all that it calls make is longer than what came in: it says more and counts as full. Else prove '..UptoSaid'. A law counts once. -/
mutual
def uptoBulk {H : Type} : DataW H → Nat
  | .lit (.string bytes) => bytes.length + 1
  | .lit _ => 1
  | .nil => 1
  | .ptr d => uptoBulk d + 1
  | .slice elems spare => uptoBulkAll elems + uptoBulkAll spare + 1
  | .agg parts => uptoBulkAll parts + 1
  | .iface _ d => uptoBulk d + 1
  | .map entries => uptoBulkEntries entries + 1
  | .held _ => 1
def uptoBulkAll {H : Type} : List (DataW H) → Nat
  | [] => 0
  | d :: r => uptoBulk d + uptoBulkAll r
def uptoBulkEntries {H : Type} : List (Lit × DataW H) → Nat
  | [] => 0
  | x :: r => uptoBulkEntry x + uptoBulkEntries r
def uptoBulkEntry {H : Type} : Lit × DataW H → Nat
  | (.string bytes, d) => bytes.length + uptoBulk d + 1
  | (_, d) => uptoBulk d + 1
 end
def uptoSmall : (H : Type) → List (DataW H) → Bool := fun _ ds => decide (uptoBulkAll ds ≤ 1048576)
def OpenSpec.upto (s : _root_.Go.ChangeSpec) : _root_.Go.OpenSpec := { _root_.Go.OpenSpec.ofChange s with cond := some uptoSmall }

/-- 'foliotlaw07.NmeaTold', WHERE WHAT IT READS IS OF BULK AT MOST 1048576: true; the input reads as it did. -/
def nmeaToldUptoRow : OpenClaim := { program := "ytndjfjpljigcmaa", sum := "7d2de8311beafa8b2ce51520871a2d21543cb5d8d242e64723d9dc3b88b4dd60", func := "foliot/foliotlaw07.NmeaTold", spec := "nmeaTold", apart := false, narrowed := true }
def NmeaToldUptoSaid : Prop := nmeaToldUptoRow.holds Try.pinned (OpenSpec.upto nmeaToldSpec)

/-- 'foliotlaw07.NmeaCounts', WHERE WHAT IT READS IS OF BULK AT MOST 1048576: true; the input reads as it did. -/
def nmeaCountsUptoRow : OpenClaim := { program := "ytndjfjpljigcmaa", sum := "7d2de8311beafa8b2ce51520871a2d21543cb5d8d242e64723d9dc3b88b4dd60", func := "foliot/foliotlaw07.NmeaCounts", spec := "nmeaCounts", apart := false, narrowed := true }
def NmeaCountsUptoSaid : Prop := nmeaCountsUptoRow.holds Try.pinned (OpenSpec.upto nmeaCountsSpec)

/-- 'foliotlaw07.NmeaFeeds', WHERE WHAT IT READS IS OF BULK AT MOST 1048576: true; the input reads as it did. -/
def nmeaFeedsUptoRow : OpenClaim := { program := "ytndjfjpljigcmaa", sum := "7d2de8311beafa8b2ce51520871a2d21543cb5d8d242e64723d9dc3b88b4dd60", func := "foliot/foliotlaw07.NmeaFeeds", spec := "nmeaFeeds", apart := false, narrowed := true }
def NmeaFeedsUptoSaid : Prop := nmeaFeedsUptoRow.holds Try.pinned (OpenSpec.upto nmeaFeedsSpec)

/-- 'foliotlaw07.NmeaPieces', WHERE WHAT IT READS IS OF BULK AT MOST 1048576: true; the input reads as it did. -/
def nmeaPiecesUptoRow : OpenClaim := { program := "ytndjfjpljigcmaa", sum := "7d2de8311beafa8b2ce51520871a2d21543cb5d8d242e64723d9dc3b88b4dd60", func := "foliot/foliotlaw07.NmeaPieces", spec := "nmeaPieces", apart := false, narrowed := true }
def NmeaPiecesUptoSaid : Prop := nmeaPiecesUptoRow.holds Try.pinned (OpenSpec.upto nmeaPiecesSpec)

end Rows
end Go.Proofs.Ytndjfjpljigcmaa
