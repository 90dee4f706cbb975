/-
  No cell of these rows narrows 'for every input' (looked for: loops, veiled, ifaces, maps, wideKeys, modest, calm, conditions, laid).
  DERIVED. THE GIVEN ROWS OF THIS SEAT. 6 by the template 'for every input the law returns true; each argument reads behind the call as it read before'; 0 by the template 'total and deterministic' (their statements: YtnfdkpggkkniiaaTotals.lean).
  GIVEN WITH THE SEED: the statements are not yours to turn. If you find one false, say at which input.
  Laid BY PROGRAM, IN A SANDBOX (cutbox-rows.mjs): the forced cells as the released guide's own fill.sh prints them over the translation 8cf7460ded6b8a46… (all of the seat's roots in one cut). By AI agents, Wed Nov 11 2026. No macro, syntax, notation, axiom, sorry.
-/
import Derived.Test.YtnfdkpggkkniiaaChecked
import GoSem.Claim
import GoSem.ClaimJoined
import GoSem.ClaimMapViews
import Derived.JoinedTies
import Derived.KernelRfl
namespace Go.Proofs.Ytnfdkpggkkniiaa
/- THE CELL 'sum', in the pinned program and in every row, IS THE sha256 OF THE DUMP (.gsa) THAT YtnfdkpggkkniiaaProg.lean LOADS. Nothing in Lean hashes anything: it is a label: what it is worth is what the hold of that sum in a sandbox is worth. -/
noncomputable def Try.pinned : Pinned := { name := "ytnfdkpggkkniiaa", sum := "8cf7460ded6b8a466a26fb683ff19ba1f881b2f90c7d325e5d5d9d057d40888f", checked := Try.checked }
namespace Rows
def none {H : Type} : Left H := { results := [], args := [] }

/-- 'foliotlaw11.PollDue': WHATEVER THE INPUT: true; the input reads as it did. -/
def pollDueSpec : ChangeSpec := { name := "pollDue", fn := fun _ => fun
  | [d1, d2, d3, d4] => { results := [.lit (.bool true)], args := [d1, d2, d3, d4] }
  | _ => none }
def pollDueRow : OpenClaim := { program := "ytnfdkpggkkniiaa", sum := "8cf7460ded6b8a466a26fb683ff19ba1f881b2f90c7d325e5d5d9d057d40888f", func := "foliot/foliotlaw11.PollDue", spec := "pollDue", unfollowed := true, recurses := true, apart := false }
def PollDueSaid : Prop := pollDueRow.holds Try.pinned (OpenSpec.ofChange pollDueSpec)

/-- ITS FALSE NEIGHBOUR: 'it returns false'. Refute it at one input. -/
def pollDueWrong : ChangeSpec := { name := "pollDue", fn := fun _ => fun
  | [d1, d2, d3, d4] => { results := [.lit (.bool false)], args := [d1, d2, d3, d4] }
  | _ => none }
def PollDueWrongFalsely : Prop := pollDueRow.holds Try.pinned (OpenSpec.ofChange pollDueWrong)

/-- 'foliotlaw11.PollRates': WHATEVER THE INPUT: true; the input reads as it did. -/
def pollRatesSpec : ChangeSpec := { name := "pollRates", fn := fun _ => fun
  | [d1, d2, d3, d4] => { results := [.lit (.bool true)], args := [d1, d2, d3, d4] }
  | _ => none }
def pollRatesRow : OpenClaim := { program := "ytnfdkpggkkniiaa", sum := "8cf7460ded6b8a466a26fb683ff19ba1f881b2f90c7d325e5d5d9d057d40888f", func := "foliot/foliotlaw11.PollRates", spec := "pollRates", unfollowed := true, recurses := true, apart := false }
def PollRatesSaid : Prop := pollRatesRow.holds Try.pinned (OpenSpec.ofChange pollRatesSpec)

/-- ITS FALSE NEIGHBOUR: 'it returns false'. Refute it at one input. -/
def pollRatesWrong : ChangeSpec := { name := "pollRates", fn := fun _ => fun
  | [d1, d2, d3, d4] => { results := [.lit (.bool false)], args := [d1, d2, d3, d4] }
  | _ => none }
def PollRatesWrongFalsely : Prop := pollRatesRow.holds Try.pinned (OpenSpec.ofChange pollRatesWrong)

/-- 'foliotlaw11.PollGone': WHATEVER THE INPUT: true; the input reads as it did. -/
def pollGoneSpec : ChangeSpec := { name := "pollGone", fn := fun _ => fun
  | [d1, d2, d3] => { results := [.lit (.bool true)], args := [d1, d2, d3] }
  | _ => none }
def pollGoneRow : OpenClaim := { program := "ytnfdkpggkkniiaa", sum := "8cf7460ded6b8a466a26fb683ff19ba1f881b2f90c7d325e5d5d9d057d40888f", func := "foliot/foliotlaw11.PollGone", spec := "pollGone", unfollowed := true, recurses := true, apart := false }
def PollGoneSaid : Prop := pollGoneRow.holds Try.pinned (OpenSpec.ofChange pollGoneSpec)

/-- ITS FALSE NEIGHBOUR: 'it returns false'. Refute it at one input. -/
def pollGoneWrong : ChangeSpec := { name := "pollGone", fn := fun _ => fun
  | [d1, d2, d3] => { results := [.lit (.bool false)], args := [d1, d2, d3] }
  | _ => none }
def PollGoneWrongFalsely : Prop := pollGoneRow.holds Try.pinned (OpenSpec.ofChange pollGoneWrong)

/-- 'foliotlaw11.PollSlower': WHATEVER THE INPUT: true; the input reads as it did. -/
def pollSlowerSpec : ChangeSpec := { name := "pollSlower", fn := fun _ => fun
  | [d1, d2, d3] => { results := [.lit (.bool true)], args := [d1, d2, d3] }
  | _ => none }
def pollSlowerRow : OpenClaim := { program := "ytnfdkpggkkniiaa", sum := "8cf7460ded6b8a466a26fb683ff19ba1f881b2f90c7d325e5d5d9d057d40888f", func := "foliot/foliotlaw11.PollSlower", spec := "pollSlower", unfollowed := true, recurses := true, apart := false }
def PollSlowerSaid : Prop := pollSlowerRow.holds Try.pinned (OpenSpec.ofChange pollSlowerSpec)

/-- ITS FALSE NEIGHBOUR: 'it returns false'. Refute it at one input. -/
def pollSlowerWrong : ChangeSpec := { name := "pollSlower", fn := fun _ => fun
  | [d1, d2, d3] => { results := [.lit (.bool false)], args := [d1, d2, d3] }
  | _ => none }
def PollSlowerWrongFalsely : Prop := pollSlowerRow.holds Try.pinned (OpenSpec.ofChange pollSlowerWrong)

/-- 'foliotlaw11.PollInside': WHATEVER THE INPUT: true; the input reads as it did. -/
def pollInsideSpec : ChangeSpec := { name := "pollInside", fn := fun _ => fun
  | [d1, d2, d3] => { results := [.lit (.bool true)], args := [d1, d2, d3] }
  | _ => none }
def pollInsideRow : OpenClaim := { program := "ytnfdkpggkkniiaa", sum := "8cf7460ded6b8a466a26fb683ff19ba1f881b2f90c7d325e5d5d9d057d40888f", func := "foliot/foliotlaw11.PollInside", spec := "pollInside", unfollowed := true, recurses := true, apart := false }
def PollInsideSaid : Prop := pollInsideRow.holds Try.pinned (OpenSpec.ofChange pollInsideSpec)

/-- ITS FALSE NEIGHBOUR: 'it returns false'. Refute it at one input. -/
def pollInsideWrong : ChangeSpec := { name := "pollInside", fn := fun _ => fun
  | [d1, d2, d3] => { results := [.lit (.bool false)], args := [d1, d2, d3] }
  | _ => none }
def PollInsideWrongFalsely : Prop := pollInsideRow.holds Try.pinned (OpenSpec.ofChange pollInsideWrong)

/-- 'foliotlaw11.PollScript': WHATEVER THE INPUT: true; the input reads as it did. -/
def pollScriptSpec : ChangeSpec := { name := "pollScript", fn := fun _ => fun
  | [d1, d2, d3, d4] => { results := [.lit (.bool true)], args := [d1, d2, d3, d4] }
  | _ => none }
def pollScriptRow : OpenClaim := { program := "ytnfdkpggkkniiaa", sum := "8cf7460ded6b8a466a26fb683ff19ba1f881b2f90c7d325e5d5d9d057d40888f", func := "foliot/foliotlaw11.PollScript", spec := "pollScript", unfollowed := true, recurses := true, apart := false }
def PollScriptSaid : Prop := pollScriptRow.holds Try.pinned (OpenSpec.ofChange pollScriptSpec)

/-- ITS FALSE NEIGHBOUR: 'it returns false'. Refute it at one input. -/
def pollScriptWrong : ChangeSpec := { name := "pollScript", fn := fun _ => fun
  | [d1, d2, d3, d4] => { results := [.lit (.bool false)], args := [d1, d2, d3, d4] }
  | _ => none }
def PollScriptWrongFalsely : Prop := pollScriptRow.holds Try.pinned (OpenSpec.ofChange pollScriptWrong)

/- THE SECOND FORM. 'bulk': how many values and letters a reading holds, each counted each time it is reached (what is shared counts as often as it is met; a slice's spare places count too). A statement '..UptoSaid' is the law's where the arguments, and the package variables that the reading takes, are together of bulk at most 1048576: NARROWER than '..Said'. Prove '..Said' where nothing that the law and all that it calls make is longer than what came in: it says more and counts as full. Else prove '..UptoSaid'. A law counts once. -/
mutual
def uptoBulk {H : Type} : DataW H → Nat
  | .lit (.string bytes) => bytes.length + 1
  | .lit _ => 1
  | .nil => 1
  | .ptr d => uptoBulk d + 1
  | .slice elems spare => uptoBulkAll elems + uptoBulkAll spare + 1
  | .agg parts => uptoBulkAll parts + 1
  | .iface _ d => uptoBulk d + 1
  | .map entries => uptoBulkEntries entries + 1
  | .held _ => 1
def uptoBulkAll {H : Type} : List (DataW H) → Nat
  | [] => 0
  | d :: r => uptoBulk d + uptoBulkAll r
def uptoBulkEntries {H : Type} : List (Lit × DataW H) → Nat
  | [] => 0
  | x :: r => uptoBulkEntry x + uptoBulkEntries r
def uptoBulkEntry {H : Type} : Lit × DataW H → Nat
  | (.string bytes, d) => bytes.length + uptoBulk d + 1
  | (_, d) => uptoBulk d + 1
 end
def uptoSmall : (H : Type) → List (DataW H) → Bool := fun _ ds => decide (uptoBulkAll ds ≤ 1048576)
def OpenSpec.upto (s : _root_.Go.ChangeSpec) : _root_.Go.OpenSpec := { _root_.Go.OpenSpec.ofChange s with cond := some uptoSmall }

/-- 'foliotlaw11.PollDue', WHERE WHAT IT READS IS OF BULK AT MOST 1048576: true; the input reads as it did. -/
def pollDueUptoRow : OpenClaim := { program := "ytnfdkpggkkniiaa", sum := "8cf7460ded6b8a466a26fb683ff19ba1f881b2f90c7d325e5d5d9d057d40888f", func := "foliot/foliotlaw11.PollDue", spec := "pollDue", unfollowed := true, recurses := true, apart := false, narrowed := true }
def PollDueUptoSaid : Prop := pollDueUptoRow.holds Try.pinned (OpenSpec.upto pollDueSpec)

/-- 'foliotlaw11.PollRates', WHERE WHAT IT READS IS OF BULK AT MOST 1048576: true; the input reads as it did. -/
def pollRatesUptoRow : OpenClaim := { program := "ytnfdkpggkkniiaa", sum := "8cf7460ded6b8a466a26fb683ff19ba1f881b2f90c7d325e5d5d9d057d40888f", func := "foliot/foliotlaw11.PollRates", spec := "pollRates", unfollowed := true, recurses := true, apart := false, narrowed := true }
def PollRatesUptoSaid : Prop := pollRatesUptoRow.holds Try.pinned (OpenSpec.upto pollRatesSpec)

/-- 'foliotlaw11.PollGone', WHERE WHAT IT READS IS OF BULK AT MOST 1048576: true; the input reads as it did. -/
def pollGoneUptoRow : OpenClaim := { program := "ytnfdkpggkkniiaa", sum := "8cf7460ded6b8a466a26fb683ff19ba1f881b2f90c7d325e5d5d9d057d40888f", func := "foliot/foliotlaw11.PollGone", spec := "pollGone", unfollowed := true, recurses := true, apart := false, narrowed := true }
def PollGoneUptoSaid : Prop := pollGoneUptoRow.holds Try.pinned (OpenSpec.upto pollGoneSpec)

/-- 'foliotlaw11.PollSlower', WHERE WHAT IT READS IS OF BULK AT MOST 1048576: true; the input reads as it did. -/
def pollSlowerUptoRow : OpenClaim := { program := "ytnfdkpggkkniiaa", sum := "8cf7460ded6b8a466a26fb683ff19ba1f881b2f90c7d325e5d5d9d057d40888f", func := "foliot/foliotlaw11.PollSlower", spec := "pollSlower", unfollowed := true, recurses := true, apart := false, narrowed := true }
def PollSlowerUptoSaid : Prop := pollSlowerUptoRow.holds Try.pinned (OpenSpec.upto pollSlowerSpec)

/-- 'foliotlaw11.PollInside', WHERE WHAT IT READS IS OF BULK AT MOST 1048576: true; the input reads as it did. -/
def pollInsideUptoRow : OpenClaim := { program := "ytnfdkpggkkniiaa", sum := "8cf7460ded6b8a466a26fb683ff19ba1f881b2f90c7d325e5d5d9d057d40888f", func := "foliot/foliotlaw11.PollInside", spec := "pollInside", unfollowed := true, recurses := true, apart := false, narrowed := true }
def PollInsideUptoSaid : Prop := pollInsideUptoRow.holds Try.pinned (OpenSpec.upto pollInsideSpec)

/-- 'foliotlaw11.PollScript', WHERE WHAT IT READS IS OF BULK AT MOST 1048576: true; the input reads as it did. -/
def pollScriptUptoRow : OpenClaim := { program := "ytnfdkpggkkniiaa", sum := "8cf7460ded6b8a466a26fb683ff19ba1f881b2f90c7d325e5d5d9d057d40888f", func := "foliot/foliotlaw11.PollScript", spec := "pollScript", unfollowed := true, recurses := true, apart := false, narrowed := true }
def PollScriptUptoSaid : Prop := pollScriptUptoRow.holds Try.pinned (OpenSpec.upto pollScriptSpec)

end Rows
end Go.Proofs.Ytnfdkpggkkniiaa
