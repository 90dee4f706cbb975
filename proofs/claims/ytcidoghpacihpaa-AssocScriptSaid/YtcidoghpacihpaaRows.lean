/-
  No cell of these rows narrows 'for every input' (looked for: loops, veiled, ifaces, maps, wideKeys, modest, calm, conditions, laid).
  DERIVED. THE GIVEN ROWS OF THIS SEAT. 4 by the template 'for every input the law returns true; each argument reads behind the call as it read before'; 0 by the template 'total and deterministic' (their statements: YtcidoghpacihpaaTotals.lean).
  GIVEN WITH THE SEED: the statements are not yours to turn. If you find one false, say at which input.
  Laid BY PROGRAM, IN A SANDBOX (cutbox-rows.mjs): the forced cells as the released guide's own fill.sh prints them over the translation 6f81fa5c61f8ffef… (all of the seat's roots in one cut). By AI agents, Wed Nov 11 2026. No macro, syntax, notation, axiom, sorry.
-/
import Derived.Test.YtcidoghpacihpaaChecked
import GoSem.Claim
import GoSem.ClaimJoined
import GoSem.ClaimMapViews
import Derived.JoinedTies
import Derived.KernelRfl
namespace Go.Proofs.Ytcidoghpacihpaa
/- THE CELL 'sum', in the pinned program and in every row, IS THE sha256 OF THE DUMP (.gsa) THAT YtcidoghpacihpaaProg.lean LOADS. Nothing in Lean hashes anything: it is a label: what it is worth is what the hold of that sum in a sandbox is worth. -/
noncomputable def Try.pinned : Pinned := { name := "ytcidoghpacihpaa", sum := "6f81fa5c61f8ffefb32bcb25b568d3c89c52216f160d277053456cca068bad02", checked := Try.checked }
namespace Rows
def none {H : Type} : Left H := { results := [], args := [] }

/-- 'foliotlaw12.AssocDispatch': WHATEVER THE INPUT: true; the input reads as it did. -/
def assocDispatchSpec : ChangeSpec := { name := "assocDispatch", fn := fun _ => fun
  | [d1, d2] => { results := [.lit (.bool true)], args := [d1, d2] }
  | _ => none }
def assocDispatchRow : OpenClaim := { program := "ytcidoghpacihpaa", sum := "6f81fa5c61f8ffefb32bcb25b568d3c89c52216f160d277053456cca068bad02", func := "foliot/foliotlaw12.AssocDispatch", spec := "assocDispatch", unfollowed := true, recurses := true, plainKeys := false, apart := false }
def AssocDispatchSaid : Prop := assocDispatchRow.holds Try.pinned (OpenSpec.ofChange assocDispatchSpec)

/-- ITS FALSE NEIGHBOUR: 'it returns false'. Refute it at one input. -/
def assocDispatchWrong : ChangeSpec := { name := "assocDispatch", fn := fun _ => fun
  | [d1, d2] => { results := [.lit (.bool false)], args := [d1, d2] }
  | _ => none }
def AssocDispatchWrongFalsely : Prop := assocDispatchRow.holds Try.pinned (OpenSpec.ofChange assocDispatchWrong)

/-- 'foliotlaw12.AssocBounds': WHATEVER THE INPUT: true; the input reads as it did. -/
def assocBoundsSpec : ChangeSpec := { name := "assocBounds", fn := fun _ => fun
  | [d1, d2] => { results := [.lit (.bool true)], args := [d1, d2] }
  | _ => none }
def assocBoundsRow : OpenClaim := { program := "ytcidoghpacihpaa", sum := "6f81fa5c61f8ffefb32bcb25b568d3c89c52216f160d277053456cca068bad02", func := "foliot/foliotlaw12.AssocBounds", spec := "assocBounds", unfollowed := true, recurses := true, plainKeys := false, apart := false }
def AssocBoundsSaid : Prop := assocBoundsRow.holds Try.pinned (OpenSpec.ofChange assocBoundsSpec)

/-- ITS FALSE NEIGHBOUR: 'it returns false'. Refute it at one input. -/
def assocBoundsWrong : ChangeSpec := { name := "assocBounds", fn := fun _ => fun
  | [d1, d2] => { results := [.lit (.bool false)], args := [d1, d2] }
  | _ => none }
def AssocBoundsWrongFalsely : Prop := assocBoundsRow.holds Try.pinned (OpenSpec.ofChange assocBoundsWrong)

/-- 'foliotlaw12.AssocRefuses': WHATEVER THE INPUT: true; the input reads as it did. -/
def assocRefusesSpec : ChangeSpec := { name := "assocRefuses", fn := fun _ => fun
  | [d1, d2, d3, d4, d5, d6, d7] => { results := [.lit (.bool true)], args := [d1, d2, d3, d4, d5, d6, d7] }
  | _ => none }
def assocRefusesRow : OpenClaim := { program := "ytcidoghpacihpaa", sum := "6f81fa5c61f8ffefb32bcb25b568d3c89c52216f160d277053456cca068bad02", func := "foliot/foliotlaw12.AssocRefuses", spec := "assocRefuses", unfollowed := true, recurses := true, plainKeys := false, apart := false }
def AssocRefusesSaid : Prop := assocRefusesRow.holds Try.pinned (OpenSpec.ofChange assocRefusesSpec)

/-- ITS FALSE NEIGHBOUR: 'it returns false'. Refute it at one input. -/
def assocRefusesWrong : ChangeSpec := { name := "assocRefuses", fn := fun _ => fun
  | [d1, d2, d3, d4, d5, d6, d7] => { results := [.lit (.bool false)], args := [d1, d2, d3, d4, d5, d6, d7] }
  | _ => none }
def AssocRefusesWrongFalsely : Prop := assocRefusesRow.holds Try.pinned (OpenSpec.ofChange assocRefusesWrong)

/-- 'foliotlaw12.AssocScript': WHATEVER THE INPUT: true; the input reads as it did. -/
def assocScriptSpec : ChangeSpec := { name := "assocScript", fn := fun _ => fun
  | [d1, d2] => { results := [.lit (.bool true)], args := [d1, d2] }
  | _ => none }
def assocScriptRow : OpenClaim := { program := "ytcidoghpacihpaa", sum := "6f81fa5c61f8ffefb32bcb25b568d3c89c52216f160d277053456cca068bad02", func := "foliot/foliotlaw12.AssocScript", spec := "assocScript", unfollowed := true, recurses := true, plainKeys := false, apart := false }
def AssocScriptSaid : Prop := assocScriptRow.holds Try.pinned (OpenSpec.ofChange assocScriptSpec)

/-- ITS FALSE NEIGHBOUR: 'it returns false'. Refute it at one input. -/
def assocScriptWrong : ChangeSpec := { name := "assocScript", fn := fun _ => fun
  | [d1, d2] => { results := [.lit (.bool false)], args := [d1, d2] }
  | _ => none }
def AssocScriptWrongFalsely : Prop := assocScriptRow.holds Try.pinned (OpenSpec.ofChange assocScriptWrong)

/- THE SECOND FORM. 'bulk': how many values and letters a reading holds, each counted each time it is reached (what is shared counts as often as it is met; a slice's spare places count too). A statement '..UptoSaid' is the law's where the arguments, and the package variables that the reading takes, are together of bulk at most 1048576: NARROWER than '..Said'. Prove '..Said' where nothing that the law and all that it calls make is longer than what came in: it says more and counts as full. Else prove '..UptoSaid'. A law counts once. -/
mutual
def uptoBulk {H : Type} : DataW H → Nat
  | .lit (.string bytes) => bytes.length + 1
  | .lit _ => 1
  | .nil => 1
  | .ptr d => uptoBulk d + 1
  | .slice elems spare => uptoBulkAll elems + uptoBulkAll spare + 1
  | .agg parts => uptoBulkAll parts + 1
  | .iface _ d => uptoBulk d + 1
  | .map entries => uptoBulkEntries entries + 1
  | .held _ => 1
def uptoBulkAll {H : Type} : List (DataW H) → Nat
  | [] => 0
  | d :: r => uptoBulk d + uptoBulkAll r
def uptoBulkEntries {H : Type} : List (Lit × DataW H) → Nat
  | [] => 0
  | x :: r => uptoBulkEntry x + uptoBulkEntries r
def uptoBulkEntry {H : Type} : Lit × DataW H → Nat
  | (.string bytes, d) => bytes.length + uptoBulk d + 1
  | (_, d) => uptoBulk d + 1
 end
def uptoSmall : (H : Type) → List (DataW H) → Bool := fun _ ds => decide (uptoBulkAll ds ≤ 1048576)
def OpenSpec.upto (s : _root_.Go.ChangeSpec) : _root_.Go.OpenSpec := { _root_.Go.OpenSpec.ofChange s with cond := some uptoSmall }

/-- 'foliotlaw12.AssocDispatch', WHERE WHAT IT READS IS OF BULK AT MOST 1048576: true; the input reads as it did. -/
def assocDispatchUptoRow : OpenClaim := { program := "ytcidoghpacihpaa", sum := "6f81fa5c61f8ffefb32bcb25b568d3c89c52216f160d277053456cca068bad02", func := "foliot/foliotlaw12.AssocDispatch", spec := "assocDispatch", unfollowed := true, recurses := true, plainKeys := false, apart := false, narrowed := true }
def AssocDispatchUptoSaid : Prop := assocDispatchUptoRow.holds Try.pinned (OpenSpec.upto assocDispatchSpec)

/-- 'foliotlaw12.AssocBounds', WHERE WHAT IT READS IS OF BULK AT MOST 1048576: true; the input reads as it did. -/
def assocBoundsUptoRow : OpenClaim := { program := "ytcidoghpacihpaa", sum := "6f81fa5c61f8ffefb32bcb25b568d3c89c52216f160d277053456cca068bad02", func := "foliot/foliotlaw12.AssocBounds", spec := "assocBounds", unfollowed := true, recurses := true, plainKeys := false, apart := false, narrowed := true }
def AssocBoundsUptoSaid : Prop := assocBoundsUptoRow.holds Try.pinned (OpenSpec.upto assocBoundsSpec)

/-- 'foliotlaw12.AssocRefuses', WHERE WHAT IT READS IS OF BULK AT MOST 1048576: true; the input reads as it did. -/
def assocRefusesUptoRow : OpenClaim := { program := "ytcidoghpacihpaa", sum := "6f81fa5c61f8ffefb32bcb25b568d3c89c52216f160d277053456cca068bad02", func := "foliot/foliotlaw12.AssocRefuses", spec := "assocRefuses", unfollowed := true, recurses := true, plainKeys := false, apart := false, narrowed := true }
def AssocRefusesUptoSaid : Prop := assocRefusesUptoRow.holds Try.pinned (OpenSpec.upto assocRefusesSpec)

/-- 'foliotlaw12.AssocScript', WHERE WHAT IT READS IS OF BULK AT MOST 1048576: true; the input reads as it did. -/
def assocScriptUptoRow : OpenClaim := { program := "ytcidoghpacihpaa", sum := "6f81fa5c61f8ffefb32bcb25b568d3c89c52216f160d277053456cca068bad02", func := "foliot/foliotlaw12.AssocScript", spec := "assocScript", unfollowed := true, recurses := true, plainKeys := false, apart := false, narrowed := true }
def AssocScriptUptoSaid : Prop := assocScriptUptoRow.holds Try.pinned (OpenSpec.upto assocScriptSpec)

end Rows
end Go.Proofs.Ytcidoghpacihpaa
