/-
  No cell of these rows narrows 'for every input' (looked for: loops, veiled, ifaces, maps, wideKeys, modest, calm, conditions, laid).
  DERIVED. THE GIVEN ROWS OF THIS SEAT. 4 by the template 'for every input the law returns true; each argument reads behind the call as it read before'; 0 by the template 'total and deterministic' (their statements: YtljhngnegnbgoaaTotals.lean).
  GIVEN WITH THE SEED: the statements are not yours to turn. If you find one false, say at which input.
  Laid BY PROGRAM, IN A SANDBOX (cutbox-rows.mjs): the forced cells as the released guide's own fill.sh prints them over the translation a5363c2083f73dc6… (all of the seat's roots in one cut). By AI agents, Wed Nov 11 2026. No macro, syntax, notation, axiom, sorry.
-/
import Derived.Test.YtljhngnegnbgoaaChecked
import GoSem.Claim
import GoSem.ClaimJoined
import GoSem.ClaimMapViews
import Derived.JoinedTies
import Derived.KernelRfl
namespace Go.Proofs.Ytljhngnegnbgoaa
/- THE CELL 'sum', in the pinned program and in every row, IS THE sha256 OF THE DUMP (.gsa) THAT YtljhngnegnbgoaaProg.lean LOADS. Nothing in Lean hashes anything: it is a label: what it is worth is what the hold of that sum in a sandbox is worth. -/
noncomputable def Try.pinned : Pinned := { name := "ytljhngnegnbgoaa", sum := "a5363c2083f73dc6440eccdaeb1faba1c9fef4c156ceea401540b40bffdf42aa", checked := Try.checked }
namespace Rows
def none {H : Type} : Left H := { results := [], args := [] }

/-- 'foliotlaw19.ControlAnswers': WHATEVER THE INPUT: true; the input reads as it did. -/
def controlAnswersSpec : ChangeSpec := { name := "controlAnswers", fn := fun _ => fun
  | [d1, d2, d3, d4] => { results := [.lit (.bool true)], args := [d1, d2, d3, d4] }
  | _ => none }
def controlAnswersRow : OpenClaim := { program := "ytljhngnegnbgoaa", sum := "a5363c2083f73dc6440eccdaeb1faba1c9fef4c156ceea401540b40bffdf42aa", func := "foliot/foliotlaw19.ControlAnswers", spec := "controlAnswers", unfollowed := true, recurses := true, apart := false }
def ControlAnswersSaid : Prop := controlAnswersRow.holds Try.pinned (OpenSpec.ofChange controlAnswersSpec)

/-- ITS FALSE NEIGHBOUR: 'it returns false'. Refute it at one input. -/
def controlAnswersWrong : ChangeSpec := { name := "controlAnswers", fn := fun _ => fun
  | [d1, d2, d3, d4] => { results := [.lit (.bool false)], args := [d1, d2, d3, d4] }
  | _ => none }
def ControlAnswersWrongFalsely : Prop := controlAnswersRow.holds Try.pinned (OpenSpec.ofChange controlAnswersWrong)

/-- 'foliotlaw19.ControlPicks': WHATEVER THE INPUT: true; the input reads as it did. -/
def controlPicksSpec : ChangeSpec := { name := "controlPicks", fn := fun _ => fun
  | [d1, d2] => { results := [.lit (.bool true)], args := [d1, d2] }
  | _ => none }
def controlPicksRow : OpenClaim := { program := "ytljhngnegnbgoaa", sum := "a5363c2083f73dc6440eccdaeb1faba1c9fef4c156ceea401540b40bffdf42aa", func := "foliot/foliotlaw19.ControlPicks", spec := "controlPicks", unfollowed := true, recurses := true, apart := false }
def ControlPicksSaid : Prop := controlPicksRow.holds Try.pinned (OpenSpec.ofChange controlPicksSpec)

/-- ITS FALSE NEIGHBOUR: 'it returns false'. Refute it at one input. -/
def controlPicksWrong : ChangeSpec := { name := "controlPicks", fn := fun _ => fun
  | [d1, d2] => { results := [.lit (.bool false)], args := [d1, d2] }
  | _ => none }
def ControlPicksWrongFalsely : Prop := controlPicksRow.holds Try.pinned (OpenSpec.ofChange controlPicksWrong)

/-- 'foliotlaw19.ControlJoins': WHATEVER THE INPUT: true; the input reads as it did. -/
def controlJoinsSpec : ChangeSpec := { name := "controlJoins", fn := fun _ => fun
  | [d1, d2, d3, d4] => { results := [.lit (.bool true)], args := [d1, d2, d3, d4] }
  | _ => none }
def controlJoinsRow : OpenClaim := { program := "ytljhngnegnbgoaa", sum := "a5363c2083f73dc6440eccdaeb1faba1c9fef4c156ceea401540b40bffdf42aa", func := "foliot/foliotlaw19.ControlJoins", spec := "controlJoins", inPlace := ["internal/abi.NoEscape"], unfollowed := true, recurses := true, apart := false }
def ControlJoinsSaid : Prop := controlJoinsRow.holds Try.pinned (OpenSpec.ofChange controlJoinsSpec)

/-- ITS FALSE NEIGHBOUR: 'it returns false'. Refute it at one input. -/
def controlJoinsWrong : ChangeSpec := { name := "controlJoins", fn := fun _ => fun
  | [d1, d2, d3, d4] => { results := [.lit (.bool false)], args := [d1, d2, d3, d4] }
  | _ => none }
def ControlJoinsWrongFalsely : Prop := controlJoinsRow.holds Try.pinned (OpenSpec.ofChange controlJoinsWrong)

/-- 'foliotlaw19.ControlRoom': WHATEVER THE INPUT: true; the input reads as it did. -/
def controlRoomSpec : ChangeSpec := { name := "controlRoom", fn := fun _ => fun
  | [d1, d2, d3, d4] => { results := [.lit (.bool true)], args := [d1, d2, d3, d4] }
  | _ => none }
def controlRoomRow : OpenClaim := { program := "ytljhngnegnbgoaa", sum := "a5363c2083f73dc6440eccdaeb1faba1c9fef4c156ceea401540b40bffdf42aa", func := "foliot/foliotlaw19.ControlRoom", spec := "controlRoom", unfollowed := true, recurses := true, apart := false }
def ControlRoomSaid : Prop := controlRoomRow.holds Try.pinned (OpenSpec.ofChange controlRoomSpec)

/-- ITS FALSE NEIGHBOUR: 'it returns false'. Refute it at one input. -/
def controlRoomWrong : ChangeSpec := { name := "controlRoom", fn := fun _ => fun
  | [d1, d2, d3, d4] => { results := [.lit (.bool false)], args := [d1, d2, d3, d4] }
  | _ => none }
def ControlRoomWrongFalsely : Prop := controlRoomRow.holds Try.pinned (OpenSpec.ofChange controlRoomWrong)

/- THE SECOND FORM. 'bulk': how many values and letters a reading holds, each counted each time it is reached (what is shared counts as often as it is met; a slice's spare places count too). A statement '..UptoSaid' is the law's where the arguments, and the package variables that the reading takes, are together of bulk at most 1048576: NARROWER than '..Said'. Prove '..Said' where nothing that the law and all that it calls make is longer than what came in: it says more and counts as full. Else prove '..UptoSaid'. A law counts once. -/
mutual
def uptoBulk {H : Type} : DataW H → Nat
  | .lit (.string bytes) => bytes.length + 1
  | .lit _ => 1
  | .nil => 1
  | .ptr d => uptoBulk d + 1
  | .slice elems spare => uptoBulkAll elems + uptoBulkAll spare + 1
  | .agg parts => uptoBulkAll parts + 1
  | .iface _ d => uptoBulk d + 1
  | .map entries => uptoBulkEntries entries + 1
  | .held _ => 1
def uptoBulkAll {H : Type} : List (DataW H) → Nat
  | [] => 0
  | d :: r => uptoBulk d + uptoBulkAll r
def uptoBulkEntries {H : Type} : List (Lit × DataW H) → Nat
  | [] => 0
  | x :: r => uptoBulkEntry x + uptoBulkEntries r
def uptoBulkEntry {H : Type} : Lit × DataW H → Nat
  | (.string bytes, d) => bytes.length + uptoBulk d + 1
  | (_, d) => uptoBulk d + 1
 end
def uptoSmall : (H : Type) → List (DataW H) → Bool := fun _ ds => decide (uptoBulkAll ds ≤ 1048576)
def OpenSpec.upto (s : _root_.Go.ChangeSpec) : _root_.Go.OpenSpec := { _root_.Go.OpenSpec.ofChange s with cond := some uptoSmall }

/-- 'foliotlaw19.ControlAnswers', WHERE WHAT IT READS IS OF BULK AT MOST 1048576: true; the input reads as it did. -/
def controlAnswersUptoRow : OpenClaim := { program := "ytljhngnegnbgoaa", sum := "a5363c2083f73dc6440eccdaeb1faba1c9fef4c156ceea401540b40bffdf42aa", func := "foliot/foliotlaw19.ControlAnswers", spec := "controlAnswers", unfollowed := true, recurses := true, apart := false, narrowed := true }
def ControlAnswersUptoSaid : Prop := controlAnswersUptoRow.holds Try.pinned (OpenSpec.upto controlAnswersSpec)

/-- 'foliotlaw19.ControlPicks', WHERE WHAT IT READS IS OF BULK AT MOST 1048576: true; the input reads as it did. -/
def controlPicksUptoRow : OpenClaim := { program := "ytljhngnegnbgoaa", sum := "a5363c2083f73dc6440eccdaeb1faba1c9fef4c156ceea401540b40bffdf42aa", func := "foliot/foliotlaw19.ControlPicks", spec := "controlPicks", unfollowed := true, recurses := true, apart := false, narrowed := true }
def ControlPicksUptoSaid : Prop := controlPicksUptoRow.holds Try.pinned (OpenSpec.upto controlPicksSpec)

/-- 'foliotlaw19.ControlJoins', WHERE WHAT IT READS IS OF BULK AT MOST 1048576: true; the input reads as it did. -/
def controlJoinsUptoRow : OpenClaim := { program := "ytljhngnegnbgoaa", sum := "a5363c2083f73dc6440eccdaeb1faba1c9fef4c156ceea401540b40bffdf42aa", func := "foliot/foliotlaw19.ControlJoins", spec := "controlJoins", inPlace := ["internal/abi.NoEscape"], unfollowed := true, recurses := true, apart := false, narrowed := true }
def ControlJoinsUptoSaid : Prop := controlJoinsUptoRow.holds Try.pinned (OpenSpec.upto controlJoinsSpec)

/-- 'foliotlaw19.ControlRoom', WHERE WHAT IT READS IS OF BULK AT MOST 1048576: true; the input reads as it did. -/
def controlRoomUptoRow : OpenClaim := { program := "ytljhngnegnbgoaa", sum := "a5363c2083f73dc6440eccdaeb1faba1c9fef4c156ceea401540b40bffdf42aa", func := "foliot/foliotlaw19.ControlRoom", spec := "controlRoom", unfollowed := true, recurses := true, apart := false, narrowed := true }
def ControlRoomUptoSaid : Prop := controlRoomUptoRow.holds Try.pinned (OpenSpec.upto controlRoomSpec)

end Rows
end Go.Proofs.Ytljhngnegnbgoaa
