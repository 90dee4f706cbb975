/- ControlJoins holds: for every input the law returns true and leaves its arguments as they were: any packets are put together as the document says, and those of an answer, in any order, are the answer. -/
import Derived.Test.YtljhngnegnbgoaaY
import Derived.Test.YtljhngnegnbgoaaRows
import Derived.ProofKit
namespace Go.Proofs.Ytljhngnegnbgoaa
open Go.ChangeShapes Go.WideShapes Go.ChangeAt Go.RowKit Sx
theorem controlJoins_own : ownKnob Try.prog.godebug = none := by kernel_rfl
theorem controlJoins_laid : laidOutB Try.prog = true := by kernel_rfl
set_option maxRecDepth 100000 in
theorem controlJoins_lifted (os : Os) (started : os.Started) (H : Type) (enc : TypeId × Value → H) :
    ReturnsInHanded {} Try.checked os 5 .any (Rows.controlJoinsSpec.pre6 enc Try.prog Try.f5 Rows.controlJoinsRow.domain false) (Rows.controlJoinsSpec.post enc Try.prog Try.f5 false true false false) := by
  refine returnsInHanded_of_change (C := Try.checked) controlJoins_own started (by kernel_rfl) Try.func5
    (ChangeSpec.witness6 (enc := enc) (C := Try.checked) false ⟨#[], #[.slice none 0 0, .agg #[.int .i64 0, .bool false, .bool false, .bool false, .int .i64 0, .int .i64 0, .int .i64 0, .int .i64 0, .int .i64 0, .slice none 0 0, .int .i64 0, .slice none 0 0], .string ⟨#[]⟩, .slice none 0 0], []⟩ 8 (by kernel_rfl) (by kernel_rfl) (by kernel_rfl) (by kernel_rfl)) ?_
  intro W base args ds gs before hval hW _ _
  refine law_row (P := Try.prog) controlJoins_laid (by kernel_rfl) (tb := 4) (by kernel_rfl) Try.underlying4 rfl (fun ds hd => ?_) hval hW (fun avl hT => ?_)
  · rw [Try.params5] at hd
    match ds, hd with
    | [_, _, _, _], _ => rfl
  · rw [Try.params5] at hT
    match avl, hT with
    | [x0, x1, x2, x3], ⟨⟨_, h0⟩, ⟨_, h1⟩, ⟨_, h2⟩, ⟨_, h3⟩, _⟩ =>
      obtain ⟨l, rfl, hl, hb⟩ := openL h0
      obtain ⟨q, rfl⟩ := openQ h1
      obtain ⟨s, rfl, hs⟩ := opn9 h2
      obtain ⟨ps, rfl, hps⟩ := openN h3
      exact joins_law l hl hb q s hs ps hps
theorem controlJoins_holds : Rows.ControlJoinsSaid :=
  OpenClaim.holds_of_wide 5 Try.f5 rfl rfl rfl rfl rfl rfl rfl ⟨rfl, rfl, rfl, rfl, rfl⟩ rfl rfl rfl rfl rfl (by kernel_rfl) Try.func5 (by kernel_rfl)
    (of_decide_eq_true (by kernel_rfl)) (by unfold Func.isWrapper; first | (rw [if_pos (by decide +kernel)]; kernel_rfl) | (rw [if_neg (by decide +kernel)]; exact ⟨rfl, rfl⟩))
    (fun os started H enc _ => controlJoins_lifted os started H enc)
end Go.Proofs.Ytljhngnegnbgoaa
