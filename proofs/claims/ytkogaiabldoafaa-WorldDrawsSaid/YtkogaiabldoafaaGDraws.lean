/- WorldDraws holds: for every input the law returns true and leaves its argument as it was: draws that were put are drawn in their order, 64 at most; then noughts. -/
import Derived.Test.YtkogaiabldoafaaB
import Derived.Test.YtkogaiabldoafaaRows
import Derived.ProofKit
namespace Go.Proofs.Ytkogaiabldoafaa
open Go.ChangeShapes Go.WideShapes Go.ChangeAt Go.RowKit Sx
theorem worldDraws_own : ownKnob Try.prog.godebug = none := by kernel_rfl
theorem worldDraws_laid : laidOutB Try.prog = true := by kernel_rfl
set_option maxRecDepth 100000 in
theorem worldDraws_lifted (os : Os) (started : os.Started) (H : Type) (enc : TypeId × Value → H) :
    ReturnsInHanded {} Try.checked os 3 .any (Rows.worldDrawsSpec.pre6 enc Try.prog Try.f3 Rows.worldDrawsRow.domain false) (Rows.worldDrawsSpec.post enc Try.prog Try.f3 false true false false) := by
  refine returnsInHanded_of_change (C := Try.checked) worldDraws_own started (by kernel_rfl) Try.func3
    (ChangeSpec.witness6 (enc := enc) (C := Try.checked) false ⟨#[], #[.slice none 0 0], []⟩ 8 (by kernel_rfl) (by kernel_rfl) (by kernel_rfl) (by kernel_rfl)) ?_
  intro W base args ds gs before hval hW _ _
  refine law_row (P := Try.prog) worldDraws_laid (by kernel_rfl) (tb := 4) (by kernel_rfl) Try.underlying4 rfl (fun ds hd => ?_) hval hW (fun avl hT => ?_)
  · rw [Try.params3] at hd
    match ds, hd with
    | [_], _ => rfl
  · rw [Try.params3] at hT
    match avl, hT with
    | [x0], ⟨⟨_, h0⟩, _⟩ =>
      obtain ⟨l, rfl, hl⟩ := open22 h0
      exact draws_law l hl
theorem worldDraws_holds : Rows.WorldDrawsSaid :=
  OpenClaim.holds_of_wide 3 Try.f3 rfl rfl rfl rfl rfl rfl rfl ⟨rfl, rfl, rfl, rfl, rfl⟩ rfl rfl rfl rfl rfl (by kernel_rfl) Try.func3 (by kernel_rfl)
    (of_decide_eq_true (by kernel_rfl)) (by unfold Func.isWrapper; first | (rw [if_pos (by decide +kernel)]; kernel_rfl) | (rw [if_neg (by decide +kernel)]; exact ⟨rfl, rfl⟩))
    (fun os started H enc _ => worldDraws_lifted os started H enc)
end Go.Proofs.Ytkogaiabldoafaa
