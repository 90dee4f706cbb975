/- AssocBounds holds: for every input the law returns true and leaves its arguments as they were: whatever comes, there are never more than sixteen associations, no two with one address, and those that are configured stay what they are, under their numbers. -/
import Derived.Test.YtcidoghpacihpaaV
import Derived.Test.YtcidoghpacihpaaRows
import Derived.ProofKit
namespace Go.Proofs.Ytcidoghpacihpaa
open Go.ChangeShapes Go.WideShapes Go.ChangeAt Go.RowKit Sx
theorem assocBounds_own : ownKnob Try.prog.godebug = none := by kernel_rfl
theorem assocBounds_laid : laidOutB Try.prog = true := by kernel_rfl
set_option maxRecDepth 100000 in
theorem assocBounds_lifted (os : Os) (started : os.Started) (H : Type) (enc : TypeId × Value → H) :
    ReturnsInHanded {} Try.checked os 4 .any (Rows.assocBoundsSpec.pre6 enc Try.prog Try.f4 Rows.assocBoundsRow.domain false) (Rows.assocBoundsSpec.post enc Try.prog Try.f4 false true false false) := by
  refine returnsInHanded_of_change (C := Try.checked) assocBounds_own started (by kernel_rfl) Try.func4
    (ChangeSpec.witness6 (enc := enc) (C := Try.checked) false ⟨#[], #[.agg #[.slice none 0 0, .slice none 0 0, .slice none 0 0, .int .i64 0, .slice none 0 0, .string ⟨#[]⟩, .slice none 0 0, .int .i64 0, .bool false, .bool false, .int .i64 0, .int .i64 0, .int .i64 0, .int .i64 0, .int .i64 0], .slice none 0 0], []⟩ 8 (by kernel_rfl) (by kernel_rfl) (by kernel_rfl) (by kernel_rfl)) ?_
  intro W base args ds gs before hval hW _ _
  refine law_row (P := Try.prog) assocBounds_laid (by kernel_rfl) (tb := 4) (by kernel_rfl) Try.underlying4 rfl (fun ds hd => ?_) hval hW (fun avl hT => ?_)
  · rw [Try.params4] at hd
    match ds, hd with
    | [_, _], _ => rfl
  · rw [Try.params4] at hT
    match avl, hT with
    | [x0, x1], ⟨⟨_, h0⟩, ⟨_, h1⟩, _⟩ =>
      obtain ⟨c, rfl, hc⟩ := opn32 h0
      obtain ⟨script, rfl, hs⟩ := opn33 h1
      exact bounds_law c script hc.1.1 hs.1 hs.2
theorem assocBounds_holds : Rows.AssocBoundsSaid :=
  OpenClaim.holds_of_wide 4 Try.f4 rfl rfl rfl rfl rfl rfl rfl ⟨rfl, rfl, rfl, rfl, rfl⟩ rfl rfl rfl rfl rfl (by kernel_rfl) Try.func4 (by kernel_rfl)
    (of_decide_eq_true (by kernel_rfl)) (by unfold Func.isWrapper; first | (rw [if_pos (by decide +kernel)]; kernel_rfl) | (rw [if_neg (by decide +kernel)]; exact ⟨rfl, rfl⟩))
    (fun os started H enc _ => assocBounds_lifted os started H enc)
end Go.Proofs.Ytcidoghpacihpaa
