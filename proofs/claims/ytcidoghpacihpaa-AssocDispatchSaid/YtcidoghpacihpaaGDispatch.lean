/- AssocDispatch holds: for every input the law returns true and leaves its arguments as they were: what a packet of any mode is for, of an association of any kind. -/
import Derived.Test.YtcidoghpacihpaaM
import Derived.Test.YtcidoghpacihpaaRows
import Derived.ProofKit
namespace Go.Proofs.Ytcidoghpacihpaa
open Go.ChangeShapes Go.WideShapes Go.ChangeAt Go.RowKit Sx
theorem assocDispatch_own : ownKnob Try.prog.godebug = none := by kernel_rfl
theorem assocDispatch_laid : laidOutB Try.prog = true := by kernel_rfl
set_option maxRecDepth 100000 in
theorem assocDispatch_lifted (os : Os) (started : os.Started) (H : Type) (enc : TypeId × Value → H) :
    ReturnsInHanded {} Try.checked os 3 .any (Rows.assocDispatchSpec.pre6 enc Try.prog Try.f3 Rows.assocDispatchRow.domain false) (Rows.assocDispatchSpec.post enc Try.prog Try.f3 false true false false) := by
  refine returnsInHanded_of_change (C := Try.checked) assocDispatch_own started (by kernel_rfl) Try.func3
    (ChangeSpec.witness6 (enc := enc) (C := Try.checked) false ⟨#[], #[.int .i64 0, .int .i64 0], []⟩ 8 (by kernel_rfl) (by kernel_rfl) (by kernel_rfl) (by kernel_rfl)) ?_
  intro W base args ds gs before hval hW _ _
  refine law_row (P := Try.prog) assocDispatch_laid (by kernel_rfl) (tb := 4) (by kernel_rfl) Try.underlying4 rfl (fun ds hd => ?_) hval hW (fun avl hT => ?_)
  · rw [Try.params3] at hd
    match ds, hd with
    | [_, _], _ => rfl
  · rw [Try.params3] at hT
    match avl, hT with
    | [x0, x1], ⟨⟨_, h0⟩, ⟨_, h1⟩, _⟩ =>
      obtain ⟨k, rfl, _⟩ := opn3 h0
      obtain ⟨m, rfl, _⟩ := opn3 h1
      exact dispatch_law k m
theorem assocDispatch_holds : Rows.AssocDispatchSaid :=
  OpenClaim.holds_of_wide 3 Try.f3 rfl rfl rfl rfl rfl rfl rfl ⟨rfl, rfl, rfl, rfl, rfl⟩ rfl rfl rfl rfl rfl (by kernel_rfl) Try.func3 (by kernel_rfl)
    (of_decide_eq_true (by kernel_rfl)) (by unfold Func.isWrapper; first | (rw [if_pos (by decide +kernel)]; kernel_rfl) | (rw [if_neg (by decide +kernel)]; exact ⟨rfl, rfl⟩))
    (fun os started H enc _ => assocDispatch_lifted os started H enc)
end Go.Proofs.Ytcidoghpacihpaa
