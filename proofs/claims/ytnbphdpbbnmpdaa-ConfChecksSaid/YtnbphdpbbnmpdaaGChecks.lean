/- ConfChecks holds: for every input the law returns true and leaves its arguments as they were: Check says of every configuration that is not too heavy what the document says; the defaults are alike, and they pass. -/
import Derived.Test.YtnbphdpbbnmpdaaX
import Derived.Test.YtnbphdpbbnmpdaaRows
import Derived.ProofKit
namespace Go.Proofs.Ytnbphdpbbnmpdaa
open Go.ChangeShapes Go.WideShapes Go.ChangeAt Go.RowKit Sx
theorem confChecks_own : ownKnob Try.prog.godebug = none := by kernel_rfl
theorem confChecks_laid : laidOutB Try.prog = true := by kernel_rfl
set_option maxRecDepth 100000 in
theorem confChecks_lifted (os : Os) (started : os.Started) (H : Type) (enc : TypeId × Value → H) :
    ReturnsInHanded {} Try.checked os 3 .any (Rows.confChecksSpec.pre6 enc Try.prog Try.f3 Rows.confChecksRow.domain false) (Rows.confChecksSpec.post enc Try.prog Try.f3 false true false false) := by
  refine returnsInHanded_of_change (C := Try.checked) confChecks_own started (by kernel_rfl) Try.func3
    (ChangeSpec.witness6 (enc := enc) (C := Try.checked) false ⟨#[], #[.agg #[.slice none 0 0, .slice none 0 0, .slice none 0 0, .int .i64 0, .slice none 0 0, .string ⟨#[]⟩, .slice none 0 0, .int .i64 0, .bool false, .bool false, .int .i64 0, .int .i64 0, .int .i64 0, .int .i64 0, .int .i64 0]], []⟩ 8 (by kernel_rfl) (by kernel_rfl) (by kernel_rfl) (by kernel_rfl)) ?_
  intro W base args ds gs before hval hW _ _
  refine law_row (P := Try.prog) confChecks_laid (by kernel_rfl) (tb := 4) (by kernel_rfl) Try.underlying4 rfl (fun ds hd => ?_) hval hW (fun avl hT => ?_)
  · rw [Try.params3] at hd
    match ds, hd with
    | [_], _ => rfl
  · rw [Try.params3] at hT
    match avl, hT with
    | [x0], ⟨⟨_, h0⟩, _⟩ =>
      obtain ⟨c, rfl, hc⟩ := opn29 h0
      exact law_spec c hc
theorem confChecks_holds : Rows.ConfChecksSaid :=
  OpenClaim.holds_of_wide 3 Try.f3 rfl rfl rfl rfl rfl rfl rfl ⟨rfl, rfl, rfl, rfl, rfl⟩ rfl rfl rfl rfl rfl (by kernel_rfl) Try.func3 (by kernel_rfl)
    (of_decide_eq_true (by kernel_rfl)) (by unfold Func.isWrapper; first | (rw [if_pos (by decide +kernel)]; kernel_rfl) | (rw [if_neg (by decide +kernel)]; exact ⟨rfl, rfl⟩))
    (fun os started H enc _ => confChecks_lifted os started H enc)
end Go.Proofs.Ytnbphdpbbnmpdaa
