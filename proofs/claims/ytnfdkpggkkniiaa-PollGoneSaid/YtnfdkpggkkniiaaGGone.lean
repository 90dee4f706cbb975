/- PollGone holds: for every association and any two numbers the law returns true and leaves its arguments as they were. -/
import Derived.Test.YtnfdkpggkkniiaaL
import Derived.Test.YtnfdkpggkkniiaaRows
import Derived.ProofKit
namespace Go.Proofs.Ytnfdkpggkkniiaa
open Go.ChangeShapes Go.WideShapes Go.ChangeAt Go.RowKit Sx
theorem pollGone_own : ownKnob Try.prog.godebug = none := by kernel_rfl
theorem pollGone_laid : laidOutB Try.prog = true := by kernel_rfl
set_option maxRecDepth 100000 in
theorem pollGone_lifted (os : Os) (started : os.Started) (H : Type) (enc : TypeId × Value → H) :
    ReturnsInHanded {} Try.checked os 5 .any (Rows.pollGoneSpec.pre6 enc Try.prog Try.f5 Rows.pollGoneRow.domain false) (Rows.pollGoneSpec.post enc Try.prog Try.f5 false true false false) := by
  refine returnsInHanded_of_change (C := Try.checked) pollGone_own started (by kernel_rfl) Try.func5
    (ChangeSpec.witness6 (enc := enc) (C := Try.checked) false ⟨#[], #[.agg #[.int .i64 0, .int .u32 0, .int .i64 0, .int .i64 0, .int .i64 0, .bool false, .bool false, .bool false, .int .i64 0, .bool false, .int .i64 0, .int .i64 0], .int .i64 0, .int .i64 0], []⟩ 8 (by kernel_rfl) (by kernel_rfl) (by kernel_rfl) (by kernel_rfl)) ?_
  intro W base args ds gs before hval hW _ _
  refine law_row (P := Try.prog) pollGone_laid (by kernel_rfl) (tb := 4) (by kernel_rfl) Try.underlying4 rfl (fun ds hd => ?_) hval hW (fun avl hT => ?_)
  · rw [Try.params5] at hd
    match ds, hd with
    | [_, _, _], _ => rfl
  · rw [Try.params5] at hT
    match avl, hT with
    | [x0, x1, x2], ⟨⟨_, h0⟩, ⟨_, h1⟩, ⟨_, h2⟩, _⟩ =>
      obtain ⟨a, rfl⟩ := open25 h0
      obtain ⟨heard, rfl, w1⟩ := int_i64 h1
      obtain ⟨more, rfl, w2⟩ := int_i64 h2
      exact gone_law a heard more
theorem pollGone_holds : Rows.PollGoneSaid :=
  OpenClaim.holds_of_wide 5 Try.f5 rfl rfl rfl rfl rfl rfl rfl ⟨rfl, rfl, rfl, rfl, rfl⟩ rfl rfl rfl rfl rfl (by kernel_rfl) Try.func5 (by kernel_rfl)
    (of_decide_eq_true (by kernel_rfl)) (by unfold Func.isWrapper; first | (rw [if_pos (by decide +kernel)]; kernel_rfl) | (rw [if_neg (by decide +kernel)]; exact ⟨rfl, rfl⟩))
    (fun os started H enc _ => pollGone_lifted os started H enc)
end Go.Proofs.Ytnfdkpggkkniiaa
