/- PollDue holds: for every input the law returns true and leaves its arguments as they were, for every association, whatever the times and the draw. -/
import Derived.Test.YtnfdkpggkkniiaaF
import Derived.Test.YtnfdkpggkkniiaaRows
import Derived.ProofKit
namespace Go.Proofs.Ytnfdkpggkkniiaa
open Go.ChangeShapes Go.WideShapes Go.ChangeAt Go.RowKit Sx
theorem Try.own : ownKnob Try.prog.godebug = none := by kernel_rfl
theorem Try.laidOut : laidOutB Try.prog = true := by kernel_rfl
set_option maxRecDepth 100000 in
theorem due_lifted (os : Os) (started : os.Started) (H : Type) (enc : TypeId × Value → H) :
    ReturnsInHanded {} Try.checked os 3 .any (Rows.pollDueSpec.pre6 enc Try.prog Try.f3 Rows.pollDueRow.domain false) (Rows.pollDueSpec.post enc Try.prog Try.f3 false true false false) := by
  refine returnsInHanded_of_change (C := Try.checked) Try.own started (by kernel_rfl) Try.func3
    (ChangeSpec.witness6 (enc := enc) (C := Try.checked) false ⟨#[], #[.agg #[.int .i64 0, .int .u32 0, .int .i64 0, .int .i64 0, .int .i64 0, .bool false, .bool false, .bool false, .int .i64 0, .bool false, .int .i64 0, .int .i64 0], .int .i64 0, .int .i64 0, .int .i64 0], []⟩ 8 (by kernel_rfl) (by kernel_rfl) (by kernel_rfl) (by kernel_rfl)) ?_
  intro W base args ds gs before hval hW _ _
  refine law_row (P := Try.prog) Try.laidOut (by kernel_rfl) (tb := 4) (by kernel_rfl) Try.underlying4 rfl (fun ds hd => ?_) hval hW (fun avl hT => ?_)
  · rw [Try.params3] at hd
    match ds, hd with
    | [_, _, _, _], _ => rfl
  · rw [Try.params3] at hT
    match avl, hT with
    | [x0, x1, x2, x3], ⟨⟨_, h0⟩, ⟨_, h1⟩, ⟨_, h2⟩, ⟨_, h3⟩, _⟩ =>
      obtain ⟨a, rfl⟩ := open25 h0
      obtain ⟨now, rfl, w1⟩ := int_i64 h1
      obtain ⟨later, rfl, _⟩ := int_i64 h2
      obtain ⟨draw, rfl, w3⟩ := int_i64 h3
      exact due_law a now later draw w1 w3.2
theorem pollDue_holds : Rows.PollDueSaid :=
  OpenClaim.holds_of_wide 3 Try.f3 rfl rfl rfl rfl rfl rfl rfl ⟨rfl, rfl, rfl, rfl, rfl⟩ rfl rfl rfl rfl rfl (by kernel_rfl) Try.func3 (by kernel_rfl)
    (of_decide_eq_true (by kernel_rfl)) (by unfold Func.isWrapper; first | (rw [if_pos (by decide +kernel)]; kernel_rfl) | (rw [if_neg (by decide +kernel)]; exact ⟨rfl, rfl⟩))
    (fun os started H enc _ => due_lifted os started H enc)
end Go.Proofs.Ytnfdkpggkkniiaa
