/- PollInside holds: for every association, draw and script the law returns true and leaves its arguments as they were. -/
import Derived.Test.YtnfdkpggkkniiaaK
import Derived.Test.YtnfdkpggkkniiaaRows
import Derived.ProofKit
namespace Go.Proofs.Ytnfdkpggkkniiaa
open Go.ChangeShapes Go.WideShapes Go.ChangeAt Go.RowKit Sx
theorem pollInside_own : ownKnob Try.prog.godebug = none := by kernel_rfl
theorem pollInside_laid : laidOutB Try.prog = true := by kernel_rfl
set_option maxRecDepth 100000 in
theorem pollInside_lifted (os : Os) (started : os.Started) (H : Type) (enc : TypeId × Value → H) :
    ReturnsInHanded {} Try.checked os 7 .any (Rows.pollInsideSpec.pre6 enc Try.prog Try.f7 Rows.pollInsideRow.domain false) (Rows.pollInsideSpec.post enc Try.prog Try.f7 false true false false) := by
  refine returnsInHanded_of_change (C := Try.checked) pollInside_own started (by kernel_rfl) Try.func7
    (ChangeSpec.witness6 (enc := enc) (C := Try.checked) false ⟨#[], #[.agg #[.int .i64 0, .int .u32 0, .int .i64 0, .int .i64 0, .int .i64 0, .bool false, .bool false, .bool false, .int .i64 0, .bool false, .int .i64 0, .int .i64 0], .int .i64 0, .slice none 0 0], []⟩ 8 (by kernel_rfl) (by kernel_rfl) (by kernel_rfl) (by kernel_rfl)) ?_
  intro W base args ds gs before hval hW _ _
  refine law_row (P := Try.prog) pollInside_laid (by kernel_rfl) (tb := 4) (by kernel_rfl) Try.underlying4 rfl (fun ds hd => ?_) hval hW (fun avl hT => ?_)
  · rw [Try.params7] at hd
    match ds, hd with
    | [_, _, _], _ => rfl
  · rw [Try.params7] at hT
    match avl, hT with
    | [x0, x1, x2], ⟨⟨_, h0⟩, ⟨_, h1⟩, ⟨_, h2⟩, _⟩ =>
      obtain ⟨a, rfl⟩ := open25 h0
      obtain ⟨draw, rfl, w2⟩ := int_i64 h1
      obtain ⟨l, rfl⟩ := open43 h2
      exact inside_law a draw l w2.2
theorem pollInside_holds : Rows.PollInsideSaid :=
  OpenClaim.holds_of_wide 7 Try.f7 rfl rfl rfl rfl rfl rfl rfl ⟨rfl, rfl, rfl, rfl, rfl⟩ rfl rfl rfl rfl rfl (by kernel_rfl) Try.func7 (by kernel_rfl)
    (of_decide_eq_true (by kernel_rfl)) (by unfold Func.isWrapper; first | (rw [if_pos (by decide +kernel)]; kernel_rfl) | (rw [if_neg (by decide +kernel)]; exact ⟨rfl, rfl⟩))
    (fun os started H enc _ => pollInside_lifted os started H enc)
end Go.Proofs.Ytnfdkpggkkniiaa
