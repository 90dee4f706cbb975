/- PollRates holds: for every association, draw, wish of the system and row of at most 4096 answers the law returns true and leaves its arguments as they were: of questions sent when they are due, seven have at least 2^MinPoll seconds between the first and the last one. -/
import Derived.Test.YtnfdkpggkkniiaaM
import Derived.Test.YtnfdkpggkkniiaaRows
import Derived.ProofKit
namespace Go.Proofs.Ytnfdkpggkkniiaa
open Go.ChangeShapes Go.WideShapes Go.ChangeAt Go.RowKit Sx
theorem pollRates_own : ownKnob Try.prog.godebug = none := by kernel_rfl
theorem pollRates_laid : laidOutB Try.prog = true := by kernel_rfl
set_option maxRecDepth 100000 in
theorem pollRates_lifted (os : Os) (started : os.Started) (H : Type) (enc : TypeId × Value → H) :
    ReturnsInHanded {} Try.checked os 4 .any (Rows.pollRatesSpec.pre6 enc Try.prog Try.f4 Rows.pollRatesRow.domain false) (Rows.pollRatesSpec.post enc Try.prog Try.f4 false true false false) := by
  refine returnsInHanded_of_change (C := Try.checked) pollRates_own started (by kernel_rfl) Try.func4
    (ChangeSpec.witness6 (enc := enc) (C := Try.checked) false ⟨#[], #[.agg #[.int .i64 0, .int .u32 0, .int .i64 0, .int .i64 0, .int .i64 0, .bool false, .bool false, .bool false, .int .i64 0, .bool false, .int .i64 0, .int .i64 0], .int .i64 0, .int .i64 0, .slice none 0 0], []⟩ 8 (by kernel_rfl) (by kernel_rfl) (by kernel_rfl) (by kernel_rfl)) ?_
  intro W base args ds gs before hval hW _ _
  refine law_row (P := Try.prog) pollRates_laid (by kernel_rfl) (tb := 4) (by kernel_rfl) Try.underlying4 rfl (fun ds hd => ?_) hval hW (fun avl hT => ?_)
  · rw [Try.params4] at hd
    match ds, hd with
    | [_, _, _, _], _ => rfl
  · rw [Try.params4] at hT
    match avl, hT with
    | [x0, x1, x2, x3], ⟨⟨_, h0⟩, ⟨_, h1⟩, ⟨_, h2⟩, ⟨_, h3⟩, _⟩ =>
      obtain ⟨a, rfl⟩ := open25 h0
      obtain ⟨draw, rfl, w1⟩ := int_i64 h1
      obtain ⟨system, rfl, _⟩ := int_i64 h2
      obtain ⟨l, rfl⟩ := open37 h3
      exact rates_law a draw system l w1.2
theorem pollRates_holds : Rows.PollRatesSaid :=
  OpenClaim.holds_of_wide 4 Try.f4 rfl rfl rfl rfl rfl rfl rfl ⟨rfl, rfl, rfl, rfl, rfl⟩ rfl rfl rfl rfl rfl (by kernel_rfl) Try.func4 (by kernel_rfl)
    (of_decide_eq_true (by kernel_rfl)) (by unfold Func.isWrapper; first | (rw [if_pos (by decide +kernel)]; kernel_rfl) | (rw [if_neg (by decide +kernel)]; exact ⟨rfl, rfl⟩))
    (fun os started H enc _ => pollRates_lifted os started H enc)
end Go.Proofs.Ytnfdkpggkkniiaa
