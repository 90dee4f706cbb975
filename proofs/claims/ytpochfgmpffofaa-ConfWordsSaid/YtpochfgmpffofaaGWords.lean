/- ConfWords holds: for every input the law returns true and leaves its argument as it was: a line of at most 65536 bytes is cut into the words that the document says, or refused; a longer one is let by. -/
import Derived.Test.YtpochfgmpffofaaD
import Derived.Test.YtpochfgmpffofaaRows
import Derived.ProofKit
namespace Go.Proofs.Ytpochfgmpffofaa
open Go.ChangeShapes Go.WideShapes Go.ChangeAt Go.RowKit Sx
theorem confWords_own : ownKnob Try.prog.godebug = none := by kernel_rfl
theorem confWords_laid : laidOutB Try.prog = true := by kernel_rfl
set_option maxRecDepth 100000 in
theorem confWords_lifted (os : Os) (started : os.Started) (H : Type) (enc : TypeId × Value → H) :
    ReturnsInHanded {} Try.checked os 3 .any (Rows.confWordsSpec.pre6 enc Try.prog Try.f3 Rows.confWordsRow.domain false) (Rows.confWordsSpec.post enc Try.prog Try.f3 false true false false) := by
  refine returnsInHanded_of_change (C := Try.checked) confWords_own started (by kernel_rfl) Try.func3
    (ChangeSpec.witness6 (enc := enc) (C := Try.checked) false ⟨#[], #[.string ⟨#[]⟩], []⟩ 8 (by kernel_rfl) (by kernel_rfl) (by kernel_rfl) (by kernel_rfl)) ?_
  intro W base args ds gs before hval hW _ _
  refine law_row (P := Try.prog) confWords_laid (by kernel_rfl) (tb := 4) (by kernel_rfl) Try.underlying4 rfl (fun ds hd => ?_) hval hW (fun avl hT => ?_)
  · rw [Try.params3] at hd
    match ds, hd with
    | [_], _ => rfl
  · rw [Try.params3] at hT
    match avl, hT with
    | [x0], ⟨⟨_, h0⟩, _⟩ =>
      obtain ⟨s, rfl, hm⟩ := typA_string Try.underlying9 h0
      exact words_law s hm
theorem confWords_holds : Rows.ConfWordsSaid :=
  OpenClaim.holds_of_wide 3 Try.f3 rfl rfl rfl rfl rfl rfl rfl ⟨rfl, rfl, rfl, rfl, rfl⟩ rfl rfl rfl rfl rfl (by kernel_rfl) Try.func3 (by kernel_rfl)
    (of_decide_eq_true (by kernel_rfl)) (by unfold Func.isWrapper; first | (rw [if_pos (by decide +kernel)]; kernel_rfl) | (rw [if_neg (by decide +kernel)]; exact ⟨rfl, rfl⟩))
    (fun os started H enc _ => confWords_lifted os started H enc)
end Go.Proofs.Ytpochfgmpffofaa
