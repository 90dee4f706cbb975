/- NmeaFeeds holds: for every input the law returns true and leaves its argument as it was: of at most 65536 bytes in whatever pieces, the sentences that are told, and how many are lost, are those of the document. -/
import Derived.Test.YtndjfjpljigcmaaH
import Derived.Test.YtndjfjpljigcmaaRows
import Derived.ProofKit
namespace Go.Proofs.Ytndjfjpljigcmaa
open Go.ChangeShapes Go.WideShapes Go.ChangeAt Go.RowKit Sx
theorem nmeaFeeds_own : ownKnob Try.prog.godebug = none := by kernel_rfl
theorem nmeaFeeds_laid : laidOutB Try.prog = true := by kernel_rfl
set_option maxRecDepth 100000 in
theorem nmeaFeeds_lifted (os : Os) (started : os.Started) (H : Type) (enc : TypeId × Value → H) :
    ReturnsInHanded {} Try.checked os 5 .any (Rows.nmeaFeedsSpec.pre6 enc Try.prog Try.f5 Rows.nmeaFeedsRow.domain false) (Rows.nmeaFeedsSpec.post enc Try.prog Try.f5 false true false false) := by
  refine returnsInHanded_of_change (C := Try.checked) nmeaFeeds_own started (by kernel_rfl) Try.func5
    (ChangeSpec.witness6 (enc := enc) (C := Try.checked) false ⟨#[], #[.slice none 0 0], []⟩ 8 (by kernel_rfl) (by kernel_rfl) (by kernel_rfl) (by kernel_rfl)) ?_
  intro W base args ds gs before hval hW _ _
  refine law_row (P := Try.prog) nmeaFeeds_laid (by kernel_rfl) (tb := 4) (by kernel_rfl) Try.underlying4 rfl (fun ds hd => ?_) hval hW (fun avl hT => ?_)
  · rw [Try.params5] at hd
    match ds, hd with
    | [_], _ => rfl
  · rw [Try.params5] at hT
    match avl, hT with
    | [x0], ⟨⟨_, h0⟩, _⟩ =>
      obtain ⟨l, rfl, hl, hb⟩ := open29 h0
      exact feeds_law l hb hl
theorem nmeaFeeds_holds : Rows.NmeaFeedsSaid :=
  OpenClaim.holds_of_wide 5 Try.f5 rfl rfl rfl rfl rfl rfl rfl ⟨rfl, rfl, rfl, rfl, rfl⟩ rfl rfl rfl rfl rfl (by kernel_rfl) Try.func5 (by kernel_rfl)
    (of_decide_eq_true (by kernel_rfl)) (by unfold Func.isWrapper; first | (rw [if_pos (by decide +kernel)]; kernel_rfl) | (rw [if_neg (by decide +kernel)]; exact ⟨rfl, rfl⟩))
    (fun os started H enc _ => nmeaFeeds_lifted os started H enc)
end Go.Proofs.Ytndjfjpljigcmaa
