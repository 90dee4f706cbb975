/- NmeaCounts holds: for every input the law returns true and leaves its argument as it was: of at most 65536 bytes in pieces, as many sentences as are begun are told, lost, or not ended yet. -/
import Derived.Test.YtndjfjpljigcmaaF
import Derived.Test.YtndjfjpljigcmaaRows
import Derived.ProofKit
namespace Go.Proofs.Ytndjfjpljigcmaa
open Go.ChangeShapes Go.WideShapes Go.ChangeAt Go.RowKit Sx
theorem nmeaCounts_own : ownKnob Try.prog.godebug = none := by kernel_rfl
theorem nmeaCounts_laid : laidOutB Try.prog = true := by kernel_rfl
set_option maxRecDepth 100000 in
theorem nmeaCounts_lifted (os : Os) (started : os.Started) (H : Type) (enc : TypeId × Value → H) :
    ReturnsInHanded {} Try.checked os 4 .any (Rows.nmeaCountsSpec.pre6 enc Try.prog Try.f4 Rows.nmeaCountsRow.domain false) (Rows.nmeaCountsSpec.post enc Try.prog Try.f4 false true false false) := by
  refine returnsInHanded_of_change (C := Try.checked) nmeaCounts_own started (by kernel_rfl) Try.func4
    (ChangeSpec.witness6 (enc := enc) (C := Try.checked) false ⟨#[], #[.slice none 0 0], []⟩ 8 (by kernel_rfl) (by kernel_rfl) (by kernel_rfl) (by kernel_rfl)) ?_
  intro W base args ds gs before hval hW _ _
  refine law_row (P := Try.prog) nmeaCounts_laid (by kernel_rfl) (tb := 4) (by kernel_rfl) Try.underlying4 rfl (fun ds hd => ?_) hval hW (fun avl hT => ?_)
  · rw [Try.params4] at hd
    match ds, hd with
    | [_], _ => rfl
  · rw [Try.params4] at hT
    match avl, hT with
    | [x0], ⟨⟨_, h0⟩, _⟩ =>
      obtain ⟨l, rfl, hl, hb⟩ := open29 h0
      exact counts_law l hb hl
theorem nmeaCounts_holds : Rows.NmeaCountsSaid :=
  OpenClaim.holds_of_wide 4 Try.f4 rfl rfl rfl rfl rfl rfl rfl ⟨rfl, rfl, rfl, rfl, rfl⟩ rfl rfl rfl rfl rfl (by kernel_rfl) Try.func4 (by kernel_rfl)
    (of_decide_eq_true (by kernel_rfl)) (by unfold Func.isWrapper; first | (rw [if_pos (by decide +kernel)]; kernel_rfl) | (rw [if_neg (by decide +kernel)]; exact ⟨rfl, rfl⟩))
    (fun os started H enc _ => nmeaCounts_lifted os started H enc)
end Go.Proofs.Ytndjfjpljigcmaa
