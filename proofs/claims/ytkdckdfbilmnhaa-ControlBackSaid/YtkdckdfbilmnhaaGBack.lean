/- ControlBack holds: for every input the law returns true and leaves its arguments as they were: variables that may be are read back as they were; what is read is written just so. -/
import Derived.Test.YtkdckdfbilmnhaaQ
import Derived.Test.YtkdckdfbilmnhaaRows
import Derived.ProofKit
namespace Go.Proofs.Ytkdckdfbilmnhaa
open Go.ChangeShapes Go.WideShapes Go.ChangeAt Go.RowKit Sx
theorem controlBack_own : ownKnob Try.prog.godebug = none := by kernel_rfl
theorem controlBack_laid : laidOutB Try.prog = true := by kernel_rfl
set_option maxRecDepth 100000 in
theorem controlBack_lifted (os : Os) (started : os.Started) (H : Type) (enc : TypeId × Value → H) :
    ReturnsInHanded {} Try.checked os 3 .any (Rows.controlBackSpec.pre6 enc Try.prog Try.f3 Rows.controlBackRow.domain false) (Rows.controlBackSpec.post enc Try.prog Try.f3 false true false false) := by
  refine returnsInHanded_of_change (C := Try.checked) controlBack_own started (by kernel_rfl) Try.func3
    (ChangeSpec.witness6 (enc := enc) (C := Try.checked) false ⟨#[], #[.slice none 0 0, .string ⟨#[]⟩], []⟩ 8 (by kernel_rfl) (by kernel_rfl) (by kernel_rfl) (by kernel_rfl)) ?_
  intro W base args ds gs before hval hW _ _
  refine law_row (P := Try.prog) controlBack_laid (by kernel_rfl) (tb := 4) (by kernel_rfl) Try.underlying4 rfl (fun ds hd => ?_) hval hW (fun avl hT => ?_)
  · rw [Try.params3] at hd
    match ds, hd with
    | [_, _], _ => rfl
  · rw [Try.params3] at hT
    match avl, hT with
    | [x0, x1], ⟨⟨_, h0⟩, ⟨_, h1⟩, _⟩ =>
      obtain ⟨l, rfl, hl⟩ := open22 h0
      obtain ⟨s, rfl, _⟩ := typA_string Try.underlying9 h1
      exact back_law l s hl
theorem controlBack_holds : Rows.ControlBackSaid :=
  OpenClaim.holds_of_wide 3 Try.f3 rfl rfl rfl rfl rfl rfl rfl ⟨rfl, rfl, rfl, rfl, rfl⟩ rfl rfl rfl rfl rfl (by kernel_rfl) Try.func3 (by kernel_rfl)
    (of_decide_eq_true (by kernel_rfl)) (by unfold Func.isWrapper; first | (rw [if_pos (by decide +kernel)]; kernel_rfl) | (rw [if_neg (by decide +kernel)]; exact ⟨rfl, rfl⟩))
    (fun os started H enc _ => controlBack_lifted os started H enc)
end Go.Proofs.Ytkdckdfbilmnhaa
