/- ControlLists holds: for every input the law returns true and leaves its arguments as they were: any variables are written, any text is read, and any are picked out, as the document says. -/
import Derived.Test.YtkdckdfbilmnhaaR
import Derived.Test.YtkdckdfbilmnhaaRows
import Derived.ProofKit
namespace Go.Proofs.Ytkdckdfbilmnhaa
open Go.ChangeShapes Go.WideShapes Go.ChangeAt Go.RowKit Sx
theorem controlLists_own : ownKnob Try.prog.godebug = none := by kernel_rfl
theorem controlLists_laid : laidOutB Try.prog = true := by kernel_rfl
set_option maxRecDepth 100000 in
theorem controlLists_lifted (os : Os) (started : os.Started) (H : Type) (enc : TypeId × Value → H) :
    ReturnsInHanded {} Try.checked os 4 .any (Rows.controlListsSpec.pre6 enc Try.prog Try.f4 Rows.controlListsRow.domain false) (Rows.controlListsSpec.post enc Try.prog Try.f4 false true false false) := by
  refine returnsInHanded_of_change (C := Try.checked) controlLists_own started (by kernel_rfl) Try.func4
    (ChangeSpec.witness6 (enc := enc) (C := Try.checked) false ⟨#[], #[.slice none 0 0, .slice none 0 0, .string ⟨#[]⟩], []⟩ 8 (by kernel_rfl) (by kernel_rfl) (by kernel_rfl) (by kernel_rfl)) ?_
  intro W base args ds gs before hval hW _ _
  refine law_row (P := Try.prog) controlLists_laid (by kernel_rfl) (tb := 4) (by kernel_rfl) Try.underlying4 rfl (fun ds hd => ?_) hval hW (fun avl hT => ?_)
  · rw [Try.params4] at hd
    match ds, hd with
    | [_, _, _], _ => rfl
  · rw [Try.params4] at hT
    match avl, hT with
    | [x0, x1, x2], ⟨⟨_, h0⟩, ⟨_, h1⟩, ⟨_, h2⟩, _⟩ =>
      obtain ⟨l, rfl, hl⟩ := open22 h0
      obtain ⟨ns, rfl, hns⟩ := open22 h1
      obtain ⟨s, rfl, _⟩ := typA_string Try.underlying9 h2
      exact lists_law l ns s hl hns
theorem controlLists_holds : Rows.ControlListsSaid :=
  OpenClaim.holds_of_wide 4 Try.f4 rfl rfl rfl rfl rfl rfl rfl ⟨rfl, rfl, rfl, rfl, rfl⟩ rfl rfl rfl rfl rfl (by kernel_rfl) Try.func4 (by kernel_rfl)
    (of_decide_eq_true (by kernel_rfl)) (by unfold Func.isWrapper; first | (rw [if_pos (by decide +kernel)]; kernel_rfl) | (rw [if_neg (by decide +kernel)]; exact ⟨rfl, rfl⟩))
    (fun os started H enc _ => controlLists_lifted os started H enc)
end Go.Proofs.Ytkdckdfbilmnhaa
