/- ControlPicks holds: for every input the law returns true and leaves its arguments as they were: of variables with unlike names each one that is asked for by its name is told, in the order of the names; one that is not there spoils all. -/
import Derived.Test.YtljhngnegnbgoaaC
import Derived.Test.YtljhngnegnbgoaaRows
import Derived.ProofKit
namespace Go.Proofs.Ytljhngnegnbgoaa
open Go.ChangeShapes Go.WideShapes Go.ChangeAt Go.RowKit Sx
theorem controlPicks_own : ownKnob Try.prog.godebug = none := by kernel_rfl
theorem controlPicks_laid : laidOutB Try.prog = true := by kernel_rfl
set_option maxRecDepth 100000 in
theorem controlPicks_lifted (os : Os) (started : os.Started) (H : Type) (enc : TypeId × Value → H) :
    ReturnsInHanded {} Try.checked os 4 .any (Rows.controlPicksSpec.pre6 enc Try.prog Try.f4 Rows.controlPicksRow.domain false) (Rows.controlPicksSpec.post enc Try.prog Try.f4 false true false false) := by
  refine returnsInHanded_of_change (C := Try.checked) controlPicks_own started (by kernel_rfl) Try.func4
    (ChangeSpec.witness6 (enc := enc) (C := Try.checked) false ⟨#[], #[.slice none 0 0, .slice none 0 0], []⟩ 8 (by kernel_rfl) (by kernel_rfl) (by kernel_rfl) (by kernel_rfl)) ?_
  intro W base args ds gs before hval hW _ _
  refine law_row (P := Try.prog) controlPicks_laid (by kernel_rfl) (tb := 4) (by kernel_rfl) Try.underlying4 rfl (fun ds hd => ?_) hval hW (fun avl hT => ?_)
  · rw [Try.params4] at hd
    match ds, hd with
    | [_, _], _ => rfl
  · rw [Try.params4] at hT
    match avl, hT with
    | [x0, x1], ⟨⟨_, h0⟩, ⟨_, h1⟩, _⟩ =>
      obtain ⟨l, rfl, hl⟩ := open31 h0
      obtain ⟨ps, rfl, hps⟩ := open32 h1
      exact picks_law l ps hl hps
theorem controlPicks_holds : Rows.ControlPicksSaid :=
  OpenClaim.holds_of_wide 4 Try.f4 rfl rfl rfl rfl rfl rfl rfl ⟨rfl, rfl, rfl, rfl, rfl⟩ rfl rfl rfl rfl rfl (by kernel_rfl) Try.func4 (by kernel_rfl)
    (of_decide_eq_true (by kernel_rfl)) (by unfold Func.isWrapper; first | (rw [if_pos (by decide +kernel)]; kernel_rfl) | (rw [if_neg (by decide +kernel)]; exact ⟨rfl, rfl⟩))
    (fun os started H enc _ => controlPicks_lifted os started H enc)
end Go.Proofs.Ytljhngnegnbgoaa
