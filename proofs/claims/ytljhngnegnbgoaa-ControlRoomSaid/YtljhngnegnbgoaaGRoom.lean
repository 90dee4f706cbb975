/- ControlRoom holds: for every input the law returns true and leaves its arguments as they were: an answer that has room is one packet, no longer than the room. -/
import Derived.Test.YtljhngnegnbgoaaR
import Derived.Test.YtljhngnegnbgoaaO
import Derived.Test.YtljhngnegnbgoaaRows
import Derived.ProofKit
namespace Go.Proofs.Ytljhngnegnbgoaa
open Go.ChangeShapes Go.WideShapes Go.ChangeAt Go.RowKit Sx
theorem controlRoom_own : ownKnob Try.prog.godebug = none := by kernel_rfl
theorem controlRoom_laid : laidOutB Try.prog = true := by kernel_rfl
set_option maxRecDepth 100000 in
theorem controlRoom_lifted (os : Os) (started : os.Started) (H : Type) (enc : TypeId × Value → H) :
    ReturnsInHanded {} Try.checked os 6 .any (Rows.controlRoomSpec.pre6 enc Try.prog Try.f6 Rows.controlRoomRow.domain false) (Rows.controlRoomSpec.post enc Try.prog Try.f6 false true false false) := by
  refine returnsInHanded_of_change (C := Try.checked) controlRoom_own started (by kernel_rfl) Try.func6
    (ChangeSpec.witness6 (enc := enc) (C := Try.checked) false ⟨#[], #[.agg #[.int .i64 0, .bool false, .bool false, .bool false, .int .i64 0, .int .i64 0, .int .i64 0, .int .i64 0, .int .i64 0, .slice none 0 0, .int .i64 0, .slice none 0 0], .int .i64 0, .string ⟨#[]⟩, .int .i64 0], []⟩ 8 (by kernel_rfl) (by kernel_rfl) (by kernel_rfl) (by kernel_rfl)) ?_
  intro W base args ds gs before hval hW _ _
  refine law_row (P := Try.prog) controlRoom_laid (by kernel_rfl) (tb := 4) (by kernel_rfl) Try.underlying4 rfl (fun ds hd => ?_) hval hW (fun avl hT => ?_)
  · rw [Try.params6] at hd
    match ds, hd with
    | [_, _, _, _], _ => rfl
  · rw [Try.params6] at hT
    match avl, hT with
    | [x0, x1, x2, x3], ⟨⟨_, h0⟩, ⟨_, h1⟩, ⟨_, h2⟩, ⟨_, h3⟩, _⟩ =>
      obtain ⟨q, rfl⟩ := openQ h0
      obtain ⟨st, rfl, _⟩ := opn3 h1
      obtain ⟨s, rfl, _⟩ := opn9 h2
      obtain ⟨room, rfl, hr⟩ := opn3 h3
      exact room_law q st s room hr.2
theorem controlRoom_holds : Rows.ControlRoomSaid :=
  OpenClaim.holds_of_wide 6 Try.f6 rfl rfl rfl rfl rfl rfl rfl ⟨rfl, rfl, rfl, rfl, rfl⟩ rfl rfl rfl rfl rfl (by kernel_rfl) Try.func6 (by kernel_rfl)
    (of_decide_eq_true (by kernel_rfl)) (by unfold Func.isWrapper; first | (rw [if_pos (by decide +kernel)]; kernel_rfl) | (rw [if_neg (by decide +kernel)]; exact ⟨rfl, rfl⟩))
    (fun os started H enc _ => controlRoom_lifted os started H enc)
end Go.Proofs.Ytljhngnegnbgoaa
