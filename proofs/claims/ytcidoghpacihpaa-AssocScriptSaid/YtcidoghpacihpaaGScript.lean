/- AssocScript holds: for every input the law returns true and leaves its arguments as they were: a table of any configuration, whatever is added, dropped, heard, routed and mobilised, gives the answers of the document, and has what its table has. -/
import Derived.Test.YtcidoghpacihpaaBC
import Derived.Test.YtcidoghpacihpaaRows
import Derived.ProofKit
namespace Go.Proofs.Ytcidoghpacihpaa
open Go.ChangeShapes Go.WideShapes Go.ChangeAt Go.RowKit Sx
theorem assocScript_own : ownKnob Try.prog.godebug = none := by kernel_rfl
theorem assocScript_laid : laidOutB Try.prog = true := by kernel_rfl
set_option maxRecDepth 100000 in
theorem assocScript_lifted (os : Os) (started : os.Started) (H : Type) (enc : TypeId × Value → H) :
    ReturnsInHanded {} Try.checked os 6 .any (Rows.assocScriptSpec.pre6 enc Try.prog Try.f6 Rows.assocScriptRow.domain false) (Rows.assocScriptSpec.post enc Try.prog Try.f6 false true false false) := by
  refine returnsInHanded_of_change (C := Try.checked) assocScript_own started (by kernel_rfl) Try.func6
    (ChangeSpec.witness6 (enc := enc) (C := Try.checked) false ⟨#[], #[.agg #[.slice none 0 0, .slice none 0 0, .slice none 0 0, .int .i64 0, .slice none 0 0, .string ⟨#[]⟩, .slice none 0 0, .int .i64 0, .bool false, .bool false, .int .i64 0, .int .i64 0, .int .i64 0, .int .i64 0, .int .i64 0], .slice none 0 0], []⟩ 8 (by kernel_rfl) (by kernel_rfl) (by kernel_rfl) (by kernel_rfl)) ?_
  intro W base args ds gs before hval hW _ _
  refine law_row (P := Try.prog) assocScript_laid (by kernel_rfl) (tb := 4) (by kernel_rfl) Try.underlying4 rfl (fun ds hd => ?_) hval hW (fun avl hT => ?_)
  · rw [Try.params6] at hd
    match ds, hd with
    | [_, _], _ => rfl
  · rw [Try.params6] at hT
    match avl, hT with
    | [x0, x1], ⟨⟨_, h0⟩, ⟨_, h1⟩, _⟩ =>
      obtain ⟨c, rfl, hc⟩ := opn32 h0
      obtain ⟨script, rfl, hs⟩ := opn33 h1
      exact script_law c script hc.1.1 hs.1 hs.2
theorem assocScript_holds : Rows.AssocScriptSaid :=
  OpenClaim.holds_of_wide 6 Try.f6 rfl rfl rfl rfl rfl rfl rfl ⟨rfl, rfl, rfl, rfl, rfl⟩ rfl rfl rfl rfl rfl (by kernel_rfl) Try.func6 (by kernel_rfl)
    (of_decide_eq_true (by kernel_rfl)) (by unfold Func.isWrapper; first | (rw [if_pos (by decide +kernel)]; kernel_rfl) | (rw [if_neg (by decide +kernel)]; exact ⟨rfl, rfl⟩))
    (fun os started H enc _ => assocScript_lifted os started H enc)
end Go.Proofs.Ytcidoghpacihpaa
