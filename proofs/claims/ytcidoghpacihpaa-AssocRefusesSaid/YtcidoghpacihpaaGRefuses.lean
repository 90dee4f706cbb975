/- AssocRefuses holds: for every input the law returns true and leaves its arguments as they were: whoever is not served is not answered, whoever may not be a peer mobilises nothing, and what is found belongs to an association of that address. -/
import Derived.Test.YtcidoghpacihpaaR
import Derived.Test.YtcidoghpacihpaaRows
import Derived.ProofKit
namespace Go.Proofs.Ytcidoghpacihpaa
open Go.ChangeShapes Go.WideShapes Go.ChangeAt Go.RowKit Sx
theorem assocRefuses_own : ownKnob Try.prog.godebug = none := by kernel_rfl
theorem assocRefuses_laid : laidOutB Try.prog = true := by kernel_rfl
set_option maxRecDepth 100000 in
theorem assocRefuses_lifted (os : Os) (started : os.Started) (H : Type) (enc : TypeId × Value → H) :
    ReturnsInHanded {} Try.checked os 5 .any (Rows.assocRefusesSpec.pre6 enc Try.prog Try.f5 Rows.assocRefusesRow.domain false) (Rows.assocRefusesSpec.post enc Try.prog Try.f5 false true false false) := by
  refine returnsInHanded_of_change (C := Try.checked) assocRefuses_own started (by kernel_rfl) Try.func5
    (ChangeSpec.witness6 (enc := enc) (C := Try.checked) false ⟨#[], #[.agg #[.slice none 0 0, .slice none 0 0, .slice none 0 0, .int .i64 0, .slice none 0 0, .string ⟨#[]⟩, .slice none 0 0, .int .i64 0, .bool false, .bool false, .int .i64 0, .int .i64 0, .int .i64 0, .int .i64 0, .int .i64 0], .slice none 0 0, .agg #[.int .i64 0, .int .i64 0, .int .i64 0, .int .i64 0, .int .i64 0, .int .i64 0, .int .i64 0, .int .i64 0, .int .u32 0, .int .u64 0, .int .u64 0, .int .u64 0, .int .u64 0, .slice none 0 0, .int .i64 0, .bool false, .slice none 0 0], .int .u32 0, .int .u32 0, .int .i64 0, .bool false], []⟩ 8 (by kernel_rfl) (by kernel_rfl) (by kernel_rfl) (by kernel_rfl)) ?_
  intro W base args ds gs before hval hW _ _
  refine law_row (P := Try.prog) assocRefuses_laid (by kernel_rfl) (tb := 4) (by kernel_rfl) Try.underlying4 rfl (fun ds hd => ?_) hval hW (fun avl hT => ?_)
  · rw [Try.params5] at hd
    match ds, hd with
    | [_, _, _, _, _, _, _], _ => rfl
  · rw [Try.params5] at hT
    match avl, hT with
    | [x0, x1, x2, x3, x4, x5, x6], ⟨⟨_, h0⟩, ⟨_, h1⟩, ⟨_, h2⟩, ⟨_, h3⟩, ⟨_, h4⟩, ⟨_, h5⟩, ⟨_, h6⟩, _⟩ =>
      obtain ⟨c, rfl, hc⟩ := opn32 h0
      obtain ⟨script, rfl, hs⟩ := opn33 h1
      obtain ⟨p, rfl, _⟩ := opn46 h2
      obtain ⟨frm, rfl, _⟩ := opn38 h3
      obtain ⟨to, rfl, _⟩ := opn38 h4
      obtain ⟨flags, rfl, _⟩ := opn3 h5
      obtain ⟨auth, rfl, _⟩ := opn4 h6
      exact refuses_law c script p frm to flags auth hc.1.1 hs.1 hs.2
theorem assocRefuses_holds : Rows.AssocRefusesSaid :=
  OpenClaim.holds_of_wide 5 Try.f5 rfl rfl rfl rfl rfl rfl rfl ⟨rfl, rfl, rfl, rfl, rfl⟩ rfl rfl rfl rfl rfl (by kernel_rfl) Try.func5 (by kernel_rfl)
    (of_decide_eq_true (by kernel_rfl)) (by unfold Func.isWrapper; first | (rw [if_pos (by decide +kernel)]; kernel_rfl) | (rw [if_neg (by decide +kernel)]; exact ⟨rfl, rfl⟩))
    (fun os started H enc _ => assocRefuses_lifted os started H enc)
end Go.Proofs.Ytcidoghpacihpaa
