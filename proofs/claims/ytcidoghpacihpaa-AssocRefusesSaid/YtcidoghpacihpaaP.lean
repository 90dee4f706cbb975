/- Whoever is not known. -/
import Derived.Test.YtcidoghpacihpaaN
namespace Go.Proofs.Ytcidoghpacihpaa.Sx
open Go Go.RowKit
attribute [local irreducible] IW AOps AQuiet GQ GY AExec QY Yld ACalls ACallsD
attribute [local irreducible] tvs tcs
def unk (T : Tb) (frm : Int) : Bool := match get T (find1 T frm) with | none => true | some e => decide (e.a.kind = 0)
theorem unknown_spec (T : Tb) (hT : ok T) (frm : Int) : ACalls Try.prog 17 [.vptr (tvs T) 0, .sc (.int .u32 frm)] ⟨0, []⟩ (fun r _ => r = .sc (.bool (unk T frm))) := by
  have sf := find_spec T hT frm
  have sg := getE_spec T (find1 T frm)
  unfold gE at sg
  unfold unk
  cases hg : get T (find1 T frm) with
  | none =>
    rw [hg] at sg
    dsimp only at sg
    refine enter2 Try.func17 rfl 23 0 [.tmp 4] rfl rfl rfl ?_
    repeat' (first | (refine aops_nil ?_) | (show AOps _ _ _ _ _ _; first | (show AOps _ _ _ _ (⟨some _, .move _, _, _, _, none⟩ :: _) _; first | (refine o_y (v_move (v := .sc _) rfl) rfl ?_) | (refine o_y (v_move (v := .vptr _ _) rfl) rfl ?_) | (refine o_y (v_move (v := .tup _) rfl) rfl ?_)) | (show AOps _ _ _ _ (⟨some _, .assign _, _, _, _, none⟩ :: _) _; first | (refine o_y (v_assign (v := .sc _) rfl) rfl ?_)) | (show AOps _ _ _ _ (⟨some _, .pick _ _ _, _, _, _, none⟩ :: _) _; first | (refine o_y (v_pick_t (v := .sc _) rfl (by first | rfl | assumption | exact beq_self_eq_true _ | exact decide_eq_true rfl) rfl) rfl ?_)) | (show AOps _ _ _ _ (⟨some _, .unOp _ _ _, _, _, _, none⟩ :: _) _; first | (refine o_y (y_not rfl) rfl ?_)) | (show AOps _ _ _ _ (⟨some _, .extract _ _, _, _, _, none⟩ :: _) _; first | (refine o_y (y_extract (v := .sc _) rfl rfl) rfl ?_) | (refine o_y (y_extract (v := .agg _) rfl rfl) rfl ?_)) | (show AOps _ _ _ _ (⟨some _, .call ⟨.value (.func 15), _, _⟩, _, _, _, none⟩ :: _) _; refine o_gg (g_call (sg) rfl) rfl ?_) | (show AOps _ _ _ _ (⟨some _, .call ⟨.value (.func 29), _, _⟩, _, _, _, none⟩ :: _) _; first | (refine o_q (q_call (sf)) rfl ?_)) | (show AOps _ _ _ _ (⟨_, .store _ _ _, _, _, _, none⟩ :: _) _; first | (refine o_x (s_storeW rfl rfl rfl rfl rfl (by first | rfl | assumption) ?_))) | (show AOps _ _ _ _ (⟨_, .alloc _, _, _, _, none⟩ :: _) _; first | (refine o_x (a_new (by first | (simp only [AV.ofV, AV.cells, List.map_cons, List.map_nil]; rfl) | rfl) rfl rfl rfl ?_))) | (show AOps _ _ _ _ (⟨_, _, _, _, _, some (_, _)⟩ :: _) _; first | (refine o_g_f rfl rfl rfl (by first | rfl | assumption) ?_))) | (show IW _ _ _ _ _; first | (refine awp_seq ?_) | (refine awp_region ?_) | (refine awp_ret ?_)))
    all_goals first | (exfalso; simp at *; done) | exact ret1 [] (by decide) rfl rfl
  | some e =>
    rw [hg] at sg
    dsimp only at sg
    refine enter2 Try.func17 rfl 23 0 [.tmp 4] rfl rfl rfl ?_
    repeat' (first | (refine aops_nil ?_) | (show AOps _ _ _ _ _ _; first | (show AOps _ _ _ _ (⟨some _, .move _, _, _, _, none⟩ :: _) _; first | (refine o_y (v_move (v := .sc _) rfl) rfl ?_) | (refine o_y (v_move (v := .vptr _ _) rfl) rfl ?_) | (refine o_y (v_move (v := .tup _) rfl) rfl ?_)) | (show AOps _ _ _ _ (⟨some _, .load _ _, _, _, _, none⟩ :: _) _; first | (refine o_y (y_load1 (v := .sc _) rfl rfl rfl) rfl ?_)) | (show AOps _ _ _ _ (⟨some _, .fieldAddr _ _ _, _, _, _, none⟩ :: _) _; first | (refine o_y (y_fld_ptr rfl rfl) rfl ?_)) | (show AOps _ _ _ _ (⟨some _, .assign _, _, _, _, none⟩ :: _) _; first | (refine o_y (v_assign (v := .sc _) rfl) rfl ?_)) | (show AOps _ _ _ _ (⟨some _, .binOp _ _ _ _ _, _, _, _, none⟩ :: _) _; first | (refine o_y (y_bin rfl rfl rfl) rfl ?_)) | (show AOps _ _ _ _ (⟨some _, .pick _ _ _, _, _, _, none⟩ :: _) _; first | (refine o_y (v_pick_f (v := .sc _) rfl (by first | rfl | assumption) rfl) rfl ?_)) | (show AOps _ _ _ _ (⟨some _, .unOp _ _ _, _, _, _, none⟩ :: _) _; first | (refine o_y (y_not rfl) rfl ?_)) | (show AOps _ _ _ _ (⟨some _, .extract _ _, _, _, _, none⟩ :: _) _; first | (refine o_y (y_extract (v := .sc _) rfl rfl) rfl ?_) | (refine o_y (y_extract (v := .agg _) rfl rfl) rfl ?_)) | (show AOps _ _ _ _ (⟨some _, .call ⟨.value (.func 15), _, _⟩, _, _, _, none⟩ :: _) _; refine o_gg (g_call (sg) rfl) rfl ?_) | (show AOps _ _ _ _ (⟨some _, .call ⟨.value (.func 29), _, _⟩, _, _, _, none⟩ :: _) _; first | (refine o_q (q_call (sf)) rfl ?_)) | (show AOps _ _ _ _ (⟨_, .store _ _ _, _, _, _, none⟩ :: _) _; first | (refine o_x (s_storeW rfl rfl rfl rfl rfl (by first | rfl | assumption) ?_))) | (show AOps _ _ _ _ (⟨_, .alloc _, _, _, _, none⟩ :: _) _; first | (refine o_x (a_new (by first | (simp only [AV.ofV, AV.cells, List.map_cons, List.map_nil]; rfl) | rfl) rfl rfl rfl ?_))) | (show AOps _ _ _ _ (⟨_, _, _, _, _, some (_, _)⟩ :: _) _; first | (refine o_g_t rfl rfl rfl (by first | rfl | assumption | exact beq_self_eq_true _ | exact decide_eq_true rfl) ?_))) | (show IW _ _ _ _ _; first | (refine awp_seq ?_) | (refine awp_region ?_) | (refine awp_ret ?_)))
    all_goals first | (exfalso; simp at *; done) | exact ret1 [] (by decide) rfl (congrArg (fun b => AV.sc (.bool b)) (by first | rfl | simp))
end Go.Proofs.Ytcidoghpacihpaa.Sx
