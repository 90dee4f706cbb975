/- Texts joined, by strings.Builder. Texts joined. -/
import Derived.Test.YtkdckdfbilmnhaaE
namespace Go.Proofs.Ytkdckdfbilmnhaa.Sx
open Go Go.RowKit
attribute [local irreducible] IW AOps AQuiet GQ GY AExec QY Yld ACalls ACallsD
instance ext54 : Extn Try.prog 54 Extern.AbiNoEscape.same := extn_of Try.func54 (by kernel_rfl) (by kernel_rfl) (by kernel_rfl) (by kernel_rfl)
instance ext55 : Extn Try.prog 55 (Extern.BytealgMakeNoZero.makeNoZero #[3] #[65]) := extn_of Try.func55 (by kernel_rfl) (by kernel_rfl) (by kernel_rfl) (by kernel_rfl)
theorem copy0 : ACalls Try.prog 46 [.ptr 0 0] ⟨1, [(0, some ⟨[.sc (.pointer none), .sc (.slice none 0 0)], 2, 67⟩)]⟩ (fun r S => r = .tup [] ∧ S = ⟨1, [(0, some ⟨[.ptr 0 0, .sc (.slice none 0 0)], 2, 67⟩)]⟩) := by
  refine enter1 Try.func46 rfl 20 1 [] rfl rfl rfl ?_
  repeat' (first | (refine aops_nil ?_) | (show AOps _ _ _ _ _ _; first | (show AOps _ _ _ _ (⟨some _, .convert _ _ _, _, _, _, none⟩ :: _) _; first | (refine o_y (y_toUns rfl rfl rfl rfl) rfl ?_)) | (show AOps _ _ _ _ (⟨some _, .convert _ _ _, _, _, _, none⟩ :: _) _; first | (refine o_y (y_ofUns rfl rfl rfl rfl (by kernel_rfl)) rfl ?_)) | (show AOps _ _ _ _ (⟨some _, .call ⟨.value (.func 54), _, _⟩, _, _, _, none⟩ :: _) _; first | (refine o_y (y_noEsc (v := .ptr _ _) rfl) rfl ?_)) | (show AOps _ _ _ _ (⟨some _, .move _, _, _, _, none⟩ :: _) _; first | (refine o_y (v_move (v := .ptr _ _) rfl) rfl ?_)) | (show AOps _ _ _ _ (⟨some _, .load _ _, _, _, _, none⟩ :: _) _; first | (refine o_y (y_load1 (v := .sc _) rfl rfl rfl) rfl ?_)) | (show AOps _ _ _ _ (⟨some _, .fieldAddr _ _ _, _, _, _, none⟩ :: _) _; first | (refine o_y (y_fld_ptr rfl rfl) rfl ?_)) | (show AOps _ _ _ _ (⟨some _, .nilCheck _, _, _, _, none⟩ :: _) _; first | (refine o_y (y_nil_ptr rfl) rfl ?_)) | (show AOps _ _ _ _ (⟨some _, .binOp _ _ _ _ _, _, _, _, none⟩ :: _) _; first | (refine o_y (y_eqNil0 rfl rfl) rfl ?_)) | (show AOps _ _ _ _ (⟨_, .store _ _ _, _, _, _, none⟩ :: _) _; first | (refine o_x (s_storeN (v := .ptr _ _) rfl rfl rfl rfl rfl (by first | (simp only [List.set_cons_zero, List.set_cons_succ]; rfl) | rfl) ?_)))) | (show IW _ _ _ _ _; first | (refine awp_seq ?_) | (refine awp_region ?_) | (refine awp_if_t rfl (by first | rfl | assumption | exact beq_self_eq_true _ | exact decide_eq_true rfl) ?_)))
  exact ret0n [0] (by decide) rfl ⟨rfl, rfl⟩
theorem copy1 (b : List Int) : ACalls Try.prog 46 [.ptr 0 0] ⟨2, [(0, some ⟨[.ptr 0 0, .sl 1 0 b.length], 2, 67⟩), (1, some ⟨byts b, 1, 5⟩)]⟩ (fun r S => r = .tup [] ∧ S = ⟨2, [(0, some ⟨[.ptr 0 0, .sl 1 0 b.length], 2, 67⟩), (1, some ⟨byts b, 1, 5⟩)]⟩) := by
  refine enter1 Try.func46 rfl 20 2 [] rfl rfl rfl ?_
  repeat' (first | (refine aops_nil ?_) | (show AOps _ _ _ _ _ _; first | (show AOps _ _ _ _ (⟨some _, .binOp .neq _ _ _ _, _, _, _, none⟩ :: _) _; first | (refine o_y (y_neSelf rfl rfl) rfl ?_)) | (show AOps _ _ _ _ (⟨some _, .move _, _, _, _, none⟩ :: _) _; first | (refine o_y (v_move (v := .ptr _ _) rfl) rfl ?_)) | (show AOps _ _ _ _ (⟨some _, .load _ _, _, _, _, none⟩ :: _) _; first | (refine o_y (y_load1 (v := .ptr _ _) rfl rfl rfl) rfl ?_)) | (show AOps _ _ _ _ (⟨some _, .fieldAddr _ _ _, _, _, _, none⟩ :: _) _; first | (refine o_y (y_fld_ptr rfl rfl) rfl ?_)) | (show AOps _ _ _ _ (⟨some _, .nilCheck _, _, _, _, none⟩ :: _) _; first | (refine o_y (y_nil_ptr rfl) rfl ?_)) | (show AOps _ _ _ _ (⟨some _, .binOp _ _ _ _ _, _, _, _, none⟩ :: _) _; first | (refine o_y (y_eqNil rfl rfl) rfl ?_))) | (show IW _ _ _ _ _; first | (refine awp_seq ?_) | (refine awp_region ?_) | (refine awp_skip ?_) | (refine awp_if_f rfl (by first | rfl | assumption) ?_)))
  exact ret0n [0, 1] (by decide) rfl ⟨rfl, hp_is ⟨rfl, rfl, rfl, (by first | rfl | exact blk_fl rfl (byts_flat _)), trivial⟩⟩
theorem grow_spec (n : Int) (hn : 0 < n ∧ n ≤ 281474976710656) : ACalls Try.prog 47 [.ptr 0 0, .sc (.int .i64 n)] ⟨1, [(0, some ⟨[.ptr 0 0, .sc (.slice none 0 0)], 2, 67⟩)]⟩ (fun r S => r = .tup [] ∧ S = ⟨2, [(0, some ⟨[.ptr 0 0, .sl 1 0 0], 2, 67⟩), (1, some ⟨[], 1, 5⟩)]⟩) := by
  refine enter2 Try.func47 rfl 30 1 [] rfl rfl rfl ?_
  refine awp_seq (awp_any ?_)
  show AAny _ _ _ _ _ _ _
  refine aany_take 0 rfl (p_move (v := .ptr 0 0) rfl) rfl (by decide +kernel) (fun _ _ h => h) ?_
  refine aany_take 1 rfl (p_nil rfl) rfl (by decide +kernel) (fun _ _ h => h) ?_
  refine aany_take 2 rfl (p_fld rfl rfl) rfl (by decide +kernel) (fun _ _ h => h) ?_
  refine aany_take 6 rfl (p_move (v := .sc (.int .i64 n)) rfl) rfl (by decide +kernel) (fun _ _ h => h) ?_
  refine aany_take 9 rfl (p_move (v := .ptr 0 0) rfl) rfl (by decide +kernel) (fun _ _ h => h) ?_
  refine aany_take 10 rfl (p_nil rfl) rfl (by decide +kernel) (fun _ _ h => h) ?_
  refine aany_take 11 rfl (p_fld rfl rfl) rfl (by decide +kernel) (fun _ _ h => h) ?_
  refine aany_all [3, 12] (by decide +kernel) rfl (aall_cons rfl (o_y (y_load1 (v := .sc (.slice none 0 0)) rfl rfl rfl) rfl (aops_nil ?_)) (aall_cons rfl (o_y (y_load1 (v := .sc (.slice none 0 0)) rfl rfl rfl) rfl (aops_nil ?_)) trivial))
  · show AAny _ _ _ _ _ _ _
    refine aany_take 4 rfl (p_cap0 (t := 65) (e := 5) rfl) rfl (by decide +kernel) (fun _ _ h => h) ?_
    refine aany_take 5 rfl (p_bin (u := .int .i64 0) rfl rfl rfl) rfl (by decide +kernel) (fun _ _ h => h) ?_
    refine aany_take 7 rfl (p_add rfl rfl (by omega) (by omega)) rfl (by decide +kernel) (fun _ _ h => h) ?_
    refine aany_all [8, 12] (by decide +kernel) rfl (aall_cons rfl (o_x (x_noZero (t := 65) (e := 5) (ps := #[3]) (m := n.toNat) rfl (by omega) (by omega) rfl (aops_nil ?_))) (aall_cons rfl (o_y (y_load1 (v := .sc (.slice none 0 0)) rfl rfl rfl) rfl (aops_nil ?_)) trivial))
    · show AAny _ _ _ _ _ _ _
      refine aany_all [12] (by decide +kernel) rfl (aall_cons rfl (o_y (y_load1 (v := .sc (.slice none 0 0)) rfl rfl rfl) rfl (aops_nil ?_)) trivial)
      show AAny _ _ _ _ _ _ _
      refine aany_take 13 rfl (p_len0 (t := 65) (e := 5) rfl) rfl (by decide +kernel) (fun _ _ h => h) ?_
      refine aany_all [14] (by decide +kernel) rfl (aall_cons rfl (o_y (y_slice_sl_h rfl rfl rfl rfl (by omega) (by omega)) rfl (aops_nil ?_)) trivial)
      show AAny _ _ _ _ _ _ _
      refine aany_all [15] (by decide +kernel) rfl (aall_cons rfl (o_y (v_assign (v := .sl _ _ _) rfl) rfl (aops_nil ?_)) trivial)
      show AAny _ _ _ _ _ _ _
      refine aany_done (by decide +kernel) ?_
      repeat' (first | (refine aops_nil ?_) | (show AOps _ _ _ _ _ _; first | (show AOps _ _ _ _ (⟨some _, .call ⟨.builtin .copy, _, _⟩, _, _, _, none⟩ :: _) _; first | (refine o_y (y_copy0 rfl rfl) rfl ?_)) | (show AOps _ _ _ _ (⟨some _, .move _, _, _, _, none⟩ :: _) _; first | (refine o_y (v_move (v := .ptr _ _) rfl) rfl ?_) | (refine o_y (v_move (v := .sl _ _ _) rfl) rfl ?_)) | (show AOps _ _ _ _ (⟨some _, .load _ _, _, _, _, none⟩ :: _) _; first | (refine o_y (y_load1 (v := .sc _) rfl rfl rfl) rfl ?_)) | (show AOps _ _ _ _ (⟨some _, .fieldAddr _ _ _, _, _, _, none⟩ :: _) _; first | (refine o_y (y_fld_ptr rfl rfl) rfl ?_)) | (show AOps _ _ _ _ (⟨some _, .nilCheck _, _, _, _, none⟩ :: _) _; first | (refine o_y (y_nil_ptr rfl) rfl ?_)) | (show AOps _ _ _ _ (⟨_, .store _ _ _, _, _, _, none⟩ :: _) _; first | (refine o_x (s_storeN (v := .sl _ _ _) rfl rfl rfl rfl rfl (by first | (simp only [List.set_cons_zero, List.set_cons_succ]; rfl) | rfl) ?_)))) | (show IW _ _ _ _ _; first | (refine awp_seq ?_) | (refine awp_region ?_)))
      exact ret0n [0, 1] (by decide) rfl ⟨rfl, rfl⟩
    · show AAny _ _ _ _ _ _ _
      refine aany_take 13 rfl (p_len0 (t := 65) (e := 5) rfl) rfl (by decide +kernel) (fun _ _ h => h) ?_
      refine aany_all [8] (by decide +kernel) rfl (aall_cons rfl (o_x (x_noZero (t := 65) (e := 5) (ps := #[3]) (m := n.toNat) rfl (by omega) (by omega) rfl (aops_nil ?_))) trivial)
      show AAny _ _ _ _ _ _ _
      refine aany_all [14] (by decide +kernel) rfl (aall_cons rfl (o_y (y_slice_sl_h rfl rfl rfl rfl (by omega) (by omega)) rfl (aops_nil ?_)) trivial)
      show AAny _ _ _ _ _ _ _
      refine aany_all [15] (by decide +kernel) rfl (aall_cons rfl (o_y (v_assign (v := .sl _ _ _) rfl) rfl (aops_nil ?_)) trivial)
      show AAny _ _ _ _ _ _ _
      refine aany_done (by decide +kernel) ?_
      repeat' (first | (refine aops_nil ?_) | (show AOps _ _ _ _ _ _; first | (show AOps _ _ _ _ (⟨some _, .call ⟨.builtin .copy, _, _⟩, _, _, _, none⟩ :: _) _; first | (refine o_y (y_copy0 rfl rfl) rfl ?_)) | (show AOps _ _ _ _ (⟨some _, .move _, _, _, _, none⟩ :: _) _; first | (refine o_y (v_move (v := .ptr _ _) rfl) rfl ?_) | (refine o_y (v_move (v := .sl _ _ _) rfl) rfl ?_)) | (show AOps _ _ _ _ (⟨some _, .load _ _, _, _, _, none⟩ :: _) _; first | (refine o_y (y_load1 (v := .sc _) rfl rfl rfl) rfl ?_)) | (show AOps _ _ _ _ (⟨some _, .fieldAddr _ _ _, _, _, _, none⟩ :: _) _; first | (refine o_y (y_fld_ptr rfl rfl) rfl ?_)) | (show AOps _ _ _ _ (⟨some _, .nilCheck _, _, _, _, none⟩ :: _) _; first | (refine o_y (y_nil_ptr rfl) rfl ?_)) | (show AOps _ _ _ _ (⟨_, .store _ _ _, _, _, _, none⟩ :: _) _; first | (refine o_x (s_storeN (v := .sl _ _ _) rfl rfl rfl rfl rfl (by first | (simp only [List.set_cons_zero, List.set_cons_succ]; rfl) | rfl) ?_)))) | (show IW _ _ _ _ _; first | (refine awp_seq ?_) | (refine awp_region ?_)))
      exact ret0n [0, 1] (by decide) rfl ⟨rfl, rfl⟩
  · show AAny _ _ _ _ _ _ _
    refine aany_take 13 rfl (p_len0 (t := 65) (e := 5) rfl) rfl (by decide +kernel) (fun _ _ h => h) ?_
    refine aany_all [3] (by decide +kernel) rfl (aall_cons rfl (o_y (y_load1 (v := .sc (.slice none 0 0)) rfl rfl rfl) rfl (aops_nil ?_)) trivial)
    show AAny _ _ _ _ _ _ _
    refine aany_take 4 rfl (p_cap0 (t := 65) (e := 5) rfl) rfl (by decide +kernel) (fun _ _ h => h) ?_
    refine aany_take 5 rfl (p_bin (u := .int .i64 0) rfl rfl rfl) rfl (by decide +kernel) (fun _ _ h => h) ?_
    refine aany_take 7 rfl (p_add rfl rfl (by omega) (by omega)) rfl (by decide +kernel) (fun _ _ h => h) ?_
    refine aany_all [8] (by decide +kernel) rfl (aall_cons rfl (o_x (x_noZero (t := 65) (e := 5) (ps := #[3]) (m := n.toNat) rfl (by omega) (by omega) rfl (aops_nil ?_))) trivial)
    show AAny _ _ _ _ _ _ _
    refine aany_all [14] (by decide +kernel) rfl (aall_cons rfl (o_y (y_slice_sl_h rfl rfl rfl rfl (by omega) (by omega)) rfl (aops_nil ?_)) trivial)
    show AAny _ _ _ _ _ _ _
    refine aany_all [15] (by decide +kernel) rfl (aall_cons rfl (o_y (v_assign (v := .sl _ _ _) rfl) rfl (aops_nil ?_)) trivial)
    show AAny _ _ _ _ _ _ _
    refine aany_done (by decide +kernel) ?_
    repeat' (first | (refine aops_nil ?_) | (show AOps _ _ _ _ _ _; first | (show AOps _ _ _ _ (⟨some _, .call ⟨.builtin .copy, _, _⟩, _, _, _, none⟩ :: _) _; first | (refine o_y (y_copy0 rfl rfl) rfl ?_)) | (show AOps _ _ _ _ (⟨some _, .move _, _, _, _, none⟩ :: _) _; first | (refine o_y (v_move (v := .ptr _ _) rfl) rfl ?_) | (refine o_y (v_move (v := .sl _ _ _) rfl) rfl ?_)) | (show AOps _ _ _ _ (⟨some _, .load _ _, _, _, _, none⟩ :: _) _; first | (refine o_y (y_load1 (v := .sc _) rfl rfl rfl) rfl ?_)) | (show AOps _ _ _ _ (⟨some _, .fieldAddr _ _ _, _, _, _, none⟩ :: _) _; first | (refine o_y (y_fld_ptr rfl rfl) rfl ?_)) | (show AOps _ _ _ _ (⟨some _, .nilCheck _, _, _, _, none⟩ :: _) _; first | (refine o_y (y_nil_ptr rfl) rfl ?_)) | (show AOps _ _ _ _ (⟨_, .store _ _ _, _, _, _, none⟩ :: _) _; first | (refine o_x (s_storeN (v := .sl _ _ _) rfl rfl rfl rfl rfl (by first | (simp only [List.set_cons_zero, List.set_cons_succ]; rfl) | rfl) ?_)))) | (show IW _ _ _ _ _; first | (refine awp_seq ?_) | (refine awp_region ?_)))
    exact ret0n [0, 1] (by decide) rfl ⟨rfl, rfl⟩
theorem growS_spec (n : Int) (hn : 0 < n ∧ n ≤ 281474976710656) : ACalls Try.prog 35 [.ptr 0 0, .sc (.int .i64 n)] ⟨1, [(0, some ⟨[.sc (.pointer none), .sc (.slice none 0 0)], 2, 67⟩)]⟩ (fun r S => r = .tup [] ∧ S = ⟨2, [(0, some ⟨[.ptr 0 0, .sl 1 0 0], 2, 67⟩), (1, some ⟨[], 1, 5⟩)]⟩) := by
  refine enter2 Try.func35 rfl 25 1 [] rfl rfl rfl ?_
  repeat' (first | (show AWP _ _ (.region 3 _ true) _ _; refine awp_draw 13 (by kernel_rfl) ?_) | (refine aops_nil ?_) | (show AOps _ _ _ _ _ _; first | (show AOps _ _ _ _ (⟨some _, .move _, _, _, _, none⟩ :: _) _; first | (refine o_y (v_move (v := .sc _) rfl) rfl ?_) | (refine o_y (v_move (v := .ptr _ _) rfl) rfl ?_)) | (show AOps _ _ _ _ (⟨some _, .binOp .sub _ _ _ _, _, _, _, none⟩ :: _) _; first | (refine o_y (y_bin rfl rfl rfl) rfl ?_)) | (show AOps _ _ _ _ (⟨some _, .binOp _ _ _ _ _, _, _, _, none⟩ :: _) _; first | (refine o_y (y_bin rfl rfl rfl) rfl ?_)) | (show AOps _ _ _ _ (⟨_, .call ⟨.value (.func 46), _, _⟩, _, _, _, none⟩ :: _) _; refine o_x (s_callH [0] (by decide) rfl rfl (copy0) rfl ⟨rfl, (by first | rfl | exact blk_fl rfl (byts_flat _) | exact blk_fl rfl (strs_flat _) | exact blk_fl rfl (nums_flat _) | exact blk_fl rfl (prs_flat _)), trivial⟩ ?_); rintro _ _ ⟨rfl, rfl⟩; refine o_norm ⟨_, [(0, some ⟨[.ptr 0 0, .sc (.slice none 0 0)], 2, 67⟩)]⟩ rfl ⟨rfl, trivial⟩ ?_) | (show AOps _ _ _ _ (⟨_, .call ⟨.value (.func 47), _, _⟩, _, _, _, none⟩ :: _) _; refine o_x (s_callH [0] (by decide) rfl rfl (grow_spec n hn) rfl ⟨rfl, (by first | rfl | exact blk_fl rfl (byts_flat _) | exact blk_fl rfl (strs_flat _) | exact blk_fl rfl (nums_flat _) | exact blk_fl rfl (prs_flat _)), trivial⟩ ?_); rintro _ _ ⟨rfl, rfl⟩; refine o_norm ⟨_, [(0, some ⟨[.ptr 0 0, .sl 1 0 0], 2, 67⟩), (1, some ⟨[], 1, 5⟩)]⟩ rfl ⟨rfl, rfl, trivial⟩ ?_)) | (refine aq_nil ?_) | (show AQuiet _ _ _ _ _ _; first | (show AQuiet _ _ _ (⟨some _, .call ⟨.builtin .cap, _, _⟩, _, _, _, none⟩ :: _) _ _; first | (refine q_y (y_cap0 rfl) rfl ?_)) | (show AQuiet _ _ _ (⟨some _, .move _, _, _, _, none⟩ :: _) _ _; first | (refine q_y (v_move (v := .sc _) rfl) rfl ?_) | (refine q_y (v_move (v := .ptr _ _) rfl) rfl ?_)) | (show AQuiet _ _ _ (⟨some _, .load _ _, _, _, _, none⟩ :: _) _ _; first | (refine q_y (y_load1 (v := .sc _) rfl rfl rfl) rfl ?_)) | (show AQuiet _ _ _ (⟨some _, .fieldAddr _ _ _, _, _, _, none⟩ :: _) _ _; first | (refine q_y (y_fld_ptr rfl rfl) rfl ?_)) | (show AQuiet _ _ _ (⟨some _, .nilCheck _, _, _, _, none⟩ :: _) _ _; first | (refine q_y (y_nil_ptr rfl) rfl ?_)) | (show AQuiet _ _ _ (⟨some _, .binOp .sub _ _ _ _, _, _, _, none⟩ :: _) _ _; first | (refine q_y (z_sub rfl rfl (by omega) (by omega)) rfl ?_) | (refine q_y (y_bin rfl rfl rfl) rfl ?_)) | (show AQuiet _ _ _ (⟨some _, .binOp _ _ _ _ _, _, _, _, none⟩ :: _) _ _; first | (refine q_y (y_bin rfl rfl rfl) rfl ?_)) | (show AQuiet _ _ _ (⟨some _, .call ⟨.builtin .len, _, _⟩, _, _, _, none⟩ :: _) _ _; first | (refine q_y (y_lenN rfl) rfl ?_))) | (show IW _ _ _ _ _; first | (refine awp_seq ?_) | (refine awp_region ?_) | (refine awp_skip ?_) | (refine awp_if rfl (fun h hp => ?_) (fun h hp => ?_))))
  all_goals first
    | (exfalso; omega)
    | exact ret0n [0, 1] (by decide) rfl ⟨rfl, rfl⟩
    | trace_state
theorem write_spec (b : List Int) (d : ByteArray) (hb : b.length ≤ 4294967296) (h : d.size ≤ 4096) : ACalls Try.prog 36 [.ptr 0 0, .sc (.string d)] ⟨2, [(0, some ⟨[.ptr 0 0, .sl 1 0 b.length], 2, 67⟩), (1, some ⟨byts b, 1, 5⟩)]⟩ (fun r S => ∃ n, n = (b ++ ints d).length ∧ S = ⟨3, [(0, some ⟨[.ptr 0 0, .sl 2 0 n], 2, 67⟩), (1, none), (2, some ⟨byts (b ++ ints d), 1, 5⟩)]⟩) := by
  refine enter2 Try.func36 rfl 19 2 [.tmp 4, .tmp 5] rfl rfl rfl ?_
  repeat' (first | (refine aops_nil ?_) | (show AOps _ _ _ _ _ _; first | (show AOps _ _ _ _ (⟨some _, .move _, _, _, _, none⟩ :: _) _; first | (refine o_y (v_move (v := .sc _) rfl) rfl ?_) | (refine o_y (v_move (v := .ptr _ _) rfl) rfl ?_)) | (show AOps _ _ _ _ (⟨some _, .load _ _, _, _, _, none⟩ :: _) _; first | (refine o_y (y_load1 (v := .sl _ _ _) rfl rfl rfl) rfl ?_)) | (show AOps _ _ _ _ (⟨some _, .fieldAddr _ _ _, _, _, _, none⟩ :: _) _; first | (refine o_y (y_fld_ptr rfl rfl) rfl ?_)) | (show AOps _ _ _ _ (⟨some _, .nilCheck _, _, _, _, none⟩ :: _) _; first | (refine o_y (y_nil_ptr rfl) rfl ?_)) | (show AOps _ _ _ _ (⟨some _, .assign _, _, _, _, none⟩ :: _) _; first | (refine o_y (v_assign (v := .sc _) rfl) rfl ?_)) | (show AOps _ _ _ _ (⟨some _, .call ⟨.builtin .len, _, _⟩, _, _, _, none⟩ :: _) _; first | (refine o_y (y_lenS rfl) rfl ?_)) | (show AOps _ _ _ _ (⟨_, .call ⟨.value (.func 46), _, _⟩, _, _, _, none⟩ :: _) _; refine o_x (s_callH [0, 1] (by decide) rfl rfl (copy1 b) rfl ⟨rfl, (by first | rfl | exact blk_fl rfl (byts_flat _) | exact blk_fl rfl (strs_flat _) | exact blk_fl rfl (nums_flat _) | exact blk_fl rfl (prs_flat _)),rfl, (by first | rfl | exact blk_fl rfl (byts_flat _) | exact blk_fl rfl (strs_flat _) | exact blk_fl rfl (nums_flat _) | exact blk_fl rfl (prs_flat _)), trivial⟩ ?_); rintro _ _ ⟨rfl, rfl⟩; refine o_norm ⟨_, [(0, some ⟨[.ptr 0 0, .sl 1 0 b.length], 2, 67⟩), (1, some ⟨byts b, 1, 5⟩)]⟩ rfl ⟨rfl, (by first | rfl | exact blk_back rfl (byts_flat _)), trivial⟩ ?_) | (show AOps _ _ _ _ (⟨_, .store _ _ _, _, _, _, none⟩ :: _) _; first | (refine o_x (s_storeN (v := .sl _ _ _) rfl rfl rfl rfl rfl (by first | (simp only [List.set_cons_zero, List.set_cons_succ]; rfl) | rfl) ?_))) | (show AOps _ _ _ _ (⟨_, .call ⟨.builtin .append, _, _⟩, _, _, _, none⟩ :: _) _; first | (refine o_x (x_append (X := .sc _) rfl rfl rfl (by first | rfl | assumption | exact prs_length _ | exact strs_len1 _ | exact byts_len1 _ | exact nums_len1 _ | (simp only [byts_length, strs_length, ints_length, prs_length, List.length_append, List.length_cons, List.length_nil]; omega)) (src_strB) rfl rfl (by omega) (by omega) (by first | exact prs_snoc _ _ _ | exact strs_snoc _ _ | exact byts_snoc _ _ | exact nums_snoc _ _ | exact strs_append _ _ | exact byts_append _ _ | exact byts_snoc [] _ | exact strs_snoc [] _ | exact byts_append [] _ | exact strs_append [] _ | exact byts_append _ [_, _] | rfl) (by first | exact Nat.zero_add _ | rfl) ?_)))) | (show IW _ _ _ _ _; first | (refine awp_seq ?_) | (refine awp_region ?_) | (refine awp_ret ?_)))
  all_goals first
    | exact ret2 [0, 1, 2] (by decide) rfl ⟨b.length + d.size, by simp [ints_length], hp_is ⟨rfl, rfl, rfl, rfl, rfl, (by first | rfl | exact blk_fl rfl (byts_flat _)), trivial⟩⟩
    | trace_state
theorem str_spec (b : List Int) (h0 : b ≠ []) (hl : b.length ≤ 4294967296) (hr : ∀ z ∈ b, 0 ≤ z ∧ z ≤ 255) : ACalls Try.prog 37 [.ptr 0 0] ⟨2, [(0, some ⟨[.ptr 0 0, .sl 1 0 b.length], 2, 67⟩), (1, some ⟨byts b, 1, 5⟩)]⟩ (fun r S => r = .sc (.string (strOf b)) ∧ S = ⟨2, [(0, some ⟨[.ptr 0 0, .sl 1 0 b.length], 2, 67⟩), (1, none)]⟩) := by
  have hp0 : 0 < b.length := List.length_pos_iff.2 h0
  refine enter1 Try.func37 rfl 14 2 [.tmp 2] rfl rfl rfl ?_
  repeat' (first | (show AWP _ _ (.region 1 _ true) _ _; refine awp_draw 10 (by kernel_rfl) ?_) | (refine aops_nil ?_) | (show AOps _ _ _ _ _ _; first | (show AOps _ _ _ _ (⟨some _, .assign _, _, _, _, none⟩ :: _) _; first | (refine o_y (v_assign (v := .sc _) rfl) rfl ?_))) | (refine aq_nil ?_) | (show AQuiet _ _ _ _ _ _; first | (show AQuiet _ _ _ (⟨some _, .call ⟨.builtin .unsafeSliceData, _, _⟩, _, _, _, none⟩ :: _) _ _; first | (refine q_y (y_sdata rfl hp0) rfl ?_)) | (show AQuiet _ _ _ (⟨some _, .move _, _, _, _, none⟩ :: _) _ _; first | (refine q_y (v_move (v := .ptr _ _) rfl) rfl ?_)) | (show AQuiet _ _ _ (⟨some _, .load _ _, _, _, _, none⟩ :: _) _ _; first | (refine q_y (y_load1 (v := .sl _ _ _) rfl rfl rfl) rfl ?_)) | (show AQuiet _ _ _ (⟨some _, .fieldAddr _ _ _, _, _, _, none⟩ :: _) _ _; first | (refine q_y (y_fld_ptr rfl rfl) rfl ?_)) | (show AQuiet _ _ _ (⟨some _, .nilCheck _, _, _, _, none⟩ :: _) _ _; first | (refine q_y (y_nil_ptr rfl) rfl ?_)) | (show AQuiet _ _ _ (⟨some _, .call ⟨.builtin .len, _, _⟩, _, _, _, none⟩ :: _) _ _; first | (refine q_y (y_lenL rfl) rfl ?_))) | (show IW _ _ _ _ _; first | (refine awp_seq ?_) | (refine awp_region ?_)))
  refine o_x (x_ustr (by kernel_rfl) rfl rfl rfl rfl h0 (by omega) hr rfl ?_)
  repeat' (first | (refine aops_nil ?_) | (show AOps _ _ _ _ _ _; first | (show AOps _ _ _ _ (⟨some _, .assign _, _, _, _, none⟩ :: _) _; first | (refine o_y (v_assign (v := .sc _) rfl) rfl ?_))) | (show IW _ _ _ _ _; first | (refine awp_ret ?_)))
  exact ret1 [0, 1] (by decide) rfl ⟨rfl, hp_is ⟨rfl, rfl, rfl, rfl, trivial⟩⟩
end Go.Proofs.Ytkdckdfbilmnhaa.Sx
namespace Go.Proofs.Ytkdckdfbilmnhaa.Sx
open Go Go.RowKit
attribute [local irreducible] IW AOps AQuiet GQ GY AExec QY Yld ACalls ACallsD
@[reducible] def SEP : ByteArray := ⟨#[44, 32]⟩
def jn : List ByteArray → ByteArray
  | [] => ⟨#[]⟩
  | x :: l => l.foldl (fun a y => a ++ SEP ++ y) x
theorem jn_cons (x : ByteArray) (l : List ByteArray) : jn (x :: l) = l.foldl (fun a y => a ++ SEP ++ y) x := rfl
theorem jn_snoc {l : List ByteArray} {i : Nat} {x : ByteArray} (h : l[i]? = some x) (hi : 0 < i) : jn (l.take (i + 1)) = jn (l.take i) ++ SEP ++ x := by
  rw [List.take_add_one, h]
  cases l with
  | nil => cases h
  | cons a r =>
    cases i with
    | zero => omega
    | succ i =>
      rw [List.take_succ_cons, List.cons_append, jn_cons, jn_cons, List.foldl_append]
      rfl
theorem jn_one (l : List ByteArray) {x : ByteArray} (h : l[0]? = some x) : jn (l.take 1) = x := by
  cases l with
  | nil => cases h
  | cons a r => simp at h; subst h; rfl
theorem jn_size (l : List ByteArray) (hl : ∀ x ∈ l, x.size ≤ 256) : (jn l).size ≤ l.length * 258 := by
  cases l with
  | nil => exact Nat.le_refl _
  | cons a r =>
    rw [jn_cons]
    have key : ∀ (r : List ByteArray) (a : ByteArray), (∀ x ∈ r, x.size ≤ 256) → (r.foldl (fun a y => a ++ SEP ++ y) a).size ≤ a.size + r.length * 258 := by
      intro r
      induction r with
      | nil => intro a _; exact Nat.le_refl _
      | cons b r ih =>
        intro a h
        have h1 := ih (a ++ SEP ++ b) (fun x hx => h x (List.mem_cons_of_mem _ hx))
        have h2 := h b List.mem_cons_self
        rw [ByteArray.size_append, ByteArray.size_append, show SEP.size = 2 from rfl] at h1
        rw [List.foldl_cons, List.length_cons]
        omega
    have h1 := key r a (fun x hx => hl x (List.mem_cons_of_mem _ hx))
    have h2 := hl a List.mem_cons_self
    rw [List.length_cons]
    omega
theorem ints_rng (s : ByteArray) : ∀ z ∈ ints s, 0 ≤ z ∧ z ≤ 255 := fun z hz => by
  unfold ints at hz
  obtain ⟨b, _, rfl⟩ := List.mem_map.1 hz
  have := b.toNat_lt
  omega
set_option maxHeartbeats 4000000 in
theorem join_spec (l : List ByteArray) (hl : l.length ≤ 2097152) (hx : ∀ x ∈ l, x.size ≤ 256) : ACalls Try.prog 18 [.vsl (strs l) 1 0 l.length, .sc (.string ⟨#[44, 32]⟩)] ⟨0, []⟩ (fun r _ => r = .sc (.string (jn l))) := by
  have z : (⟨#[44, 32]⟩ : ByteArray).size = 2 := rfl
  have hsl := strs_length l
  by_cases h0 : l.length = 0
  · refine enter2 Try.func18 rfl 75 0 [.tmp 4] rfl rfl rfl ?_
    repeat' (first | (refine aops_nil ?_) | (show AOps _ _ _ _ _ _; first | (show AOps _ _ _ _ (⟨some _, .move _, _, _, _, none⟩ :: _) _; first | (refine o_y (v_move (v := .sc _) rfl) rfl ?_) | (refine o_y (v_move (v := .vsl _ _ _ _) rfl) rfl ?_)) | (show AOps _ _ _ _ (⟨some _, .assign _, _, _, _, none⟩ :: _) _; first | (refine o_y (v_assign (v := .sc _) rfl) rfl ?_)) | (show AOps _ _ _ _ (⟨some _, .binOp .add _ _ _ _, _, _, _, none⟩ :: _) _; first | (refine o_y (z_add rfl rfl (by omega) (by omega)) rfl ?_) | (refine o_y (y_bin rfl rfl rfl) rfl ?_)) | (show AOps _ _ _ _ (⟨some _, .binOp .sub _ _ _ _, _, _, _, none⟩ :: _) _; first | (refine o_y (z_sub rfl rfl (by omega) (by omega)) rfl ?_) | (refine o_y (y_bin rfl rfl rfl) rfl ?_)) | (show AOps _ _ _ _ (⟨some _, .binOp .mul _ _ _ _, _, _, _, none⟩ :: _) _; first | (refine o_y (z_mul rfl rfl (by omega) (by omega)) rfl ?_) | (refine o_y (y_bin rfl rfl rfl) rfl ?_)) | (show AOps _ _ _ _ (⟨some _, .binOp .quo _ _ _ _, _, _, _, none⟩ :: _) _; first | (refine o_y (z_quo rfl rfl (by omega) (by omega) (by omega)) rfl ?_)) | (show AOps _ _ _ _ (⟨some _, .binOp _ _ _ _ _, _, _, _, none⟩ :: _) _; first | (refine o_y (y_bin rfl rfl rfl) rfl ?_)) | (show AOps _ _ _ _ (⟨some _, .call ⟨.builtin .len, _, _⟩, _, _, _, none⟩ :: _) _; first | (refine o_y (y_lenS rfl) rfl ?_) | (refine o_y (y_lenV rfl) rfl ?_)) | (show AOps _ _ _ _ (⟨some _, .indexAddr _ _ _, _, _, _, none⟩ :: _) _; first | (refine o_y (y_ix_vsl rfl rfl rfl (by omega) (by omega)) rfl ?_))) | (show IW _ _ _ _ _; first | (refine awp_seq ?_) | (refine awp_region ?_) | (refine awp_block ?_) | (refine awp_ret ?_) | (refine awp_skip ?_) | (refine awp_if_t rfl (by first | rfl | assumption | exact beq_self_eq_true _ | exact decide_eq_true rfl) ?_) | (refine awp_if rfl (fun h hp => ?_) (fun h hp => ?_))) | (show thenQ _ _ _ _; first | (refine k_r ?_)) | (show blockQ _ _ _ _; first | (refine b_r ?_)))
    · exact ret1 [] (by decide) rfl (congrArg (fun x => AV.sc (.string x)) (by rw [List.eq_nil_of_length_eq_zero h0]; rfl))
    all_goals (exfalso; omega)
  obtain ⟨x, hx0⟩ : ∃ x, l[0]? = some x := ⟨_, List.getElem?_eq_getElem (by omega)⟩
  have hxs := hx x (List.mem_of_getElem? hx0)
  have v0 : (strs l)[(0 + Int.toNat 0) * 1]? = some (.sc (.string x)) := by simp [strs, hx0]
  have hq : 2 ≤ l.length → 4096 < (9223372036854775807 : Int) / ((l.length : Int) - 1) := fun h2 => by
    have : (4097 : Int) ≤ 9223372036854775807 / ((l.length : Int) - 1) := (Int.le_ediv_iff_mul_le (by omega)).2 (by omega)
    omega
  refine enter2 Try.func18 rfl 75 0 [.tmp 4] rfl rfl rfl ?_
  repeat' (first | (refine aops_nil ?_) | (show AOps _ _ _ _ _ _; first | (show AOps _ _ _ _ (⟨some _, .move _, _, _, _, none⟩ :: _) _; first | (refine o_y (v_move (v := .sc _) rfl) rfl ?_) | (refine o_y (v_move (v := .vsl _ _ _ _) rfl) rfl ?_)) | (show AOps _ _ _ _ (⟨some _, .load _ _, _, _, _, none⟩ :: _) _; first | (refine o_y (y_vload rfl (by assumption)) rfl ?_)) | (show AOps _ _ _ _ (⟨some _, .assign _, _, _, _, none⟩ :: _) _; first | (refine o_y (v_assign (v := .sc _) rfl) rfl ?_)) | (show AOps _ _ _ _ (⟨some _, .binOp .add _ _ _ _, _, _, _, none⟩ :: _) _; first | (refine o_y (y_bin rfl rfl rfl) rfl ?_)) | (show AOps _ _ _ _ (⟨some _, .binOp .sub _ _ _ _, _, _, _, none⟩ :: _) _; first | (refine o_y (z_sub rfl rfl (by omega) (by omega)) rfl ?_) | (refine o_y (y_bin rfl rfl rfl) rfl ?_)) | (show AOps _ _ _ _ (⟨some _, .binOp .mul _ _ _ _, _, _, _, none⟩ :: _) _; first | (refine o_y (y_bin rfl rfl rfl) rfl ?_)) | (show AOps _ _ _ _ (⟨some _, .binOp .quo _ _ _ _, _, _, _, none⟩ :: _) _; first | (refine o_y (z_quo rfl rfl (by omega) (by omega) (by omega)) rfl ?_)) | (show AOps _ _ _ _ (⟨some _, .binOp _ _ _ _ _, _, _, _, none⟩ :: _) _; first | (refine o_y (y_bin rfl rfl rfl) rfl ?_)) | (show AOps _ _ _ _ (⟨some _, .call ⟨.builtin .len, _, _⟩, _, _, _, none⟩ :: _) _; first | (refine o_y (y_lenS rfl) rfl ?_) | (refine o_y (y_lenV rfl) rfl ?_)) | (show AOps _ _ _ _ (⟨some _, .indexAddr _ _ _, _, _, _, none⟩ :: _) _; first | (refine o_y (y_ix_vsl rfl rfl rfl (by omega) (by omega)) rfl ?_))) | (show IW _ _ [.code (.seq _ _)] _ _; first | (show AWP _ _ (.seq (.region _ _ _) _) _ _; refine awp_seq ?_) | (show AWP _ _ (.seq (.seq _ _) _) _ _; refine awp_seq ?_)) | (show IW _ _ _ _ _; first | (refine awp_region ?_) | (refine awp_block ?_) | (refine awp_ret ?_) | (refine awp_skip ?_) | (refine awp_if_t rfl (by first | rfl | assumption | exact beq_self_eq_true _ | exact decide_eq_true rfl) ?_) | (refine awp_if rfl (fun h hp => ?_) (fun h hp => ?_))) | (show thenQ _ _ _ _; first | (refine k_r ?_)) | (show blockQ _ _ _ _; first | (refine b_r ?_)))
  · exfalso; omega
  · exact ret1 [] (by decide) rfl (congrArg (fun x => AV.sc (.string x)) (by rw [← jn_one l hx0, List.take_of_length_le (by omega)]))
  · have := hq (by omega); exfalso; omega
  have h2 : 2 ≤ l.length := by omega
  have hw : IntKind.i64.wrap (0 + IntKind.i64.wrap (((⟨#[44, 32]⟩ : ByteArray).size : Int) * ((l.length : Int) - 1))) = ((2 * (l.length - 1) : Nat) : Int) := by
    rw [z, wrap_i64 (x := ((2 : Nat) : Int) * ((l.length : Int) - 1)) (by omega) (by omega), wrap_i64 (by omega) (by omega)]
    omega
  refine awp_loopI (fun x : Nat × Nat => x.1 ≤ l.length ∧ 2 * (l.length - 1) ≤ x.2 ∧ x.2 ≤ 4194304 + 256 * x.1) (fun x => l.length - x.1) (fun x => [(0, .vsl (strs l) 1 0 l.length), (1, .sc (.string ⟨#[44, 32]⟩)), (5, .sc (.int .i64 x.2)), (39, .vsl (strs l) 1 0 l.length), (40, .sc (.int .i64 l.length)), (41, .sc (.int .i64 x.1))]) 0 (fun _ => []) (0, 2 * (l.length - 1)) [] (by decide) rfl rfl rfl ⟨Nat.zero_le _, Nat.le_refl _, by dsimp only; omega⟩ ⟨rfl, rfl, congrArg (fun x => AV.sc (.int .i64 x)) hw, rfl, rfl, rfl, trivial⟩ trivial ?_
  rintro ⟨i, m⟩ ⟨h3, h4, h5⟩ ih
  dsimp only at h3 h4 h5 ih ⊢
  by_cases hi : i < l.length
  · obtain ⟨y, hy⟩ : ∃ y, l[i]? = some y := ⟨_, List.getElem?_eq_getElem hi⟩
    have hys := hx y (List.mem_of_getElem? hy)
    have vi : (strs l)[(0 + Int.toNat i) * 1]? = some (.sc (.string y)) := by simp [strs, hy]
    repeat' (first | (refine aops_nil ?_) | (show AOps _ _ _ _ _ _; first | (show AOps _ _ _ _ (⟨some _, .move _, _, _, _, none⟩ :: _) _; first | (refine o_y (v_move (v := .sc _) rfl) rfl ?_)) | (show AOps _ _ _ _ (⟨some _, .load _ _, _, _, _, none⟩ :: _) _; first | (refine o_y (y_vload rfl (by assumption)) rfl ?_)) | (show AOps _ _ _ _ (⟨some _, .assign _, _, _, _, none⟩ :: _) _; first | (refine o_y (v_assign (v := .sc _) rfl) rfl ?_)) | (show AOps _ _ _ _ (⟨some _, .binOp .add _ _ _ _, _, _, _, none⟩ :: _) _; first | (refine o_y (z_add rfl rfl (by omega) (by omega)) rfl ?_) | (refine o_y (y_bin rfl rfl rfl) rfl ?_)) | (show AOps _ _ _ _ (⟨some _, .binOp .sub _ _ _ _, _, _, _, none⟩ :: _) _; first | (refine o_y (z_sub rfl rfl (by omega) (by omega)) rfl ?_) | (refine o_y (y_bin rfl rfl rfl) rfl ?_)) | (show AOps _ _ _ _ (⟨some _, .binOp .mul _ _ _ _, _, _, _, none⟩ :: _) _; first | (refine o_y (y_bin rfl rfl rfl) rfl ?_)) | (show AOps _ _ _ _ (⟨some _, .binOp _ _ _ _ _, _, _, _, none⟩ :: _) _; first | (refine o_y (y_bin rfl rfl rfl) rfl ?_)) | (show AOps _ _ _ _ (⟨some _, .call ⟨.builtin .len, _, _⟩, _, _, _, none⟩ :: _) _; first | (refine o_y (y_lenS rfl) rfl ?_)) | (show AOps _ _ _ _ (⟨some _, .indexAddr _ _ _, _, _, _, none⟩ :: _) _; first | (refine o_y (y_ix_vsl rfl rfl rfl (by omega) (by omega)) rfl ?_)) | (show AOps _ _ _ _ (⟨_, .alloc _, _, _, _, none⟩ :: _) _; first | (refine o_x (a_new (by first | (simp only [AV.ofV, AV.cells, List.map_cons, List.map_nil]; rfl) | rfl) rfl rfl rfl ?_)))) | (show IW _ _ [.code (.seq _ _)] _ _; first | (show AWP _ _ (.seq (.region _ _ _) _) _ _; refine awp_seq ?_) | (show AWP _ _ (.seq (.cond _ _ _) _) _ _; refine awp_seq ?_) | (show AWP _ _ (.seq (.block _ _) _) _ _; refine awp_seq ?_) | (show AWP _ _ (.seq (.seq _ _) _) _ _; refine awp_seq ?_)) | (show IW _ _ _ _ _; first | (refine awp_region ?_) | (refine awp_block ?_) | (refine awp_exit ?_) | (refine awp_skip ?_) | (refine awp_if rfl (fun h hp => ?_) (fun h hp => ?_))) | (show thenQ _ _ _ _; first | (refine k_n ?_)))
    · exfalso; omega
    · exact iw_at [] (ih (i + 1, m + y.size) ⟨hi, by dsimp only; omega, by dsimp only; omega⟩ (by omega)) (by decide) rfl rfl rfl ⟨rfl, rfl, rfl, rfl, rfl, rfl, trivial⟩ trivial
    · exfalso; omega
  · obtain rfl : i = l.length := by omega
    clear ih
    repeat' (first | (refine aops_nil ?_) | (show AOps _ _ _ _ _ _; first | (show AOps _ _ _ _ (⟨some _, .slice _ _ _ _ _, _, _, _, none⟩ :: _) _; first | (refine o_y (y_slice_vsl_l rfl rfl (by omega) (by omega)) rfl ?_)) | (show AOps _ _ _ _ (⟨some _, .move _, _, _, _, none⟩ :: _) _; first | (refine o_y (v_move (v := .sc _) rfl) rfl ?_) | (refine o_y (v_move (v := .vsl _ _ _ _) rfl) rfl ?_)) | (show AOps _ _ _ _ (⟨some _, .load _ _, _, _, _, none⟩ :: _) _; first | (refine o_y (y_vload rfl (by assumption)) rfl ?_)) | (show AOps _ _ _ _ (⟨some _, .binOp .add _ _ _ _, _, _, _, none⟩ :: _) _; first | (refine o_y (y_bin rfl rfl rfl) rfl ?_)) | (show AOps _ _ _ _ (⟨some _, .binOp .sub _ _ _ _, _, _, _, none⟩ :: _) _; first | (refine o_y (y_bin rfl rfl rfl) rfl ?_)) | (show AOps _ _ _ _ (⟨some _, .binOp .mul _ _ _ _, _, _, _, none⟩ :: _) _; first | (refine o_y (y_bin rfl rfl rfl) rfl ?_)) | (show AOps _ _ _ _ (⟨some _, .binOp _ _ _ _ _, _, _, _, none⟩ :: _) _; first | (refine o_y (y_bin rfl rfl rfl) rfl ?_)) | (show AOps _ _ _ _ (⟨some _, .call ⟨.builtin .len, _, _⟩, _, _, _, none⟩ :: _) _; first | (refine o_y (y_lenV rfl) rfl ?_)) | (show AOps _ _ _ _ (⟨some _, .indexAddr _ _ _, _, _, _, none⟩ :: _) _; first | (refine o_y (y_ix_vsl rfl rfl rfl (by omega) (by omega)) rfl ?_)) | (show AOps _ _ _ _ (⟨_, .call ⟨.value (.func 35), _, _⟩, _, _, _, none⟩ :: _) _; refine o_x (s_callH [0] (by decide) rfl rfl (growS_spec _ (by omega)) rfl ⟨rfl, (by first | rfl | exact blk_fl rfl (byts_flat _) | exact blk_fl rfl (strs_flat _) | exact blk_fl rfl (nums_flat _) | exact blk_fl rfl (prs_flat _)), trivial⟩ ?_); rintro _ _ ⟨rfl, rfl⟩; refine o_norm ⟨_, [(0, some ⟨[.ptr 0 0, .sl 1 0 ([] : List Int).length], 2, 67⟩), (1, some ⟨byts [], 1, 5⟩)]⟩ rfl ⟨rfl, (by first | rfl | exact blk_back rfl (byts_flat _)), trivial⟩ ?_) | (show AOps _ _ _ _ (⟨_, .call ⟨.value (.func 36), _, _⟩, _, _, _, none⟩ :: _) _; refine o_x (s_callH [0, 1] (by decide) rfl rfl (write_spec [] x (Nat.zero_le _) (by omega)) rfl ⟨rfl, (by first | rfl | exact blk_fl rfl (byts_flat _) | exact blk_fl rfl (strs_flat _) | exact blk_fl rfl (nums_flat _) | exact blk_fl rfl (prs_flat _)),rfl, (by first | rfl | exact blk_fl rfl (byts_flat _) | exact blk_fl rfl (strs_flat _) | exact blk_fl rfl (nums_flat _) | exact blk_fl rfl (prs_flat _)), trivial⟩ ?_); rintro _ _ ⟨n1, rfl, rfl⟩; refine o_norm ⟨_, [(0, some ⟨[.ptr 0 0, .sl 2 0 ([] ++ ints x).length], 2, 67⟩), (2, some ⟨byts ([] ++ ints x), 1, 5⟩)]⟩ rfl ⟨rfl, (by first | rfl | exact blk_back rfl (byts_flat _)), trivial⟩ ?_) | (show AOps _ _ _ _ (⟨_, .alloc _, _, _, _, none⟩ :: _) _; first | (refine o_x (a_new (by first | (simp only [AV.ofV, AV.cells, List.map_cons, List.map_nil]; rfl) | rfl) rfl rfl rfl ?_)))) | (show IW _ _ [.code (.seq _ _)] _ _; first | (show AWP _ _ (.seq (.region _ _ _) _) _ _; refine awp_seq ?_) | (show AWP _ _ (.seq (.cond _ _ _) _) _ _; refine awp_seq ?_) | (show AWP _ _ (.seq (.block _ _) _) _ _; refine awp_seq ?_) | (show AWP _ _ (.seq (.seq _ _) _) _ _; refine awp_seq ?_)) | (show IW _ _ _ _ _; first | (refine awp_region ?_) | (refine awp_block ?_) | (refine awp_exit ?_) | (refine awp_skip ?_) | (refine awp_if rfl (fun h hp => ?_) (fun h hp => ?_))))
    · exfalso; omega
    refine awp_loopI (fun k : Nat => k + 1 ≤ l.length) (fun k => l.length - k) (fun k => [(1, .sc (.string ⟨#[44, 32]⟩)), (8, .ptr 0 0), (63, .vsl (strs l) 1 1 (l.length - 1)), (64, .sc (.int .i64 ((l.length - 1 : Nat) : Int))), (65, .sc (.int .i64 k))]) 2 (fun k => [(0, some ⟨[.ptr 0 0, .sl 1 0 (ints (jn (l.take (k + 1)))).length], 2, 67⟩), (1, some ⟨byts (ints (jn (l.take (k + 1)))), 1, 5⟩)]) 0 [0, 2] (by decide) rfl rfl rfl (by omega) ⟨rfl, rfl, rfl, rfl, rfl, trivial⟩ ⟨rfl, ?_, rfl, ?_, trivial⟩ ?_
    · rw [jn_one l hx0]; rfl
    · rw [jn_one l hx0]; exact blk_fl rfl (byts_flat _)
    intro k hk ih
    have hjs := jn_size (l.take (k + 1)) (fun y hy => hx y (List.mem_of_mem_take hy))
    have hjl : (l.take (k + 1)).length = k + 1 := by rw [List.length_take]; omega
    have hil := ints_length (jn (l.take (k + 1)))
    rw [hjl] at hjs
    by_cases hkl : k + 1 < l.length
    · obtain ⟨y, hy⟩ : ∃ y, l[k + 1]? = some y := ⟨_, List.getElem?_eq_getElem hkl⟩
      have hys := hx y (List.mem_of_getElem? hy)
      have vi : (strs l)[(1 + Int.toNat k) * 1]? = some (.sc (.string y)) := by
        rw [Nat.mul_one, Int.toNat_natCast, Nat.add_comm]; simp [strs, hy]
      have hn := jn_snoc hy (by omega)
      have he : ints (jn (l.take (k + 1 + 1))) = ints (jn (l.take (k + 1))) ++ ints ⟨#[44, 32]⟩ ++ ints y := by rw [hn, ints_append, ints_append]
      have hl2 : (ints (jn (l.take (k + 1))) ++ ints ⟨#[44, 32]⟩).length ≤ 4294967296 := by rw [List.length_append, ints_length, ints_length, z]; omega
      repeat' (first | (refine aops_nil ?_) | (show AOps _ _ _ _ _ _; first | (show AOps _ _ _ _ (⟨some _, .move _, _, _, _, none⟩ :: _) _; first | (refine o_y (v_move (v := .sc _) rfl) rfl ?_)) | (show AOps _ _ _ _ (⟨some _, .load _ _, _, _, _, none⟩ :: _) _; first | (refine o_y (y_vload rfl (by assumption)) rfl ?_)) | (show AOps _ _ _ _ (⟨some _, .assign _, _, _, _, none⟩ :: _) _; first | (refine o_y (v_assign (v := .sc _) rfl) rfl ?_)) | (show AOps _ _ _ _ (⟨some _, .binOp .add _ _ _ _, _, _, _, none⟩ :: _) _; first | (refine o_y (y_bin rfl rfl rfl) rfl ?_)) | (show AOps _ _ _ _ (⟨some _, .binOp .sub _ _ _ _, _, _, _, none⟩ :: _) _; first | (refine o_y (y_bin rfl rfl rfl) rfl ?_)) | (show AOps _ _ _ _ (⟨some _, .binOp .mul _ _ _ _, _, _, _, none⟩ :: _) _; first | (refine o_y (y_bin rfl rfl rfl) rfl ?_)) | (show AOps _ _ _ _ (⟨some _, .binOp _ _ _ _ _, _, _, _, none⟩ :: _) _; first | (refine o_y (y_bin rfl rfl rfl) rfl ?_)) | (show AOps _ _ _ _ (⟨some _, .indexAddr _ _ _, _, _, _, none⟩ :: _) _; first | (refine o_y (y_ix_vsl rfl rfl rfl (by omega) (by omega)) rfl ?_)) | (show AOps _ _ _ _ (⟨_, .call ⟨.value (.func 36), _, _⟩, _, _, _, none⟩ :: _) _; refine o_x (s_callH [0, 1] (by decide) rfl rfl (write_spec (ints (jn (l.take (k + 1)))) ⟨#[44, 32]⟩ (by omega) (by decide)) rfl ⟨rfl, (by first | rfl | exact blk_fl rfl (byts_flat _) | exact blk_fl rfl (strs_flat _) | exact blk_fl rfl (nums_flat _) | exact blk_fl rfl (prs_flat _)),rfl, (by first | rfl | exact blk_fl rfl (byts_flat _) | exact blk_fl rfl (strs_flat _) | exact blk_fl rfl (nums_flat _) | exact blk_fl rfl (prs_flat _)), trivial⟩ ?_); rintro _ _ ⟨n1, rfl, rfl⟩; refine o_norm ⟨_, [(0, some ⟨[.ptr 0 0, .sl 2 0 (ints (jn (l.take (k + 1))) ++ ints ⟨#[44, 32]⟩).length], 2, 67⟩), (2, some ⟨byts (ints (jn (l.take (k + 1))) ++ ints ⟨#[44, 32]⟩), 1, 5⟩)]⟩ rfl ⟨rfl, (by first | rfl | exact blk_back rfl (byts_flat _)), trivial⟩ ?_)) | (show IW _ _ [.code (.seq _ _)] _ _; first | (show AWP _ _ (.seq (.cond _ _ _) _) _ _; refine awp_seq ?_) | (show AWP _ _ (.seq (.block _ _) _) _ _; refine awp_seq ?_) | (show AWP _ _ (.seq (.region 22 _ _) _) _ _; refine awp_seq ?_) | (show AWP _ _ (.seq (.region 23 _ _) _) _ _; refine awp_seq ?_) | (show AWP _ _ (.seq (.region 24 _ _) _) _ _; refine awp_seq ?_) | (show AWP _ _ (.seq (.region 27 _ _) _) _ _; refine awp_seq ?_)) | (show IW _ _ _ _ _; first | (refine awp_region ?_) | (refine awp_block ?_) | (refine awp_exit ?_) | (refine awp_skip ?_) | (refine awp_if rfl (fun h hp => ?_) (fun h hp => ?_))))
      · repeat' (first | (refine aops_nil ?_) | (show AOps _ _ _ _ _ _; first | (show AOps _ _ _ _ (⟨some _, .move _, _, _, _, none⟩ :: _) _; first | (refine o_y (v_move (v := .sc _) rfl) rfl ?_)) | (show AOps _ _ _ _ (⟨some _, .binOp .add _ _ _ _, _, _, _, none⟩ :: _) _; first | (refine o_y (z_add rfl rfl (by omega) (by omega)) rfl ?_)) | (show AOps _ _ _ _ (⟨_, .call ⟨.value (.func 36), _, _⟩, _, _, _, none⟩ :: _) _; refine o_x (s_callH [0, 2] (by decide) rfl rfl (write_spec (ints (jn (l.take (k + 1))) ++ ints ⟨#[44, 32]⟩) y hl2 (by omega)) rfl ⟨rfl, (by first | rfl | exact blk_fl rfl (byts_flat _) | exact blk_fl rfl (strs_flat _) | exact blk_fl rfl (nums_flat _) | exact blk_fl rfl (prs_flat _)),rfl, (by first | rfl | exact blk_fl rfl (byts_flat _) | exact blk_fl rfl (strs_flat _) | exact blk_fl rfl (nums_flat _) | exact blk_fl rfl (prs_flat _)), trivial⟩ ?_); rintro _ _ ⟨n1, rfl, rfl⟩; refine o_norm ⟨_, [(0, some ⟨[.ptr 0 0, .sl 3 0 (ints (jn (l.take (k + 1))) ++ ints ⟨#[44, 32]⟩ ++ ints y).length], 2, 67⟩), (3, some ⟨byts (ints (jn (l.take (k + 1))) ++ ints ⟨#[44, 32]⟩ ++ ints y), 1, 5⟩)]⟩ rfl ⟨rfl, (by first | rfl | exact blk_back rfl (byts_flat _)), trivial⟩ ?_)) | (show IW _ _ _ _ _; first | (refine awp_region ?_)) | (show thenQ _ _ _ _; first | (refine k_n ?_)))
        exact iw_at [0, 3] (ih (k + 1) (by omega) (by omega)) (by decide) rfl rfl rfl ⟨rfl, rfl, rfl, rfl, rfl, trivial⟩ ⟨rfl, (by rw [he]; rfl), rfl, (by rw [he]; exact blk_fl rfl (byts_flat _)), trivial⟩
      · exfalso; omega
    · have hkk : k + 1 = l.length := by omega
      rw [hkk, List.take_of_length_le (Nat.le_refl _)] at hil hjs ⊢
      have hne : ints (jn l) ≠ [] := fun e => by
        have h1 := ints_length (jn l)
        rw [e] at h1
        have h2 : (jn l).size = 0 := h1.symm
        have h3 := jn_snoc (l := l) (i := k) (x := l[k]) (List.getElem?_eq_getElem (by omega)) (by omega)
        rw [hkk, List.take_of_length_le (Nat.le_refl _)] at h3
        rw [h3, ByteArray.size_append, ByteArray.size_append] at h2
        have : SEP.size = 2 := rfl
        omega
      repeat' (first | (refine aops_nil ?_) | (show AOps _ _ _ _ _ _; first | (show AOps _ _ _ _ (⟨some _, .assign _, _, _, _, none⟩ :: _) _; first | (refine o_y (v_assign (v := .sc _) rfl) rfl ?_)) | (show AOps _ _ _ _ (⟨some _, .binOp .add _ _ _ _, _, _, _, none⟩ :: _) _; first | (refine o_y (y_bin rfl rfl rfl) rfl ?_)) | (show AOps _ _ _ _ (⟨some _, .binOp .sub _ _ _ _, _, _, _, none⟩ :: _) _; first | (refine o_y (y_bin rfl rfl rfl) rfl ?_)) | (show AOps _ _ _ _ (⟨some _, .binOp .mul _ _ _ _, _, _, _, none⟩ :: _) _; first | (refine o_y (y_bin rfl rfl rfl) rfl ?_)) | (show AOps _ _ _ _ (⟨some _, .binOp _ _ _ _ _, _, _, _, none⟩ :: _) _; first | (refine o_y (y_bin rfl rfl rfl) rfl ?_)) | (show AOps _ _ _ _ (⟨some _, .indexAddr _ _ _, _, _, _, none⟩ :: _) _; first | (refine o_y (y_ix_vsl rfl rfl rfl (by omega) (by omega)) rfl ?_)) | (show AOps _ _ _ _ (⟨_, .call ⟨.value (.func 37), _, _⟩, _, _, _, none⟩ :: _) _; refine o_x (s_callH [0, 1] (by decide) rfl rfl (str_spec (ints (jn l)) hne (by omega) (ints_rng _)) rfl ⟨rfl, (by first | rfl | exact blk_fl rfl (byts_flat _) | exact blk_fl rfl (strs_flat _) | exact blk_fl rfl (nums_flat _) | exact blk_fl rfl (prs_flat _)),rfl, (by first | rfl | exact blk_fl rfl (byts_flat _) | exact blk_fl rfl (strs_flat _) | exact blk_fl rfl (nums_flat _) | exact blk_fl rfl (prs_flat _)), trivial⟩ ?_); rintro _ _ ⟨rfl, rfl⟩; refine o_norm ⟨_, [(0, some ⟨[.ptr 0 0, .sl 1 0 (ints (jn l)).length], 2, 67⟩)]⟩ rfl ⟨rfl, trivial⟩ ?_)) | (show IW _ _ _ _ _; first | (refine awp_seq ?_) | (refine awp_region ?_) | (refine awp_block ?_) | (refine awp_exit ?_) | (refine awp_ret ?_) | (refine awp_skip ?_) | (refine awp_if rfl (fun h hp => ?_) (fun h hp => ?_))))
      · exfalso; omega
      · exact ret1 [] (by decide) rfl (congrArg (fun x => AV.sc (.string x)) (strOf_ints _))
end Go.Proofs.Ytkdckdfbilmnhaa.Sx
