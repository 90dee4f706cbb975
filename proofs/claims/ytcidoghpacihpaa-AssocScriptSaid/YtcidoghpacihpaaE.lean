/- An association is added to a table. Associations are dropped, and those that they are the parents of. Associations are dropped: the program's. Associations are dropped by their number, or where they were not heard; heard; counted. -/
import Derived.Test.YtcidoghpacihpaaA
namespace Go.Proofs.Ytcidoghpacihpaa.Sx
open Go Go.RowKit
attribute [local irreducible] IW AOps AQuiet GQ GY AExec QY Yld ACalls ACallsD
def addE (T : Tb) (a : As) (par : Int) : Int := if par ≠ 0 ∧ get T par = none then 121 else if taken T a then 53 else if free T < 0 then 120 else 0
def addN (T : Tb) (a : As) (par now : Int) : Ro := ⟨free T + 1, a, par, if par ≠ 0 ∨ a.kind = 7 ∨ a.kind = 8 then later now else 0, 0⟩
def addT (T : Tb) (a : As) (par now : Int) : Tb := if addE T a par = 0 then upd1 T (free T).toNat (some (addN T a par now)) else T
def addI (T : Tb) (a : As) (par : Int) : Int := if addE T a par = 0 then free T + 1 else 0
def AddR (t : Nat) (T : Tb) (P : Nat → Nat) (S : Hp) (a : As) (par now : Int) (r : AV) (S' : Hp) : Prop :=
  r = .tup [.sc (.int .i64 (addI T a par)), .sc (.int .i64 (addE T a par))] ∧ Fr S S' (fun i => i = t) ∧ ∃ P', TH t (addT T a par now) P' S' ∧ ∀ j, P' j = P j ∨ S.nxt ≤ P' j
theorem addR_no {t : Nat} {T : Tb} {P : Nat → Nat} {S S' : Hp} {a : As} {par now c : Int} (h : TH t T P S) (he : addE T a par = c) (hc : c ≠ 0) (hf : Fr S S' fun _ => False) : AddR t T P S a par now (.tup [.sc (.int .i64 0), .sc (.int .i64 c)]) S' := by
  have hf' : Fr S S' fun i => i = t := ⟨hf.1, fun i hi _ => hf.2 i hi (by simp)⟩
  have hT : addT T a par now = T := by unfold addT; rw [he, if_neg hc]
  refine ⟨by unfold addI; rw [he, if_neg hc], hf', P, ?_, fun j => .inl rfl⟩
  rw [hT]
  exact h.keep hf (by simp) (fun _ _ _ _ => by simp)
theorem free_rng (T : Tb) : -1 ≤ free T ∧ free T ≤ 15 := by
  unfold free
  rcases fst_cases (isNone T) 16 with ⟨h, _⟩ | ⟨i, h, hi, _⟩ <;> omega
attribute [local irreducible] tvs tcs
set_option maxHeartbeats 8000000 in
theorem add_spec {t : Nat} {T : Tb} {P : Nat → Nat} {S : Hp} (hT0 : TH t T P S) (a : As) (par now : Int) (hn : -9223372036854775808 ≤ now) : ACalls Try.prog 12 [.ptr t 0, .agg a.cs, .sc (.int .i64 par), .sc (.int .i64 now)] S (AddR t T P S a par now) := by
  obtain ⟨n, bs⟩ := S
  have htb := hT0.tb
  have hlt := hT0.lt
  dsimp only at htb hlt
  refine enterA4 Try.func12 rfl 69 [.tmp 8, .tmp 9] rfl rfl ?_
  repeat' (first | (refine aops_nil ?_) | (show AOps _ _ _ _ _ _; first | (show AOps _ _ _ _ (⟨some _, .assign _, _, _, _, none⟩ :: _) _; first | (refine o_y (v_assign (v := .sc _) rfl) rfl ?_)) | (show AOps _ _ _ _ (⟨_, .box _ _, _, _, _, none⟩ :: _) _; first | (refine o_x (b_agg rfl rfl rfl ?_)))) | (show IW _ _ [.code (.seq _ _)] _ _; first | (show AWP _ _ (.seq (.region 0 _ _) _) _ _; refine awp_seq ?_)) | (show IW _ _ _ _ _; first | (refine awp_region ?_)) | (show thenQ _ _ _ _; first | (refine k_n ?_)))
  refine iw_frzP 5 n rfl (find_at _ _ _) rfl ?_
  have h1 : TH t T P ⟨n + 1, (n, none) :: (n, some ⟨a.cs, a.cs.length, 40⟩) :: bs⟩ := hT0.keep (x := fun _ => False) (((Fr.refl _ _).push (k := n) (m := n + 1) (.inr (Nat.le_refl _)) (by simp)).push (k := n) (.inr (Nat.le_refl _)) (Nat.le_refl _)) (by simp) (fun _ _ _ _ => by simp)
  have hf1 : Fr ⟨n, bs⟩ ⟨n + 1, (n, none) :: (n, some ⟨a.cs, a.cs.length, 40⟩) :: bs⟩ fun _ => False := ((Fr.refl _ _).push (k := n) (m := n + 1) (.inr (Nat.le_refl _)) (by simp)).push (k := n) (.inr (Nat.le_refl _)) (Nat.le_refl _)
  generalize (n, none) :: (n, some (Blk.mk a.cs a.cs.length 40)) :: bs = bs1 at h1 hf1
  have htb1 := h1.tb
  dsimp only at htb1
  have hfr := free_rng T
  have st : ACalls Try.prog 22 [.ptr t 0, .agg a.cs] ⟨n + 1, bs1⟩ (fun r S' => r = .sc (.bool (taken T a)) ∧ S' = ⟨n + 1, bs1⟩) := acalls_frz (taken_spec T a) rfl ⟨frzT h1, frzS_of ⟨rfl, rfl⟩, trivial⟩
  have sg := getA_spec h1 par
  by_cases hbad : par ≠ 0 ∧ get T par = none
  · have he : addE T a par = 121 := by unfold addE; rw [if_pos hbad]
    rw [gA, hbad.2] at sg
    repeat' (first | (show AOps _ _ _ _ _ _; first | (show AOps _ _ _ _ (⟨some _, .move _, _, _, _, none⟩ :: _) _; first | (refine o_y (v_move (v := .ptr _ _) rfl) rfl ?_)) | (show AOps _ _ _ _ (⟨some _, .fieldAddr _ _ _, _, _, _, none⟩ :: _) _; first | (refine o_y (y_fld_ptr rfl rfl) rfl ?_)) | (show AOps _ _ _ _ (⟨some _, .nilCheck _, _, _, _, none⟩ :: _) _; first | (refine o_y (y_nil_ptr rfl) rfl ?_))) | (show IW _ _ _ _ _; first | (refine awp_seq ?_) | (refine awp_region ?_)))
    refine o_sliceCall (cs := tvs T) rfl (frzT h1) (tvs_length T) rfl (fun _ => rfl) (index_spec T) rfl rfl ?_
    repeat' (first | (refine aops_nil ?_) | (show AOps _ _ _ _ _ _; first | (show AOps _ _ _ _ (⟨some _, .move _, _, _, _, none⟩ :: _) _; first | (refine o_y (v_move (v := .sc _) rfl) rfl ?_) | (refine o_y (v_move (v := .ptr _ _) rfl) rfl ?_)) | (show AOps _ _ _ _ (⟨some _, .assign _, _, _, _, none⟩ :: _) _; first | (refine o_y (v_assign (v := .sc _) rfl) rfl ?_)) | (show AOps _ _ _ _ (⟨some _, .binOp _ _ _ _ _, _, _, _, none⟩ :: _) _; first | (refine o_y (y_bin rfl rfl rfl) rfl ?_) | (refine o_y (y_eqNil0 rfl rfl) rfl ?_)) | (show AOps _ _ _ _ (⟨some _, .pick _ _ _, _, _, _, none⟩ :: _) _; first | (refine o_y (v_pick_t (v := .sc _) rfl (by first | rfl | assumption | exact beq_self_eq_true _ | exact decide_eq_true rfl) rfl) rfl ?_) | (refine o_y (v_pick_f (v := .sc _) rfl (by first | rfl | assumption) rfl) rfl ?_)) | (show AOps _ _ _ _ (⟨_, .call ⟨.value (.func 24), _, _⟩, _, _, _, none⟩ :: _) _; refine o_x (x_callA rfl (sg) ?_); rintro _ _ ⟨rfl, rfl⟩) | (show AOps _ _ _ _ (⟨_, _, _, _, _, some (_, _)⟩ :: _) _; first | (refine o_g_t rfl rfl rfl (by first | rfl | assumption | exact beq_self_eq_true _ | exact decide_eq_true rfl) ?_) | (refine o_g_f rfl rfl rfl (by first | rfl | assumption) ?_) | (refine o_if rfl rfl rfl (fun h hp => ?_) (fun h hp => ?_)))) | (show IW _ _ _ _ _; first | (refine awp_seq ?_) | (refine awp_region ?_) | (refine awp_block ?_) | (refine awp_ret ?_) | (refine awp_if_t rfl (by first | rfl | assumption | exact beq_self_eq_true _ | exact decide_eq_true rfl) ?_) | (refine awp_if_f rfl (by first | rfl | assumption) ?_)) | (show thenQ _ _ _ _; first | (refine k_r ?_)) | (show blockQ _ _ _ _; first | (refine b_r ?_)))
    all_goals first
      | (exfalso; omega)
      | (exfalso; simp at *; done)
      | exact retA2 (addR_no hT0 he (by decide) hf1)
  have he1 : addE T a par = if taken T a then 53 else if free T < 0 then 120 else 0 := by unfold addE; rw [if_neg hbad]
  have hpar : par = 0 ∨ ∃ e, get T par = some e := by
    by_cases h0 : par = 0
    · exact .inl h0
    · right
      cases hg : get T par with
      | none => exact absurd ⟨h0, hg⟩ hbad
      | some e => exact ⟨e, rfl⟩
  by_cases htk : taken T a = true
  · rw [if_pos htk] at he1
    rw [htk] at st
    rcases hpar with h0 | ⟨e, hg⟩
    · repeat' (first | (show AOps _ _ _ _ _ _; first | (show AOps _ _ _ _ (⟨some _, .move _, _, _, _, none⟩ :: _) _; first | (refine o_y (v_move (v := .ptr _ _) rfl) rfl ?_)) | (show AOps _ _ _ _ (⟨some _, .fieldAddr _ _ _, _, _, _, none⟩ :: _) _; first | (refine o_y (y_fld_ptr rfl rfl) rfl ?_)) | (show AOps _ _ _ _ (⟨some _, .nilCheck _, _, _, _, none⟩ :: _) _; first | (refine o_y (y_nil_ptr rfl) rfl ?_))) | (show IW _ _ _ _ _; first | (refine awp_seq ?_) | (refine awp_region ?_)))
      refine o_sliceCall (cs := tvs T) rfl (frzT h1) (tvs_length T) rfl (fun _ => rfl) (index_spec T) rfl rfl ?_
      repeat' (first | (refine aops_nil ?_) | (show AOps _ _ _ _ _ _; first | (show AOps _ _ _ _ (⟨some _, .move _, _, _, _, none⟩ :: _) _; first | (refine o_y (v_move (v := .sc _) rfl) rfl ?_) | (refine o_y (v_move (v := .ptr _ _) rfl) rfl ?_)) | (show AOps _ _ _ _ (⟨some _, .load _ _, _, _, _, none⟩ :: _) _; first | (refine o_y (y_vloadW rfl rfl) rfl ?_)) | (show AOps _ _ _ _ (⟨some _, .assign _, _, _, _, none⟩ :: _) _; first | (refine o_y (v_assign (v := .sc _) rfl) rfl ?_)) | (show AOps _ _ _ _ (⟨some _, .binOp _ _ _ _ _, _, _, _, none⟩ :: _) _; first | (refine o_y (y_bin rfl rfl rfl) rfl ?_)) | (show AOps _ _ _ _ (⟨some _, .pick _ _ _, _, _, _, none⟩ :: _) _; first | (refine o_y (v_pick_f (v := .sc _) rfl (by first | rfl | assumption) rfl) rfl ?_)) | (show AOps _ _ _ _ (⟨_, .call ⟨.value (.func 22), _, _⟩, _, _, _, none⟩ :: _) _; refine o_x (x_callA rfl (st) ?_); rintro _ _ ⟨rfl, rfl⟩) | (show AOps _ _ _ _ (⟨_, _, _, _, _, some (_, _)⟩ :: _) _; first | (refine o_g_t rfl rfl rfl (by first | rfl | assumption | exact beq_self_eq_true _ | exact decide_eq_true rfl) ?_) | (refine o_g_f rfl rfl rfl (by first | rfl | assumption) ?_) | (refine o_if rfl rfl rfl (fun h hp => ?_) (fun h hp => ?_)))) | (show IW _ _ _ _ _; first | (refine awp_seq ?_) | (refine awp_region ?_) | (refine awp_block ?_) | (refine awp_ret ?_) | (refine awp_if_t rfl (by first | rfl | assumption | exact beq_self_eq_true _ | exact decide_eq_true rfl) ?_) | (refine awp_if_f rfl (by first | rfl | assumption) ?_)) | (show thenQ _ _ _ _; first | (refine k_r ?_)) | (show blockQ _ _ _ _; first | (refine b_r ?_)))
      all_goals first
        | (exfalso; omega)
        | exact retA2 (addR_no hT0 he1 (by decide) hf1)
    · rw [gA, hg] at sg
      repeat' (first | (show AOps _ _ _ _ _ _; first | (show AOps _ _ _ _ (⟨some _, .move _, _, _, _, none⟩ :: _) _; first | (refine o_y (v_move (v := .ptr _ _) rfl) rfl ?_)) | (show AOps _ _ _ _ (⟨some _, .fieldAddr _ _ _, _, _, _, none⟩ :: _) _; first | (refine o_y (y_fld_ptr rfl rfl) rfl ?_)) | (show AOps _ _ _ _ (⟨some _, .nilCheck _, _, _, _, none⟩ :: _) _; first | (refine o_y (y_nil_ptr rfl) rfl ?_))) | (show IW _ _ _ _ _; first | (refine awp_seq ?_) | (refine awp_region ?_)))
      refine o_sliceCall (cs := tvs T) rfl (frzT h1) (tvs_length T) rfl (fun _ => rfl) (index_spec T) rfl rfl ?_
      repeat' (first | (refine aops_nil ?_) | (show AOps _ _ _ _ _ _; first | (show AOps _ _ _ _ (⟨some _, .move _, _, _, _, none⟩ :: _) _; first | (refine o_y (v_move (v := .sc _) rfl) rfl ?_) | (refine o_y (v_move (v := .ptr _ _) rfl) rfl ?_)) | (show AOps _ _ _ _ (⟨some _, .load _ _, _, _, _, none⟩ :: _) _; first | (refine o_y (y_vloadW rfl rfl) rfl ?_)) | (show AOps _ _ _ _ (⟨some _, .assign _, _, _, _, none⟩ :: _) _; first | (refine o_y (v_assign (v := .sc _) rfl) rfl ?_)) | (show AOps _ _ _ _ (⟨some _, .binOp _ _ _ _ _, _, _, _, none⟩ :: _) _; first | (refine o_y (y_bin rfl rfl rfl) rfl ?_) | (refine o_y (y_eqNil rfl rfl) rfl ?_)) | (show AOps _ _ _ _ (⟨some _, .pick _ _ _, _, _, _, none⟩ :: _) _; first | (refine o_y (v_pick_t (v := .sc _) rfl (by first | rfl | assumption | exact beq_self_eq_true _ | exact decide_eq_true rfl) rfl) rfl ?_) | (refine o_y (v_pick_f (v := .sc _) rfl (by first | rfl | assumption) rfl) rfl ?_)) | (show AOps _ _ _ _ (⟨_, .call ⟨.value (.func 22), _, _⟩, _, _, _, none⟩ :: _) _; refine o_x (x_callA rfl (st) ?_); rintro _ _ ⟨rfl, rfl⟩) | (show AOps _ _ _ _ (⟨_, .call ⟨.value (.func 24), _, _⟩, _, _, _, none⟩ :: _) _; refine o_x (x_callA rfl (sg) ?_); rintro _ _ ⟨rfl, rfl⟩) | (show AOps _ _ _ _ (⟨_, _, _, _, _, some (_, _)⟩ :: _) _; first | (refine o_g_t rfl rfl rfl (by first | rfl | assumption | exact beq_self_eq_true _ | exact decide_eq_true rfl) ?_) | (refine o_g_f rfl rfl rfl (by first | rfl | assumption) ?_) | (refine o_if rfl rfl rfl (fun h hp => ?_) (fun h hp => ?_)))) | (show IW _ _ _ _ _; first | (refine awp_seq ?_) | (refine awp_region ?_) | (refine awp_block ?_) | (refine awp_ret ?_) | (refine awp_if_t rfl (by first | rfl | assumption | exact beq_self_eq_true _ | exact decide_eq_true rfl) ?_) | (refine awp_if_f rfl (by first | rfl | assumption) ?_)) | (show thenQ _ _ _ _; first | (refine k_r ?_)) | (show blockQ _ _ _ _; first | (refine b_r ?_)))
      all_goals first
        | (exfalso; omega)
        | exact retA2 (addR_no hT0 he1 (by decide) hf1)
  rw [if_neg htk] at he1
  rw [Bool.eq_false_iff.2 htk] at st
  by_cases hfull : free T < 0
  · rw [if_pos hfull] at he1
    rcases hpar with h0 | ⟨e, hg⟩
    · repeat' (first | (show AOps _ _ _ _ _ _; first | (show AOps _ _ _ _ (⟨some _, .move _, _, _, _, none⟩ :: _) _; first | (refine o_y (v_move (v := .ptr _ _) rfl) rfl ?_)) | (show AOps _ _ _ _ (⟨some _, .fieldAddr _ _ _, _, _, _, none⟩ :: _) _; first | (refine o_y (y_fld_ptr rfl rfl) rfl ?_)) | (show AOps _ _ _ _ (⟨some _, .nilCheck _, _, _, _, none⟩ :: _) _; first | (refine o_y (y_nil_ptr rfl) rfl ?_))) | (show IW _ _ _ _ _; first | (refine awp_seq ?_) | (refine awp_region ?_)))
      refine o_sliceCall (cs := tvs T) rfl (frzT h1) (tvs_length T) rfl (fun _ => rfl) (index_spec T) rfl rfl ?_
      repeat' (first | (refine aops_nil ?_) | (show AOps _ _ _ _ _ _; first | (show AOps _ _ _ _ (⟨some _, .move _, _, _, _, none⟩ :: _) _; first | (refine o_y (v_move (v := .sc _) rfl) rfl ?_) | (refine o_y (v_move (v := .ptr _ _) rfl) rfl ?_)) | (show AOps _ _ _ _ (⟨some _, .load _ _, _, _, _, none⟩ :: _) _; first | (refine o_y (y_vloadW rfl rfl) rfl ?_)) | (show AOps _ _ _ _ (⟨some _, .assign _, _, _, _, none⟩ :: _) _; first | (refine o_y (v_assign (v := .sc _) rfl) rfl ?_)) | (show AOps _ _ _ _ (⟨some _, .binOp _ _ _ _ _, _, _, _, none⟩ :: _) _; first | (refine o_y (y_bin rfl rfl rfl) rfl ?_)) | (show AOps _ _ _ _ (⟨some _, .pick _ _ _, _, _, _, none⟩ :: _) _; first | (refine o_y (v_pick_f (v := .sc _) rfl (by first | rfl | assumption) rfl) rfl ?_)) | (show AOps _ _ _ _ (⟨_, .call ⟨.value (.func 22), _, _⟩, _, _, _, none⟩ :: _) _; refine o_x (x_callA rfl (st) ?_); rintro _ _ ⟨rfl, rfl⟩) | (show AOps _ _ _ _ (⟨_, _, _, _, _, some (_, _)⟩ :: _) _; first | (refine o_g_t rfl rfl rfl (by first | rfl | assumption | exact beq_self_eq_true _ | exact decide_eq_true rfl) ?_) | (refine o_g_f rfl rfl rfl (by first | rfl | assumption) ?_) | (refine o_if rfl rfl rfl (fun h hp => ?_) (fun h hp => ?_)))) | (show IW _ _ _ _ _; first | (refine awp_seq ?_) | (refine awp_region ?_) | (refine awp_block ?_) | (refine awp_ret ?_) | (refine awp_skip ?_) | (refine awp_if_f rfl (by first | rfl | assumption) ?_) | (refine awp_if rfl (fun h hp => ?_) (fun h hp => ?_))) | (show thenQ _ _ _ _; first | (refine k_r ?_)) | (show blockQ _ _ _ _; first | (refine b_r ?_)))
      all_goals first
        | (exfalso; omega)
        | exact retA2 (addR_no hT0 he1 (by decide) hf1)
    · rw [gA, hg] at sg
      repeat' (first | (show AOps _ _ _ _ _ _; first | (show AOps _ _ _ _ (⟨some _, .move _, _, _, _, none⟩ :: _) _; first | (refine o_y (v_move (v := .ptr _ _) rfl) rfl ?_)) | (show AOps _ _ _ _ (⟨some _, .fieldAddr _ _ _, _, _, _, none⟩ :: _) _; first | (refine o_y (y_fld_ptr rfl rfl) rfl ?_)) | (show AOps _ _ _ _ (⟨some _, .nilCheck _, _, _, _, none⟩ :: _) _; first | (refine o_y (y_nil_ptr rfl) rfl ?_))) | (show IW _ _ _ _ _; first | (refine awp_seq ?_) | (refine awp_region ?_)))
      refine o_sliceCall (cs := tvs T) rfl (frzT h1) (tvs_length T) rfl (fun _ => rfl) (index_spec T) rfl rfl ?_
      repeat' (first | (refine aops_nil ?_) | (show AOps _ _ _ _ _ _; first | (show AOps _ _ _ _ (⟨some _, .move _, _, _, _, none⟩ :: _) _; first | (refine o_y (v_move (v := .sc _) rfl) rfl ?_) | (refine o_y (v_move (v := .ptr _ _) rfl) rfl ?_)) | (show AOps _ _ _ _ (⟨some _, .load _ _, _, _, _, none⟩ :: _) _; first | (refine o_y (y_vloadW rfl rfl) rfl ?_)) | (show AOps _ _ _ _ (⟨some _, .assign _, _, _, _, none⟩ :: _) _; first | (refine o_y (v_assign (v := .sc _) rfl) rfl ?_)) | (show AOps _ _ _ _ (⟨some _, .binOp _ _ _ _ _, _, _, _, none⟩ :: _) _; first | (refine o_y (y_bin rfl rfl rfl) rfl ?_) | (refine o_y (y_eqNil rfl rfl) rfl ?_)) | (show AOps _ _ _ _ (⟨some _, .pick _ _ _, _, _, _, none⟩ :: _) _; first | (refine o_y (v_pick_t (v := .sc _) rfl (by first | rfl | assumption | exact beq_self_eq_true _ | exact decide_eq_true rfl) rfl) rfl ?_) | (refine o_y (v_pick_f (v := .sc _) rfl (by first | rfl | assumption) rfl) rfl ?_)) | (show AOps _ _ _ _ (⟨_, .call ⟨.value (.func 22), _, _⟩, _, _, _, none⟩ :: _) _; refine o_x (x_callA rfl (st) ?_); rintro _ _ ⟨rfl, rfl⟩) | (show AOps _ _ _ _ (⟨_, .call ⟨.value (.func 24), _, _⟩, _, _, _, none⟩ :: _) _; refine o_x (x_callA rfl (sg) ?_); rintro _ _ ⟨rfl, rfl⟩) | (show AOps _ _ _ _ (⟨_, _, _, _, _, some (_, _)⟩ :: _) _; first | (refine o_g_t rfl rfl rfl (by first | rfl | assumption | exact beq_self_eq_true _ | exact decide_eq_true rfl) ?_) | (refine o_g_f rfl rfl rfl (by first | rfl | assumption) ?_) | (refine o_if rfl rfl rfl (fun h hp => ?_) (fun h hp => ?_)))) | (show IW _ _ _ _ _; first | (refine awp_seq ?_) | (refine awp_region ?_) | (refine awp_block ?_) | (refine awp_ret ?_) | (refine awp_skip ?_) | (refine awp_if_f rfl (by first | rfl | assumption) ?_) | (refine awp_if rfl (fun h hp => ?_) (fun h hp => ?_))) | (show thenQ _ _ _ _; first | (refine k_r ?_)) | (show blockQ _ _ _ _; first | (refine b_r ?_)))
      all_goals first
        | (exfalso; omega)
        | exact retA2 (addR_no hT0 he1 (by decide) hf1)
  rw [if_neg hfull] at he1
  have hl0 : 0 + 0 + (free T).toNat * 1 < (tcs T P).length := by rw [tcs_length]; omega
  have hput := tcs_put (T := T) (P := P) (i := (free T).toNat) (k := 0 + 0 + (free T).toNat * 1) (addN T a par now) (n + 1) (by omega) (by omega)
  have hTe : addT T a par now = upd1 T (free T).toNat (some (addN T a par now)) := by unfold addT; rw [if_pos he1]
  have hIe : addI T a par = free T + 1 := by unfold addI; rw [if_pos he1]
  have fin : ∀ bs2, find t bs2 = some ⟨tcs (upd1 T (free T).toNat (some (addN T a par now))) (upd1 P (free T).toNat (n + 1)), 16, 76⟩ → find (n + 1) bs2 = some ⟨(addN T a par now).cs, 16, 79⟩ → (∀ i, i ≠ t → i ≠ n + 1 → find i bs2 = find i bs1) → AddR t T P ⟨n, bs⟩ a par now (.tup [.sc (.int .i64 (free T + 1)), .sc (.int .i64 0)]) ⟨n + 1 + 1, bs2⟩ := fun bs2 g1 g2 g3 => by
    refine ⟨by rw [hIe, he1], ⟨by show n ≤ n + 1 + 1; omega, fun i hi hx => ?_⟩, upd1 P (free T).toNat (n + 1), ?_, fun j => ?_⟩
    · exact (g3 i hx (by have : i < n := hi; omega)).trans (hf1.2 i hi (by simp))
    · rw [hTe]
      refine ⟨g1, by show t < n + 1 + 1; omega, fun j e hj hTj => ?_, fun i j e e' hi hj hTi hTj hij => ?_⟩
      · by_cases ej : j = (free T).toNat
        · subst ej
          simp only [upd1, if_true, Option.some.injEq] at hTj ⊢
          subst hTj
          exact ⟨g2, by omega, by show n + 1 < n + 1 + 1; omega⟩
        · simp only [upd1, if_neg ej] at hTj ⊢
          obtain ⟨k1, k2, k3⟩ := hT0.sl j e hj hTj
          have k3' : P j < n := k3
          obtain ⟨k4, _, _⟩ := h1.sl j e hj hTj
          exact ⟨(g3 _ k2 (by omega)).trans k4, k2, by show P j < n + 1 + 1; omega⟩
      · by_cases ei : i = (free T).toNat <;> by_cases ej : j = (free T).toNat
        · rw [ei, ej]
        · simp only [upd1, if_neg ej] at hTj
          simp only [upd1, if_neg ej, if_pos ei] at hij
          have : P j < n := (hT0.sl j e' hj hTj).2.2
          omega
        · simp only [upd1, if_neg ei] at hTi
          simp only [upd1, if_neg ei, if_pos ej] at hij
          have : P i < n := (hT0.sl i e hi hTi).2.2
          omega
        · simp only [upd1, if_neg ei] at hTi
          simp only [upd1, if_neg ej] at hTj
          simp only [upd1, if_neg ei, if_neg ej] at hij
          exact hT0.inj i j e e' hi hj hTi hTj hij
    · by_cases ej : j = (free T).toNat
      · right; simp only [upd1, if_pos ej]; show n ≤ n + 1; omega
      · left; simp only [upd1, if_neg ej]
  rcases hpar with h0 | ⟨e, hg⟩
  · by_cases hk : a.kind = 7 ∨ a.kind = 8
    · have hE : addN T a par now = ⟨free T + 1, a, par, later now, 0⟩ := by unfold addN; rw [if_pos (.inr hk)]
      repeat' (first | (show AOps _ _ _ _ _ _; first | (show AOps _ _ _ _ (⟨some _, .move _, _, _, _, none⟩ :: _) _; first | (refine o_y (v_move (v := .ptr _ _) rfl) rfl ?_)) | (show AOps _ _ _ _ (⟨some _, .fieldAddr _ _ _, _, _, _, none⟩ :: _) _; first | (refine o_y (y_fld_ptr rfl rfl) rfl ?_)) | (show AOps _ _ _ _ (⟨some _, .nilCheck _, _, _, _, none⟩ :: _) _; first | (refine o_y (y_nil_ptr rfl) rfl ?_))) | (show IW _ _ _ _ _; first | (refine awp_seq ?_) | (refine awp_region ?_)))
      refine o_sliceCall (cs := tvs T) rfl (frzT h1) (tvs_length T) rfl (fun _ => rfl) (index_spec T) rfl rfl ?_
      repeat' (first | (refine aops_nil ?_) | (show AOps _ _ _ _ _ _; first | (show AOps _ _ _ _ (⟨some _, .build _ _, _, _, _, none⟩ :: _) _; first | (refine o_y (y_build (cs := (Ro.mk (free T + 1) a par 0 0).en) rfl rfl) rfl ?_)) | (show AOps _ _ _ _ (⟨some _, .build _ _, _, _, _, none⟩ :: _) _; first | (refine o_y (y_build (cs := (Ro.mk (free T + 1) a par 0 0).cs) rfl rfl) rfl ?_)) | (show AOps _ _ _ _ (⟨some _, .move _, _, _, _, none⟩ :: _) _; first | (refine o_y (v_move (v := .sc _) rfl) rfl ?_) | (refine o_y (v_move (v := .ptr _ _) rfl) rfl ?_)) | (show AOps _ _ _ _ (⟨some _, .load _ _, _, _, _, none⟩ :: _) _; first | (refine o_y (y_load1 (v := .sc _) rfl (by first | rfl | (repeat (first | assumption | exact find_at _ _ _ | refine find_sk (by omega) ?_))) (by rfl)) rfl ?_) | (refine o_y (y_vload1 (v := .sc _) rfl rfl) rfl ?_) | (refine o_y (y_vloadW rfl rfl) rfl ?_)) | (show AOps _ _ _ _ (⟨some _, .fieldAddr _ _ _, _, _, _, none⟩ :: _) _; first | (refine o_y (y_fld_ptr rfl rfl) rfl ?_) | (refine o_y (y_fld_vptr rfl rfl) rfl ?_)) | (show AOps _ _ _ _ (⟨some _, .nilCheck _, _, _, _, none⟩ :: _) _; first | (refine o_y (y_nil_ptr rfl) rfl ?_)) | (show AOps _ _ _ _ (⟨some _, .assign _, _, _, _, none⟩ :: _) _; first | (refine o_y (v_assign (v := .sc _) rfl) rfl ?_) | (refine o_y (v_assign (v := .ptr _ _) rfl) rfl ?_)) | (show AOps _ _ _ _ (⟨some _, .binOp .add _ _ _ _, _, _, _, none⟩ :: _) _; first | (refine o_y (z_add rfl rfl (by omega) (by omega)) rfl ?_) | (refine o_y (y_bin rfl rfl rfl) rfl ?_)) | (show AOps _ _ _ _ (⟨some _, .binOp _ _ _ _ _, _, _, _, none⟩ :: _) _; first | (refine o_y (y_bin rfl rfl rfl) rfl ?_)) | (show AOps _ _ _ _ (⟨some _, .pick _ _ _, _, _, _, none⟩ :: _) _; first | (refine o_y (v_pick_t (v := .sc _) rfl (by first | rfl | assumption | exact beq_self_eq_true _ | exact decide_eq_true rfl) rfl) rfl ?_) | (refine o_y (v_pick_f (v := .sc _) rfl (by first | rfl | assumption) rfl) rfl ?_)) | (show AOps _ _ _ _ (⟨some _, .indexAddr _ _ _, _, _, _, none⟩ :: _) _; first | (refine o_y (y_ix_arr rfl rfl (by omega) (by omega)) rfl ?_)) | (show AOps _ _ _ _ (⟨some _, .call ⟨.value (.func 25), _, _⟩, _, _, _, none⟩ :: _) _; first | (refine o_q (q_call (later_spec now hn)) rfl ?_)) | (show AOps _ _ _ _ (⟨_, .call ⟨.value (.func 22), _, _⟩, _, _, _, none⟩ :: _) _; refine o_x (x_callA rfl (st) ?_); rintro _ _ ⟨rfl, rfl⟩) | (show AOps _ _ _ _ (⟨_, .call ⟨.value (.func 24), _, _⟩, _, _, _, none⟩ :: _) _; refine o_x (x_callA rfl (sg) ?_); rintro _ _ ⟨rfl, rfl⟩) | (show AOps _ _ _ _ (⟨_, .store _ _ _, _, _, _, none⟩ :: _) _; first | (refine o_x (s_storeP rfl rfl (by first | rfl | (repeat (first | assumption | exact find_at _ _ _ | refine find_sk (by omega) ?_))) rfl hl0 hput ?_))) | (show AOps _ _ _ _ (⟨_, .store _ _ _, _, _, _, none⟩ :: _) _; first | (refine o_x (s_storeN (v := .sc _) rfl rfl (by first | rfl | (repeat (first | assumption | exact find_at _ _ _ | refine find_sk (by omega) ?_))) (by rfl) (by rfl) (by first | (simp only [List.set_cons_zero, List.set_cons_succ]; rfl) | rfl) ?_))) | (show AOps _ _ _ _ (⟨_, .box _ _, _, _, _, none⟩ :: _) _; first | (refine o_x (b_agg rfl rfl rfl ?_))) | (show AOps _ _ _ _ (⟨_, _, _, _, _, some (_, _)⟩ :: _) _; first | (refine o_g_t rfl rfl rfl (by first | rfl | assumption | exact beq_self_eq_true _ | exact decide_eq_true rfl) ?_) | (refine o_g_f rfl rfl rfl (by first | rfl | assumption) ?_) | (refine o_if rfl rfl rfl (fun h hp => ?_) (fun h hp => ?_)) | (refine o_un rfl rfl rfl (fun h hp => ?_) (fun h hp => ?_)))) | (show IW _ _ _ _ _; first | (refine awp_seq ?_) | (refine awp_region ?_) | (refine awp_block ?_) | (refine awp_ret ?_) | (refine awp_skip ?_) | (refine awp_if_t rfl (by first | rfl | assumption | exact beq_self_eq_true _ | exact decide_eq_true rfl) ?_) | (refine awp_if_f rfl (by first | rfl | assumption) ?_) | (refine awp_if rfl (fun h hp => ?_) (fun h hp => ?_))) | (show thenQ _ _ _ _; first | (refine k_r ?_)) | (show blockQ _ _ _ _; first | (refine b_r ?_)))
      all_goals first
        | (exfalso; omega)
        | exact retA2 (fin _ (find_at _ _ _) (by rw [hE]; exact find_sk (by omega) (find_at _ _ _)) (fun i e1 e2 => by simp only [find_cons, if_neg (Ne.symm e1), if_neg (Ne.symm e2)]))
    · have hE : addN T a par now = ⟨free T + 1, a, par, 0, 0⟩ := by unfold addN; rw [if_neg (fun h => h.elim (fun h => h h0) hk)]
      repeat' (first | (show AOps _ _ _ _ _ _; first | (show AOps _ _ _ _ (⟨some _, .move _, _, _, _, none⟩ :: _) _; first | (refine o_y (v_move (v := .ptr _ _) rfl) rfl ?_)) | (show AOps _ _ _ _ (⟨some _, .fieldAddr _ _ _, _, _, _, none⟩ :: _) _; first | (refine o_y (y_fld_ptr rfl rfl) rfl ?_)) | (show AOps _ _ _ _ (⟨some _, .nilCheck _, _, _, _, none⟩ :: _) _; first | (refine o_y (y_nil_ptr rfl) rfl ?_))) | (show IW _ _ _ _ _; first | (refine awp_seq ?_) | (refine awp_region ?_)))
      refine o_sliceCall (cs := tvs T) rfl (frzT h1) (tvs_length T) rfl (fun _ => rfl) (index_spec T) rfl rfl ?_
      repeat' (first | (refine aops_nil ?_) | (show AOps _ _ _ _ _ _; first | (show AOps _ _ _ _ (⟨some _, .build _ _, _, _, _, none⟩ :: _) _; first | (refine o_y (y_build (cs := (Ro.mk (free T + 1) a par 0 0).en) rfl rfl) rfl ?_)) | (show AOps _ _ _ _ (⟨some _, .build _ _, _, _, _, none⟩ :: _) _; first | (refine o_y (y_build (cs := (Ro.mk (free T + 1) a par 0 0).cs) rfl rfl) rfl ?_)) | (show AOps _ _ _ _ (⟨some _, .move _, _, _, _, none⟩ :: _) _; first | (refine o_y (v_move (v := .sc _) rfl) rfl ?_) | (refine o_y (v_move (v := .ptr _ _) rfl) rfl ?_)) | (show AOps _ _ _ _ (⟨some _, .load _ _, _, _, _, none⟩ :: _) _; first | (refine o_y (y_load1 (v := .sc _) rfl (by first | rfl | (repeat (first | assumption | exact find_at _ _ _ | refine find_sk (by omega) ?_))) (by rfl)) rfl ?_) | (refine o_y (y_vload1 (v := .sc _) rfl rfl) rfl ?_) | (refine o_y (y_vloadW rfl rfl) rfl ?_)) | (show AOps _ _ _ _ (⟨some _, .fieldAddr _ _ _, _, _, _, none⟩ :: _) _; first | (refine o_y (y_fld_ptr rfl rfl) rfl ?_) | (refine o_y (y_fld_vptr rfl rfl) rfl ?_)) | (show AOps _ _ _ _ (⟨some _, .nilCheck _, _, _, _, none⟩ :: _) _; first | (refine o_y (y_nil_ptr rfl) rfl ?_)) | (show AOps _ _ _ _ (⟨some _, .assign _, _, _, _, none⟩ :: _) _; first | (refine o_y (v_assign (v := .sc _) rfl) rfl ?_) | (refine o_y (v_assign (v := .ptr _ _) rfl) rfl ?_)) | (show AOps _ _ _ _ (⟨some _, .binOp .add _ _ _ _, _, _, _, none⟩ :: _) _; first | (refine o_y (z_add rfl rfl (by omega) (by omega)) rfl ?_) | (refine o_y (y_bin rfl rfl rfl) rfl ?_)) | (show AOps _ _ _ _ (⟨some _, .binOp _ _ _ _ _, _, _, _, none⟩ :: _) _; first | (refine o_y (y_bin rfl rfl rfl) rfl ?_)) | (show AOps _ _ _ _ (⟨some _, .pick _ _ _, _, _, _, none⟩ :: _) _; first | (refine o_y (v_pick_t (v := .sc _) rfl (by first | rfl | assumption | exact beq_self_eq_true _ | exact decide_eq_true rfl) rfl) rfl ?_) | (refine o_y (v_pick_f (v := .sc _) rfl (by first | rfl | assumption) rfl) rfl ?_)) | (show AOps _ _ _ _ (⟨some _, .indexAddr _ _ _, _, _, _, none⟩ :: _) _; first | (refine o_y (y_ix_arr rfl rfl (by omega) (by omega)) rfl ?_)) | (show AOps _ _ _ _ (⟨some _, .call ⟨.value (.func 25), _, _⟩, _, _, _, none⟩ :: _) _; first | (refine o_q (q_call (later_spec now hn)) rfl ?_)) | (show AOps _ _ _ _ (⟨_, .call ⟨.value (.func 22), _, _⟩, _, _, _, none⟩ :: _) _; refine o_x (x_callA rfl (st) ?_); rintro _ _ ⟨rfl, rfl⟩) | (show AOps _ _ _ _ (⟨_, .store _ _ _, _, _, _, none⟩ :: _) _; first | (refine o_x (s_storeP rfl rfl (by first | rfl | (repeat (first | assumption | exact find_at _ _ _ | refine find_sk (by omega) ?_))) rfl hl0 hput ?_))) | (show AOps _ _ _ _ (⟨_, .store _ _ _, _, _, _, none⟩ :: _) _; first | (refine o_x (s_storeN (v := .sc _) rfl rfl (by first | rfl | (repeat (first | assumption | exact find_at _ _ _ | refine find_sk (by omega) ?_))) (by rfl) (by rfl) (by first | (simp only [List.set_cons_zero, List.set_cons_succ]; rfl) | rfl) ?_))) | (show AOps _ _ _ _ (⟨_, .box _ _, _, _, _, none⟩ :: _) _; first | (refine o_x (b_agg rfl rfl rfl ?_))) | (show AOps _ _ _ _ (⟨_, _, _, _, _, some (_, _)⟩ :: _) _; first | (refine o_g_t rfl rfl rfl (by first | rfl | assumption | exact beq_self_eq_true _ | exact decide_eq_true rfl) ?_) | (refine o_g_f rfl rfl rfl (by first | rfl | assumption) ?_) | (refine o_if rfl rfl rfl (fun h hp => ?_) (fun h hp => ?_)) | (refine o_un rfl rfl rfl (fun h hp => ?_) (fun h hp => ?_)))) | (show IW _ _ _ _ _; first | (refine awp_seq ?_) | (refine awp_region ?_) | (refine awp_block ?_) | (refine awp_ret ?_) | (refine awp_skip ?_) | (refine awp_if_t rfl (by first | rfl | assumption | exact beq_self_eq_true _ | exact decide_eq_true rfl) ?_) | (refine awp_if_f rfl (by first | rfl | assumption) ?_) | (refine awp_if rfl (fun h hp => ?_) (fun h hp => ?_))) | (show thenQ _ _ _ _; first | (refine k_r ?_)) | (show blockQ _ _ _ _; first | (refine b_r ?_)))
      all_goals first
        | (exfalso; omega)
        | exact retA2 (fin _ (find_at _ _ _) (by rw [hE]; exact find_sk (by omega) (find_at _ _ _)) (fun i e1 e2 => by simp only [find_cons, if_neg (Ne.symm e1), if_neg (Ne.symm e2)]))
  · rw [gA, hg] at sg
    by_cases h0 : par = 0
    · have h1' : get T par = none := by unfold get; rw [if_neg (by omega)]
      rw [h1'] at hg; cases hg
    · have hE : addN T a par now = ⟨free T + 1, a, par, later now, 0⟩ := by unfold addN; rw [if_pos (.inl h0)]
      repeat' (first | (show AOps _ _ _ _ _ _; first | (show AOps _ _ _ _ (⟨some _, .move _, _, _, _, none⟩ :: _) _; first | (refine o_y (v_move (v := .ptr _ _) rfl) rfl ?_)) | (show AOps _ _ _ _ (⟨some _, .fieldAddr _ _ _, _, _, _, none⟩ :: _) _; first | (refine o_y (y_fld_ptr rfl rfl) rfl ?_)) | (show AOps _ _ _ _ (⟨some _, .nilCheck _, _, _, _, none⟩ :: _) _; first | (refine o_y (y_nil_ptr rfl) rfl ?_))) | (show IW _ _ _ _ _; first | (refine awp_seq ?_) | (refine awp_region ?_)))
      refine o_sliceCall (cs := tvs T) rfl (frzT h1) (tvs_length T) rfl (fun _ => rfl) (index_spec T) rfl rfl ?_
      repeat' (first | (refine aops_nil ?_) | (show AOps _ _ _ _ _ _; first | (show AOps _ _ _ _ (⟨some _, .build _ _, _, _, _, none⟩ :: _) _; first | (refine o_y (y_build (cs := (Ro.mk (free T + 1) a par 0 0).en) rfl rfl) rfl ?_)) | (show AOps _ _ _ _ (⟨some _, .build _ _, _, _, _, none⟩ :: _) _; first | (refine o_y (y_build (cs := (Ro.mk (free T + 1) a par 0 0).cs) rfl rfl) rfl ?_)) | (show AOps _ _ _ _ (⟨some _, .move _, _, _, _, none⟩ :: _) _; first | (refine o_y (v_move (v := .sc _) rfl) rfl ?_) | (refine o_y (v_move (v := .ptr _ _) rfl) rfl ?_)) | (show AOps _ _ _ _ (⟨some _, .load _ _, _, _, _, none⟩ :: _) _; first | (refine o_y (y_load1 (v := .sc _) rfl (by first | rfl | (repeat (first | assumption | exact find_at _ _ _ | refine find_sk (by omega) ?_))) (by rfl)) rfl ?_) | (refine o_y (y_vload1 (v := .sc _) rfl rfl) rfl ?_) | (refine o_y (y_vloadW rfl rfl) rfl ?_)) | (show AOps _ _ _ _ (⟨some _, .fieldAddr _ _ _, _, _, _, none⟩ :: _) _; first | (refine o_y (y_fld_ptr rfl rfl) rfl ?_) | (refine o_y (y_fld_vptr rfl rfl) rfl ?_)) | (show AOps _ _ _ _ (⟨some _, .nilCheck _, _, _, _, none⟩ :: _) _; first | (refine o_y (y_nil_ptr rfl) rfl ?_)) | (show AOps _ _ _ _ (⟨some _, .assign _, _, _, _, none⟩ :: _) _; first | (refine o_y (v_assign (v := .sc _) rfl) rfl ?_) | (refine o_y (v_assign (v := .ptr _ _) rfl) rfl ?_)) | (show AOps _ _ _ _ (⟨some _, .binOp .add _ _ _ _, _, _, _, none⟩ :: _) _; first | (refine o_y (z_add rfl rfl (by omega) (by omega)) rfl ?_) | (refine o_y (y_bin rfl rfl rfl) rfl ?_)) | (show AOps _ _ _ _ (⟨some _, .binOp _ _ _ _ _, _, _, _, none⟩ :: _) _; first | (refine o_y (y_bin rfl rfl rfl) rfl ?_) | (refine o_y (y_eqNil rfl rfl) rfl ?_)) | (show AOps _ _ _ _ (⟨some _, .pick _ _ _, _, _, _, none⟩ :: _) _; first | (refine o_y (v_pick_t (v := .sc _) rfl (by first | rfl | assumption | exact beq_self_eq_true _ | exact decide_eq_true rfl) rfl) rfl ?_) | (refine o_y (v_pick_f (v := .sc _) rfl (by first | rfl | assumption) rfl) rfl ?_)) | (show AOps _ _ _ _ (⟨some _, .indexAddr _ _ _, _, _, _, none⟩ :: _) _; first | (refine o_y (y_ix_arr rfl rfl (by omega) (by omega)) rfl ?_)) | (show AOps _ _ _ _ (⟨some _, .call ⟨.value (.func 25), _, _⟩, _, _, _, none⟩ :: _) _; first | (refine o_q (q_call (later_spec now hn)) rfl ?_)) | (show AOps _ _ _ _ (⟨_, .call ⟨.value (.func 22), _, _⟩, _, _, _, none⟩ :: _) _; refine o_x (x_callA rfl (st) ?_); rintro _ _ ⟨rfl, rfl⟩) | (show AOps _ _ _ _ (⟨_, .call ⟨.value (.func 24), _, _⟩, _, _, _, none⟩ :: _) _; refine o_x (x_callA rfl (sg) ?_); rintro _ _ ⟨rfl, rfl⟩) | (show AOps _ _ _ _ (⟨_, .store _ _ _, _, _, _, none⟩ :: _) _; first | (refine o_x (s_storeP rfl rfl (by first | rfl | (repeat (first | assumption | exact find_at _ _ _ | refine find_sk (by omega) ?_))) rfl hl0 hput ?_))) | (show AOps _ _ _ _ (⟨_, .store _ _ _, _, _, _, none⟩ :: _) _; first | (refine o_x (s_storeN (v := .sc _) rfl rfl (by first | rfl | (repeat (first | assumption | exact find_at _ _ _ | refine find_sk (by omega) ?_))) (by rfl) (by rfl) (by first | (simp only [List.set_cons_zero, List.set_cons_succ]; rfl) | rfl) ?_))) | (show AOps _ _ _ _ (⟨_, .box _ _, _, _, _, none⟩ :: _) _; first | (refine o_x (b_agg rfl rfl rfl ?_))) | (show AOps _ _ _ _ (⟨_, _, _, _, _, some (_, _)⟩ :: _) _; first | (refine o_g_t rfl rfl rfl (by first | rfl | assumption | exact beq_self_eq_true _ | exact decide_eq_true rfl) ?_) | (refine o_g_f rfl rfl rfl (by first | rfl | assumption) ?_) | (refine o_if rfl rfl rfl (fun h hp => ?_) (fun h hp => ?_)) | (refine o_un rfl rfl rfl (fun h hp => ?_) (fun h hp => ?_)))) | (show IW _ _ _ _ _; first | (refine awp_seq ?_) | (refine awp_region ?_) | (refine awp_block ?_) | (refine awp_ret ?_) | (refine awp_skip ?_) | (refine awp_if_t rfl (by first | rfl | assumption | exact beq_self_eq_true _ | exact decide_eq_true rfl) ?_) | (refine awp_if_f rfl (by first | rfl | assumption) ?_) | (refine awp_if rfl (fun h hp => ?_) (fun h hp => ?_))) | (show thenQ _ _ _ _; first | (refine k_r ?_)) | (show blockQ _ _ _ _; first | (refine b_r ?_)))
      all_goals first
        | (exfalso; omega)
        | exact retA2 (fin _ (find_at _ _ _) (by rw [hE]; exact find_sk (by omega) (find_at _ _ _)) (fun i e1 e2 => by simp only [find_cons, if_neg (Ne.symm e1), if_neg (Ne.symm e2)]))
end Go.Proofs.Ytcidoghpacihpaa.Sx
namespace Go.Proofs.Ytcidoghpacihpaa.Sx
open Go Go.RowKit
attribute [local irreducible] IW AOps AQuiet GQ GY AExec QY Yld ACalls ACallsD
inductive Rch (T : Tb) (g : Ro → Bool) : Nat → Prop
  | base {j : Nat} {e : Ro} : j < 16 → T j = some e → g e = true → Rch T g j
  | step {j : Nat} {e : Ro} : j < 16 → T j = some e → 1 ≤ e.par → e.par ≤ 16 → Rch T g (e.par - 1).toNat → Rch T g j
theorem Rch.lt {T : Tb} {g : Ro → Bool} {j : Nat} (h : Rch T g j) : j < 16 := by cases h <;> assumption
theorem Rch.some {T : Tb} {g : Ro → Bool} {j : Nat} (h : Rch T g j) : ∃ e, T j = some e := by cases h <;> exact ⟨_, by assumption⟩
abbrev kI : Int → Value := fun a => .int .i64 a
abbrev vB : Bool → Value := fun b => .bool b
def gn (N : List (Int × Bool)) (k : Int) : Bool := (alk N k).getD false
theorem gn_val (N : List (Int × Bool)) (k : Int) : ((alk N k).map vB).getD (.bool false) = .bool (gn N k) := by unfold gn; cases alk N k <;> rfl
theorem gn_put (N : List (Int × Bool)) (a k : Int) : gn (aput N a true) k = if a = k then true else gn N k := by unfold gn; rw [alk_aput]; split <;> rfl
/-- Whoever is marked is reached. -/
def Snd (T : Tb) (g : Ro → Bool) (N : List (Int × Bool)) : Prop := ∀ k, gn N k = true → 1 ≤ k ∧ k ≤ 16 ∧ Rch T g (k - 1).toNat
/-- Nobody is left at the slots below i. -/
def Cls (T : Tb) (g : Ro → Bool) (N : List (Int × Bool)) (i : Nat) : Prop := ∀ j e, j < i → T j = some e → gn N e.id = false → g e = false ∧ gn N e.par = false
def cntN (T : Tb) (N : List (Int × Bool)) : Nat → Nat
  | 0 => 0
  | n + 1 => cntN T N n + (match T n with | none => 0 | some e => if gn N e.id then 0 else 1)
theorem cntN_le {T : Tb} {N N' : List (Int × Bool)} (h : ∀ k, gn N k = true → gn N' k = true) : ∀ n, cntN T N' n ≤ cntN T N n
  | 0 => Nat.le_refl _
  | n + 1 => by
    have := cntN_le (T := T) h n
    unfold cntN
    cases T n with
    | none => simpa using this
    | some e =>
      have hm : (if gn N' e.id = true then 0 else 1) ≤ (if gn N e.id = true then 0 else 1) := by
        by_cases h2 : gn N e.id = true
        · rw [if_pos h2, if_pos (h _ h2)]; exact Nat.le_refl _
        · rw [if_neg h2]; split <;> omega
      show cntN T N' n + (if gn N' e.id = true then 0 else 1) ≤ cntN T N n + (if gn N e.id = true then 0 else 1)
      omega
theorem cntN_lt {T : Tb} {N N' : List (Int × Bool)} (h : ∀ k, gn N k = true → gn N' k = true) {i : Nat} {e : Ro} (hT : T i = some e) (h0 : gn N e.id = false) (h1 : gn N' e.id = true) : ∀ {n : Nat}, i < n → cntN T N' n < cntN T N n
  | 0, hn => by omega
  | n + 1, hn => by
    unfold cntN
    by_cases e' : i = n
    · subst e'
      have := cntN_le (T := T) h i
      rw [hT]
      simp [h0, h1]
      omega
    · have ih := cntN_lt h hT h0 h1 (n := n) (by omega)
      cases T n with
      | none => simpa using ih
      | some e2 =>
        have hm : (if gn N' e2.id = true then 0 else 1) ≤ (if gn N e2.id = true then 0 else 1) := by
          by_cases h2 : gn N e2.id = true
          · rw [if_pos h2, if_pos (h _ h2)]; exact Nat.le_refl _
          · rw [if_neg h2]; split <;> omega
        show cntN T N' n + (if gn N' e2.id = true then 0 else 1) < cntN T N n + (if gn N e2.id = true then 0 else 1)
        omega
theorem marked {T : Tb} {g : Ro → Bool} {N : List (Int × Bool)} (hok : ok T) (hs : Snd T g N) (hc : Cls T g N 16) : ∀ j, Rch T g j → ∀ e, T j = some e → gn N e.id = true := fun j h => by
  induction h with
  | base hj hT hg =>
    intro e he
    rw [hT] at he; cases he
    cases h1 : gn N _ with
    | true => rfl
    | false => exact absurd hg (by rw [(hc _ _ hj hT h1).1]; simp)
  | @step j e0 hj hT hp0 hp1 hr ih =>
    intro e he
    rw [hT] at he; cases he
    cases h1 : gn N _ with
    | true => rfl
    | false =>
      obtain ⟨ep, hep⟩ := hr.some
      have := ih ep hep
      rw [hok _ _ hr.lt hep, show (((e0.par - 1).toNat : Nat) : Int) + 1 = e0.par by omega] at this
      rw [(hc _ _ hj hT h1).2] at this
      cases this
def delT (T : Tb) (G : Nat → Bool) (j : Nat) : Option Ro := if G j then none else T j
def dids (T : Tb) (G : Nat → Bool) : Nat → List Int
  | 0 => []
  | n + 1 => dids T G n ++ (match T n with | none => [] | some e => if G n then [e.id] else [])
theorem dids_le (T : Tb) (G : Nat → Bool) : ∀ n, (dids T G n).length ≤ n
  | 0 => Nat.le_refl _
  | n + 1 => by
    have := dids_le T G n
    unfold dids
    rw [List.length_append]
    cases T n with
    | none => simp; omega
    | some e => cases G n <;> simp <;> omega
def DropR (t : Nat) (T : Tb) (P : Nat → Nat) (S : Hp) (g : Ro → Bool) (r : AV) (S' : Hp) : Prop :=
  ∃ G : Nat → Bool, (∀ j, j < 16 → (G j = true ↔ Rch T g j)) ∧ Fr S S' (fun i => i = t) ∧ TH t (delT T G) P S' ∧ ∃ k, S.nxt ≤ k ∧ k < S'.nxt ∧ r = .sl k 0 (dids T G 16).length ∧ find k S'.bs = some ⟨nums (dids T G 16), 1, 3⟩
end Go.Proofs.Ytcidoghpacihpaa.Sx
namespace Go.Proofs.Ytcidoghpacihpaa.Sx
open Go Go.RowKit
attribute [local irreducible] IW AOps AQuiet GQ GY AExec QY Yld ACalls ACallsD
theorem tcs_congr {T T' : Tb} {P : Nat → Nat} (h : ∀ j, j < 16 → T j = T' j) : tcs T P = tcs T' P := by
  unfold tcs
  refine List.map_congr_left fun j hj => ?_
  unfold sA
  rw [h j (List.mem_range.1 hj)]
attribute [local irreducible] tvs tcs
abbrev mB (N : List (Int × Bool)) : List AV := mpv kI vB N
def delI (T : Tb) (G : Nat → Bool) (i j : Nat) : Option Ro := if j < i ∧ G j = true then none else T j
theorem delI0 (T : Tb) (G : Nat → Bool) : delI T G 0 = T := by funext j; simp [delI]
theorem delI_skip {T : Tb} {G : Nat → Bool} {i : Nat} (h : T i = none ∨ G i = false) : delI T G (i + 1) = delI T G i := by
  funext j
  unfold delI
  by_cases hj : j = i
  · subst hj
    rcases h with h | h
    · simp [h]
    · simp [h]
  · have : (j < i + 1 ∧ G j = true) ↔ (j < i ∧ G j = true) := by constructor <;> rintro ⟨h1, h2⟩ <;> exact ⟨by omega, h2⟩
    simp only [this]
theorem delI_hit {T : Tb} {G : Nat → Bool} {i : Nat} (h : G i = true) : delI T G (i + 1) = upd1 (delI T G i) i none := by
  funext j
  unfold delI upd1
  by_cases hj : j = i
  · subst hj; simp [h]
  · have : (j < i + 1 ∧ G j = true) ↔ (j < i ∧ G j = true) := by constructor <;> rintro ⟨h1, h2⟩ <;> exact ⟨by omega, h2⟩
    simp only [this, if_neg hj]
theorem delI16 {T : Tb} {G : Nat → Bool} {j : Nat} (hj : j < 16) : delI T G 16 j = delT T G j := by
  unfold delI delT
  cases G j <;> simp [hj]
theorem snd_nil (T : Tb) (g : Ro → Bool) : Snd T g [] := fun k hk => by cases hk
def Gs (f : FuncId) (cap : List AV) (T : Tb) (g : Ro → Bool) : Prop := ∀ j e, j < 16 → T j = some e → ACalls Try.prog f (.vptr e.cs 0 :: cap) ⟨0, []⟩ (fun r _ => r = .sc (.bool (g e)))
set_option maxHeartbeats 16000000 in
theorem drop_spec {t : Nat} {T : Tb} {P : Nat → Nat} {S : Hp} (hT0 : TH t T P S) (hok : ok T) (f : FuncId) (cap : List AV) [hcf : Callable Try.prog f] (hcap : ∀ S, FrzSL S cap cap) (g : Ro → Bool) (hg : Gs f cap T g) : ACalls Try.prog 26 [.ptr t 0, .fn f cap] S (DropR t T P S g) := by
  obtain ⟨n, bs⟩ := S
  have htb := hT0.tb
  have hlt := hT0.lt
  dsimp only at htb hlt
  have hPn : ∀ j e, j < 16 → T j = some e → P j < n := fun j e hj hT => (hT0.sl j e hj hT).2.2
  have hPt : ∀ j e, j < 16 → T j = some e → P j ≠ t := fun j e hj hT => (hT0.sl j e hj hT).2.1
  have hPb : ∀ j e, j < 16 → T j = some e → find (P j) bs = some ⟨e.cs, 16, 79⟩ := fun j e hj hT => (hT0.sl j e hj hT).1
  refine enterA2 Try.func26 rfl 90 [.tmp 4] rfl rfl ?_
  repeat' (first | (refine aops_nil ?_) | (show AOps _ _ _ _ _ _; first | (show AOps _ _ _ _ (⟨some _, .assign _, _, _, _, none⟩ :: _) _; first | (refine o_y (v_assign (v := .sc _) rfl) rfl ?_) | (refine o_y (v_assign (v := .mp _) rfl) rfl ?_)) | (show AOps _ _ _ _ (⟨_, .makeMap _ _, _, _, _, none⟩ :: _) _; first | (refine o_x (x_makeMapN rfl ?_)))) | (show IW _ _ [.code (.seq _ _)] _ _; first | (show AWP _ _ (.seq (.region _ _ _) _) _ _; refine awp_seq ?_) | (show AWP _ _ (.seq (.seq _ _) _) _ _; refine awp_seq ?_)) | (show IW _ _ _ _ _; first | (refine awp_region ?_) | (refine awp_block ?_)))
  refine awp_loopA (fun x : List (Int × Bool) × Bool => Snd T g x.1 ∧ (x.2 = false → Cls T g x.1 16)) (fun x => 2 * cntN T x.1 16 + (if x.2 then 1 else 0)) (fun x => [(0, .ptr t 0), (1, .fn f cap), (5, .mp n), (6, .sc (.bool x.2))]) (fun x => ⟨n + 1, (n, some ⟨mB x.1, 0, 0⟩) :: bs⟩) ([], true) rfl ⟨snd_nil T g, (fun h => nomatch h)⟩ ⟨rfl, rfl, rfl, rfl, trivial⟩ (hpEq_refl _) ?_
  rintro ⟨N, again⟩ ⟨hs, hcl⟩ ih
  dsimp only at hs hcl ih ⊢
  cases again with
  | true =>
    repeat' (first | (refine aops_nil ?_) | (show AOps _ _ _ _ _ _; first | (show AOps _ _ _ _ (⟨some _, .load 74 _, _, _, _, none⟩ :: _) _; first | (refine o_y (y_loadW rfl (by first | rfl | (repeat (first | assumption | exact find_at _ _ _ | refine find_sk (by omega) ?_))) (tcs_length T P)) rfl ?_)) | (show AOps _ _ _ _ (⟨some _, .move _, _, _, _, none⟩ :: _) _; first | (refine o_y (v_move (v := .sc _) rfl) rfl ?_) | (refine o_y (v_move (v := .ptr _ _) rfl) rfl ?_)) | (show AOps _ _ _ _ (⟨some _, .fieldAddr _ _ _, _, _, _, none⟩ :: _) _; first | (refine o_y (y_fld_ptr rfl rfl) rfl ?_)) | (show AOps _ _ _ _ (⟨some _, .nilCheck _, _, _, _, none⟩ :: _) _; first | (refine o_y (y_nil_ptr rfl) rfl ?_)) | (show AOps _ _ _ _ (⟨some _, .assign _, _, _, _, none⟩ :: _) _; first | (refine o_y (v_assign (v := .sc _) rfl) rfl ?_))) | (show IW _ _ [.code (.seq _ _)] _ _; first | (show AWP _ _ (.seq (.region _ _ _) _) _ _; refine awp_seq ?_) | (show AWP _ _ (.seq (.seq _ _) _) _ _; refine awp_seq ?_)) | (show IW _ _ _ _ _; first | (refine awp_region ?_) | (refine awp_block ?_) | (refine awp_skip ?_) | (refine awp_if_t rfl (by first | rfl | assumption | exact beq_self_eq_true _ | exact decide_eq_true rfl) ?_)))
    refine awp_loopA (fun x : Nat × List (Int × Bool) × Bool => x.1 ≤ 16 ∧ Snd T g x.2.1 ∧ (∀ k, gn N k = true → gn x.2.1 k = true) ∧ (x.2.2 = false → x.2.1 = N ∧ Cls T g N x.1) ∧ (x.2.2 = true → cntN T x.2.1 16 < cntN T N 16)) (fun x => 16 - x.1) (fun x => [(0, .ptr t 0), (1, .fn f cap), (5, .mp n), (6, .sc (.bool x.2.2)), (17, .agg (tcs T P)), (18, .sc (.int .i64 x.1))]) (fun x => ⟨n + 1, (n, some ⟨mB x.2.1, 0, 0⟩) :: bs⟩) (0, N, false) rfl ⟨Nat.zero_le _, hs, fun _ h => h, fun _ => ⟨rfl, fun j e hj => absurd hj (Nat.not_lt_zero _)⟩, (fun h => nomatch h)⟩ ⟨rfl, rfl, rfl, rfl, rfl, rfl, trivial⟩ (hpEq_refl _) ?_
    rintro ⟨i, N', ag⟩ ⟨g1, g2, g3, g4, g5⟩ ihi
    dsimp only at g1 g2 g3 g4 g5 ihi ⊢
    by_cases hlt16 : i < 16
    · cases hTi : T i with
      | none =>
        have v0 : (tcs T P)[(i : Int).toNat]? = some (.sc (.pointer none)) := tcs_none hlt16 (by omega) hTi
        have hc' : ag = false → N' = N ∧ Cls T g N (i + 1) := fun ha => ⟨(g4 ha).1, fun j e hj hT h0 => by
          by_cases ej : j = i
          · subst ej; rw [hTi] at hT; cases hT
          · exact (g4 ha).2 j e (by omega) hT h0⟩
        repeat' (first | (refine aops_nil ?_) | (show AOps _ _ _ _ _ _; first | (show AOps _ _ _ _ (⟨some _, .move _, _, _, _, none⟩ :: _) _; first | (refine o_y (v_move (v := .sc _) rfl) rfl ?_)) | (show AOps _ _ _ _ (⟨some _, .assign _, _, _, _, none⟩ :: _) _; first | (refine o_y (v_assign (v := .sc _) rfl) rfl ?_)) | (show AOps _ _ _ _ (⟨some _, .binOp .add _ _ _ _, _, _, _, none⟩ :: _) _; first | (refine o_y (z_add rfl rfl (by omega) (by omega)) rfl ?_) | (refine o_y (y_bin rfl rfl rfl) rfl ?_)) | (show AOps _ _ _ _ (⟨some _, .binOp _ _ _ _ _, _, _, _, none⟩ :: _) _; first | (refine o_y (y_bin rfl rfl rfl) rfl ?_) | (refine o_y (y_neNil0 rfl rfl) rfl ?_)) | (show AOps _ _ _ _ (⟨some _, .pick _ _ _, _, _, _, none⟩ :: _) _; first | (refine o_y (v_pick_f (v := .sc _) rfl (by first | rfl | assumption) rfl) rfl ?_)) | (show AOps _ _ _ _ (⟨some _, .index _ _ _, _, _, _, none⟩ :: _) _; first | (refine o_y (y_indexA rfl rfl (by omega) (by omega) (by assumption)) rfl ?_)) | (show AOps _ _ _ _ (⟨_, _, _, _, _, some (_, _)⟩ :: _) _; first | (refine o_off rfl rfl rfl ?_) | (refine o_g_f rfl rfl rfl (by first | rfl | assumption) ?_))) | (show IW _ _ _ _ _; first | (refine awp_seq ?_) | (refine awp_region ?_) | (refine awp_block ?_) | (refine awp_exit ?_) | (refine awp_skip ?_) | (refine awp_if_f rfl (by first | rfl | assumption) ?_) | (refine awp_if rfl (fun h hp => ?_) (fun h hp => ?_))) | (show thenQ _ _ _ _; first | (refine k_n ?_) | (refine k_x ?_)) | (show blockQ _ _ _ _; first | (refine k_n' ?_) | (refine b_hit rfl ?_)))
        all_goals first
          | (exfalso; omega)
          | exact iw_atA (ihi (i + 1, N', ag) ⟨hlt16, g2, g3, hc', g5⟩ (by dsimp only; omega)) rfl ⟨rfl, rfl, rfl, rfl, rfl, rfl, trivial⟩ (hpEq_refl _)
      | some e =>
        have v0 : (tcs T P)[(i : Int).toNat]? = some (.ptr (P i) 0) := tcs_some hlt16 (by omega) hTi
        have q1 := hPn i e hlt16 hTi
        have q2 := hPb i e hlt16 hTi
        have sg := hg i e hlt16 hTi
        have hid := hok i e hlt16 hTi
        have hv1 := gn_val N' e.id
        have hv2 := gn_val N' e.par
        have hskip : (gn N' e.id = true ∨ g e = false ∧ gn N' e.par = false) → ag = false → N' = N ∧ Cls T g N (i + 1) := fun hor ha => ⟨(g4 ha).1, fun j e' hj hT h0 => by
          by_cases ej : j = i
          · subst ej; rw [hTi] at hT; cases hT
            rw [(g4 ha).1] at hor
            rcases hor with h | h
            · rw [h] at h0; cases h0
            · exact h
          · exact (g4 ha).2 j e' (by omega) hT h0⟩
        have hmark : gn N' e.id = false → (g e = true ∨ gn N' e.par = true) → Snd T g (aput N' e.id true) ∧ (∀ k, gn N k = true → gn (aput N' e.id true) k = true) ∧ cntN T (aput N' e.id true) 16 < cntN T N 16 := fun h0 hor => by
          have hmono : ∀ k, gn N k = true → gn (aput N' e.id true) k = true := fun k hk => by rw [gn_put]; split; rfl; exact g3 k hk
          refine ⟨fun k hk => ?_, hmono, ?_⟩
          · rw [gn_put] at hk
            by_cases ek : e.id = k
            · subst ek
              refine ⟨by omega, by omega, ?_⟩
              rw [show (e.id - 1).toNat = i by omega]
              rcases hor with h | h
              · exact .base hlt16 hTi h
              · obtain ⟨p1, p2, p3⟩ := g2 _ h
                exact .step hlt16 hTi p1 p2 p3
            · rw [if_neg ek] at hk
              exact g2 k hk
          · refine cntN_lt hmono hTi ?_ (by rw [gn_put, if_pos rfl]) hlt16
            cases h1 : gn N e.id with
            | false => rfl
            | true => rw [g3 _ h1] at h0; cases h0
        repeat' (first | (refine aops_nil ?_) | (show AOps _ _ _ _ _ _; first | (show AOps _ _ _ _ (⟨some _, .move _, _, _, _, none⟩ :: _) _; first | (refine o_y (v_move (v := .sc _) rfl) rfl ?_) | (refine o_y (v_move (v := .ptr _ _) rfl) rfl ?_) | (refine o_y (v_move (v := .fn _ _) rfl) rfl ?_) | (refine o_y (v_move (v := .mp _) rfl) rfl ?_)) | (show AOps _ _ _ _ (⟨some _, .load _ _, _, _, _, none⟩ :: _) _; first | (refine o_y (y_load1 (v := .sc _) rfl (by first | rfl | (repeat (first | assumption | exact find_at _ _ _ | refine find_sk (by omega) ?_))) (by rfl)) rfl ?_)) | (show AOps _ _ _ _ (⟨some _, .fieldAddr _ _ _, _, _, _, none⟩ :: _) _; first | (refine o_y (y_fld_ptr rfl rfl) rfl ?_)) | (show AOps _ _ _ _ (⟨some _, .nilCheck _, _, _, _, none⟩ :: _) _; first | (refine o_y (y_nil_ptr rfl) rfl ?_)) | (show AOps _ _ _ _ (⟨some _, .assign _, _, _, _, none⟩ :: _) _; first | (refine o_y (v_assign (v := .ptr _ _) rfl) rfl ?_)) | (show AOps _ _ _ _ (⟨some _, .binOp .add _ _ _ _, _, _, _, none⟩ :: _) _; first | (refine o_y (z_add rfl rfl (by omega) (by omega)) rfl ?_) | (refine o_y (y_bin rfl rfl rfl) rfl ?_)) | (show AOps _ _ _ _ (⟨some _, .binOp _ _ _ _ _, _, _, _, none⟩ :: _) _; first | (refine o_y (y_bin rfl rfl rfl) rfl ?_) | (refine o_y (y_neNil rfl rfl) rfl ?_)) | (show AOps _ _ _ _ (⟨some _, .pick _ _ _, _, _, _, none⟩ :: _) _; first | (refine o_y (v_pick_t (v := .sc _) rfl (by first | rfl | assumption | exact beq_self_eq_true _ | exact decide_eq_true rfl) rfl) rfl ?_) | (refine o_y (v_pick_f (v := .sc _) rfl (by first | rfl | assumption) rfl) rfl ?_)) | (show AOps _ _ _ _ (⟨some _, .unOp _ _ _, _, _, _, none⟩ :: _) _; first | (refine o_y (y_not rfl) rfl ?_)) | (show AOps _ _ _ _ (⟨some _, .lookup _ _ _ false, _, _, _, none⟩ :: _) _; first | (refine o_y (y_lookupV rfl (by first | rfl | (repeat (first | assumption | exact find_at _ _ _ | refine find_sk (by omega) ?_))) (by rfl) (by rfl) (by assumption)) rfl ?_)) | (show AOps _ _ _ _ (⟨some _, .index _ _ _, _, _, _, none⟩ :: _) _; first | (refine o_y (y_indexA rfl rfl (by omega) (by omega) (by assumption)) rfl ?_)) | (show AOps _ _ _ _ (⟨some _, .call ⟨.value (.tmp _), _, _⟩, _, _, _, none⟩ :: _) _; refine o_q (q_callVS rfl (sg) (⟨frzS_of ⟨_, (by first | rfl | (repeat (first | assumption | exact find_at _ _ _ | refine find_sk (by omega) ?_))), rfl, rfl⟩, hcap _⟩)) rfl ?_) | (show AOps _ _ _ _ (⟨_, _, _, _, _, some (_, _)⟩ :: _) _; first | (refine o_off rfl rfl rfl ?_) | (refine o_g_t rfl rfl rfl (by first | rfl | assumption | exact beq_self_eq_true _ | exact decide_eq_true rfl) ?_) | (refine o_g_f rfl rfl rfl (by first | rfl | assumption) ?_) | (refine o_if rfl rfl rfl (fun h hp => ?_) (fun h hp => ?_)) | (refine o_un rfl rfl rfl (fun h hp => ?_) (fun h hp => ?_)))) | (show IW _ _ _ _ _; first | (refine awp_seq ?_) | (refine awp_region ?_) | (refine awp_block ?_) | (refine awp_exit ?_) | (refine awp_skip ?_) | (refine awp_if_t rfl (by first | rfl | assumption | exact beq_self_eq_true _ | exact decide_eq_true rfl) ?_) | (refine awp_if_f rfl (by first | rfl | assumption) ?_) | (refine awp_if rfl (fun h hp => ?_) (fun h hp => ?_))) | (show thenQ _ _ _ _; first | (refine k_n ?_) | (refine k_x ?_)) | (show blockQ _ _ _ _; first | (refine k_n' ?_) | (refine b_hit rfl ?_)))
        all_goals try (exfalso; omega)
        all_goals try exact iw_atA (ihi (i + 1, N', ag) ⟨hlt16, g2, g3, hskip (by first | exact .inl (by simpa using ‹(!gn N' e.id) = false›) | exact .inr ⟨by assumption, by assumption⟩), g5⟩ (by dsimp only; omega)) rfl ⟨rfl, rfl, rfl, rfl, rfl, rfl, trivial⟩ (hpEq_refl _)
        all_goals
          obtain ⟨m1, m2, m3⟩ := hmark (by simp [*, -hid]) (by simp [*, -hid])
          refine o_mapSet (b := true) rfl (find_at _ _ _) rfl (fun _ => rfl) (fun _ => rfl) (by rfl) (by rfl) ?_
          repeat' (first | (refine aops_nil ?_) | (show AOps _ _ _ _ _ _; first | (show AOps _ _ _ _ (⟨some _, .move _, _, _, _, none⟩ :: _) _; first | (refine o_y (v_move (v := .sc _) rfl) rfl ?_)) | (show AOps _ _ _ _ (⟨some _, .assign _, _, _, _, none⟩ :: _) _; first | (refine o_y (v_assign (v := .sc _) rfl) rfl ?_)) | (show AOps _ _ _ _ (⟨some _, .binOp .add _ _ _ _, _, _, _, none⟩ :: _) _; first | (refine o_y (z_add rfl rfl (by omega) (by omega)) rfl ?_))) | (show IW _ _ _ _ _; first | (refine awp_region ?_)) | (show thenQ _ _ _ _; first | (refine k_n ?_)))
          exact iw_atA (ihi (i + 1, aput N' e.id true, true) ⟨hlt16, m1, m2, (fun h => nomatch h), fun _ => m3⟩ (by dsimp only; omega)) rfl ⟨rfl, rfl, rfl, rfl, rfl, rfl, trivial⟩ hpEq_dup
    · obtain rfl : i = 16 := by omega
      repeat' (first | (refine aops_nil ?_) | (show AOps _ _ _ _ _ _; first | (show AOps _ _ _ _ (⟨some _, .binOp _ _ _ _ _, _, _, _, none⟩ :: _) _; first | (refine o_y (y_bin rfl rfl rfl) rfl ?_))) | (show IW _ _ _ _ _; first | (refine awp_seq ?_) | (refine awp_region ?_) | (refine awp_exit ?_) | (refine awp_if_f rfl (by first | rfl | assumption) ?_)) | (show thenQ _ _ _ _; first | (refine k_n ?_) | (refine k_x ?_)) | (show blockQ _ _ _ _; first | (refine k_n' ?_) | (refine b_hit rfl ?_)))
      all_goals first
        | (exfalso; omega)
        | skip
      refine iw_atA (ih (N', ag) ⟨g2, fun ha => ?_⟩ ?_) rfl ⟨rfl, rfl, rfl, rfl, trivial⟩ (hpEq_refl _)
      · dsimp only at ha ⊢
        rw [(g4 ha).1]; exact (g4 ha).2
      · dsimp only
        cases ag with
        | true => have := g5 rfl; simp; omega
        | false => rw [(g4 rfl).1]; simp
  | false =>
    have hcl' := hcl rfl
    clear ih hcl
    obtain ⟨G, hG⟩ : ∃ G : Nat → Bool, G = fun j => match T j with | some e => gn N e.id | none => false := ⟨_, rfl⟩
    have hGn : ∀ j e, T j = some e → G j = gn N e.id := fun j e h => by rw [hG]; simp only [h]
    have hR : ∀ j, j < 16 → (G j = true ↔ Rch T g j) := fun j hj => by
      constructor
      · intro h
        cases hT : T j with
        | none => rw [hG] at h; simp only [hT] at h; cases h
        | some e =>
          rw [hGn j e hT] at h
          have := (hs _ h).2.2
          rwa [hok j e hj hT, show (((j : Nat) : Int) + 1 - 1).toNat = j by omega] at this
      · intro h
        obtain ⟨e, hT⟩ := h.some
        rw [hGn j e hT]
        exact marked hok hs hcl' j h e hT
    clear hG
    repeat' (first | (refine aops_nil ?_) | (show AOps _ _ _ _ _ _; first | (show AOps _ _ _ _ (⟨some _, .move _, _, _, _, none⟩ :: _) _; first | (refine o_y (v_move (v := .sc _) rfl) rfl ?_)) | (show AOps _ _ _ _ (⟨some _, .assign _, _, _, _, none⟩ :: _) _; first | (refine o_y (v_assign (v := .sc _) rfl) rfl ?_))) | (show IW _ _ [.code (.seq _ _)] _ _; first | (show AWP _ _ (.seq (.seq _ _) _) _ _; refine awp_seq ?_) | (show AWP _ _ (.seq (.region 3 _ _) _) _ _; refine awp_seq ?_) | (show AWP _ _ (.seq (.region 11 _ _) _) _ _; refine awp_seq ?_)) | (show IW _ _ _ _ _; first | (refine awp_region ?_) | (refine awp_exit ?_) | (refine awp_if_f rfl (by first | rfl | assumption) ?_)))
    refine iw_nil 9 1 3 rfl ?_
    repeat' (first | (refine aops_nil ?_) | (show AOps _ _ _ _ _ _; first | (show AOps _ _ _ _ (⟨some _, .load 74 _, _, _, _, none⟩ :: _) _; first | (refine o_y (y_loadW rfl (by first | rfl | (repeat (first | assumption | exact find_at _ _ _ | refine find_sk (by omega) ?_))) (tcs_length T P)) rfl ?_)) | (show AOps _ _ _ _ (⟨some _, .move _, _, _, _, none⟩ :: _) _; first | (refine o_y (v_move (v := .sc _) rfl) rfl ?_) | (refine o_y (v_move (v := .ptr _ _) rfl) rfl ?_)) | (show AOps _ _ _ _ (⟨some _, .fieldAddr _ _ _, _, _, _, none⟩ :: _) _; first | (refine o_y (y_fld_ptr rfl rfl) rfl ?_)) | (show AOps _ _ _ _ (⟨some _, .nilCheck _, _, _, _, none⟩ :: _) _; first | (refine o_y (y_nil_ptr rfl) rfl ?_))) | (show IW _ _ [.code (.seq _ _)] _ _; first | (show AWP _ _ (.seq (.region _ _ _) _) _ _; refine awp_seq ?_)) | (show IW _ _ _ _ _; first | (refine awp_region ?_) | (refine awp_block ?_)))
    refine awp_loopA (fun x : Nat × Nat × List (Nat × Option Blk) × Nat => x.1 ≤ 16 ∧ n < x.2.2.2 ∧ x.2.2.2 < x.2.1 ∧ find t x.2.2.1 = some ⟨tcs (delI T G x.1) P, 16, 76⟩ ∧ find n x.2.2.1 = some ⟨mB N, 0, 0⟩ ∧ find x.2.2.2 x.2.2.1 = some ⟨nums (dids T G x.1), 1, 3⟩ ∧ ∀ id, id < n → id ≠ t → find id x.2.2.1 = find id bs) (fun x => 16 - x.1) (fun x => [(0, .ptr t 0), (5, .mp n), (9, .sl x.2.2.2 0 (dids T G x.1).length), (59, .agg (tcs T P)), (60, .sc (.int .i64 x.1))]) (fun x => ⟨x.2.1, x.2.2.1⟩) (0, n + 1 + 1, (n + 1, some ⟨[], 1, 3⟩) :: (n, some ⟨mB N, 0, 0⟩) :: bs, n + 1) rfl ⟨Nat.zero_le _, Nat.lt_succ_self _, Nat.lt_succ_self _, find_sk (by omega) (find_sk (by omega) (by rw [delI0]; exact htb)), find_sk (by omega) (find_at _ _ _), find_at _ _ _, fun id h1 h2 => find_sk (by omega) (find_sk (by omega) rfl)⟩ ⟨rfl, rfl, rfl, rfl, rfl, trivial⟩ (hpEq_refl _) ?_
    rintro ⟨i, m, cs, k⟩ ⟨g1, g2, g3, g4, g5, g6, g7⟩ ihi
    dsimp only at g1 g2 g3 g4 g5 g6 g7 ihi ⊢
    have hle := dids_le T G i
    by_cases hlt16 : i < 16
    · cases hTi : T i with
      | none =>
        have v0 : (tcs T P)[(i : Int).toNat]? = some (.sc (.pointer none)) := tcs_none hlt16 (by omega) hTi
        have e1 : dids T G (i + 1) = dids T G i := by simp [dids, hTi]
        have e2 : delI T G (i + 1) = delI T G i := delI_skip (.inl hTi)
        have go := ihi (i + 1, m, cs, k) ⟨hlt16, g2, g3, by rw [e2]; exact g4, g5, by rw [e1]; exact g6, g7⟩ (by dsimp only; omega)
        dsimp only at go
        rw [e1] at go
        repeat' (first | (refine aops_nil ?_) | (show AOps _ _ _ _ _ _; first | (show AOps _ _ _ _ (⟨some _, .move _, _, _, _, none⟩ :: _) _; first | (refine o_y (v_move (v := .sc _) rfl) rfl ?_) | (refine o_y (v_move (v := .sl _ _ _) rfl) rfl ?_)) | (show AOps _ _ _ _ (⟨some _, .assign _, _, _, _, none⟩ :: _) _; first | (refine o_y (v_assign (v := .sc _) rfl) rfl ?_) | (refine o_y (v_assign (v := .sl _ _ _) rfl) rfl ?_)) | (show AOps _ _ _ _ (⟨some _, .binOp .add _ _ _ _, _, _, _, none⟩ :: _) _; first | (refine o_y (z_add rfl rfl (by omega) (by omega)) rfl ?_) | (refine o_y (y_bin rfl rfl rfl) rfl ?_)) | (show AOps _ _ _ _ (⟨some _, .binOp _ _ _ _ _, _, _, _, none⟩ :: _) _; first | (refine o_y (y_bin rfl rfl rfl) rfl ?_) | (refine o_y (y_neNil0 rfl rfl) rfl ?_)) | (show AOps _ _ _ _ (⟨some _, .pick _ _ _, _, _, _, none⟩ :: _) _; first | (refine o_y (v_pick_f (v := .sc _) rfl (by first | rfl | assumption) rfl) rfl ?_)) | (show AOps _ _ _ _ (⟨some _, .index _ _ _, _, _, _, none⟩ :: _) _; first | (refine o_y (y_indexA rfl rfl (by omega) (by omega) (by assumption)) rfl ?_)) | (show AOps _ _ _ _ (⟨_, _, _, _, _, some (_, _)⟩ :: _) _; first | (refine o_g_f rfl rfl rfl (by first | rfl | assumption) ?_))) | (show IW _ _ _ _ _; first | (refine awp_seq ?_) | (refine awp_region ?_) | (refine awp_block ?_) | (refine awp_exit ?_) | (refine awp_ret ?_) | (refine awp_skip ?_) | (refine awp_if_f rfl (by first | rfl | assumption) ?_) | (refine awp_if rfl (fun h hp => ?_) (fun h hp => ?_))) | (show thenQ _ _ _ _; first | (refine k_n ?_)))
        all_goals first
          | (exfalso; omega)
          | exact iw_atA go rfl ⟨rfl, rfl, rfl, rfl, rfl, trivial⟩ (hpEq_refl _)
      | some e =>
        have v0 : (tcs T P)[(i : Int).toNat]? = some (.ptr (P i) 0) := tcs_some hlt16 (by omega) hTi
        have q1 := hPn i e hlt16 hTi
        have q2 : find (P i) cs = some ⟨e.cs, 16, 79⟩ := (g7 _ q1 (hPt i e hlt16 hTi)).trans (hPb i e hlt16 hTi)
        have hv1 := gn_val N e.id
        have hGi := hGn i e hTi
        cases hGv : G i with
        | false =>
          rw [← hGi, hGv] at hv1
          have e1 : dids T G (i + 1) = dids T G i := by simp [dids, hTi, hGv]
          have e2 : delI T G (i + 1) = delI T G i := delI_skip (.inr hGv)
          have go := ihi (i + 1, m, cs, k) ⟨hlt16, g2, g3, by rw [e2]; exact g4, g5, by rw [e1]; exact g6, g7⟩ (by dsimp only; omega)
          dsimp only at go
          rw [e1] at go
          repeat' (first | (refine aops_nil ?_) | (show AOps _ _ _ _ _ _; first | (show AOps _ _ _ _ (⟨some _, .move _, _, _, _, none⟩ :: _) _; first | (refine o_y (v_move (v := .sc _) rfl) rfl ?_) | (refine o_y (v_move (v := .ptr _ _) rfl) rfl ?_) | (refine o_y (v_move (v := .sl _ _ _) rfl) rfl ?_) | (refine o_y (v_move (v := .mp _) rfl) rfl ?_)) | (show AOps _ _ _ _ (⟨some _, .load _ _, _, _, _, none⟩ :: _) _; first | (refine o_y (y_load1 (v := .sc _) rfl (by first | rfl | (repeat (first | assumption | exact find_at _ _ _ | refine find_sk (by omega) ?_))) (by rfl)) rfl ?_)) | (show AOps _ _ _ _ (⟨some _, .fieldAddr _ _ _, _, _, _, none⟩ :: _) _; first | (refine o_y (y_fld_ptr rfl rfl) rfl ?_)) | (show AOps _ _ _ _ (⟨some _, .nilCheck _, _, _, _, none⟩ :: _) _; first | (refine o_y (y_nil_ptr rfl) rfl ?_)) | (show AOps _ _ _ _ (⟨some _, .assign _, _, _, _, none⟩ :: _) _; first | (refine o_y (v_assign (v := .sc _) rfl) rfl ?_) | (refine o_y (v_assign (v := .ptr _ _) rfl) rfl ?_) | (refine o_y (v_assign (v := .sl _ _ _) rfl) rfl ?_)) | (show AOps _ _ _ _ (⟨some _, .binOp .add _ _ _ _, _, _, _, none⟩ :: _) _; first | (refine o_y (z_add rfl rfl (by omega) (by omega)) rfl ?_) | (refine o_y (y_bin rfl rfl rfl) rfl ?_)) | (show AOps _ _ _ _ (⟨some _, .binOp _ _ _ _ _, _, _, _, none⟩ :: _) _; first | (refine o_y (y_bin rfl rfl rfl) rfl ?_) | (refine o_y (y_neNil rfl rfl) rfl ?_)) | (show AOps _ _ _ _ (⟨some _, .pick _ _ _, _, _, _, none⟩ :: _) _; first | (refine o_y (v_pick_t (v := .sc _) rfl (by first | rfl | assumption | exact beq_self_eq_true _ | exact decide_eq_true rfl) rfl) rfl ?_)) | (show AOps _ _ _ _ (⟨some _, .lookup _ _ _ false, _, _, _, none⟩ :: _) _; first | (refine o_y (y_lookupV rfl (by first | rfl | (repeat (first | assumption | exact find_at _ _ _ | refine find_sk (by omega) ?_))) (by rfl) (by rfl) (by assumption)) rfl ?_)) | (show AOps _ _ _ _ (⟨some _, .index _ _ _, _, _, _, none⟩ :: _) _; first | (refine o_y (y_indexA rfl rfl (by omega) (by omega) (by assumption)) rfl ?_)) | (show AOps _ _ _ _ (⟨_, _, _, _, _, some (_, _)⟩ :: _) _; first | (refine o_g_t rfl rfl rfl (by first | rfl | assumption | exact beq_self_eq_true _ | exact decide_eq_true rfl) ?_))) | (show IW _ _ _ _ _; first | (refine awp_seq ?_) | (refine awp_region ?_) | (refine awp_block ?_) | (refine awp_exit ?_) | (refine awp_ret ?_) | (refine awp_skip ?_) | (refine awp_if_f rfl (by first | rfl | assumption) ?_) | (refine awp_if rfl (fun h hp => ?_) (fun h hp => ?_))) | (show thenQ _ _ _ _; first | (refine k_n ?_)))
          all_goals first
            | (exfalso; omega)
            | exact iw_atA go rfl ⟨rfl, rfl, rfl, rfl, rfl, trivial⟩ (hpEq_refl _)
        | true =>
          rw [← hGi, hGv] at hv1
          have e1 : dids T G (i + 1) = dids T G i ++ [e.id] := by simp [dids, hTi, hGv]
          have e2 : delI T G (i + 1) = upd1 (delI T G i) i none := delI_hit hGv
          have hl0 : 0 + 0 + (i : Int).toNat * 1 < (tcs (delI T G i) P).length := by rw [tcs_length]; omega
          have hdel := tcs_del (T := delI T G i) (P := P) (i := i) (k := 0 + 0 + (i : Int).toNat * 1) hlt16 (by omega)
          have hL : (nums (dids T G i)).length = (dids T G i).length * 1 := nums_len1 _
          repeat' (first | (refine aops_nil ?_) | (show AOps _ _ _ _ _ _; first | (show AOps _ _ _ _ (⟨some _, .move _, _, _, _, none⟩ :: _) _; first | (refine o_y (v_move (v := .sc _) rfl) rfl ?_) | (refine o_y (v_move (v := .ptr _ _) rfl) rfl ?_) | (refine o_y (v_move (v := .sl _ _ _) rfl) rfl ?_) | (refine o_y (v_move (v := .mp _) rfl) rfl ?_)) | (show AOps _ _ _ _ (⟨some _, .load _ _, _, _, _, none⟩ :: _) _; first | (refine o_y (y_load1 (v := .sc _) rfl (by first | rfl | (repeat (first | assumption | exact find_at _ _ _ | refine find_sk (by omega) ?_))) (by rfl)) rfl ?_)) | (show AOps _ _ _ _ (⟨some _, .fieldAddr _ _ _, _, _, _, none⟩ :: _) _; first | (refine o_y (y_fld_ptr rfl rfl) rfl ?_)) | (show AOps _ _ _ _ (⟨some _, .nilCheck _, _, _, _, none⟩ :: _) _; first | (refine o_y (y_nil_ptr rfl) rfl ?_)) | (show AOps _ _ _ _ (⟨some _, .assign _, _, _, _, none⟩ :: _) _; first | (refine o_y (v_assign (v := .sc _) rfl) rfl ?_) | (refine o_y (v_assign (v := .ptr _ _) rfl) rfl ?_) | (refine o_y (v_assign (v := .sl _ _ _) rfl) rfl ?_)) | (show AOps _ _ _ _ (⟨some _, .binOp .add _ _ _ _, _, _, _, none⟩ :: _) _; first | (refine o_y (z_add rfl rfl (by omega) (by omega)) rfl ?_) | (refine o_y (y_bin rfl rfl rfl) rfl ?_)) | (show AOps _ _ _ _ (⟨some _, .binOp _ _ _ _ _, _, _, _, none⟩ :: _) _; first | (refine o_y (y_bin rfl rfl rfl) rfl ?_) | (refine o_y (y_neNil rfl rfl) rfl ?_)) | (show AOps _ _ _ _ (⟨some _, .pick _ _ _, _, _, _, none⟩ :: _) _; first | (refine o_y (v_pick_t (v := .sc _) rfl (by first | rfl | assumption | exact beq_self_eq_true _ | exact decide_eq_true rfl) rfl) rfl ?_)) | (show AOps _ _ _ _ (⟨some _, .lookup _ _ _ false, _, _, _, none⟩ :: _) _; first | (refine o_y (y_lookupV rfl (by first | rfl | (repeat (first | assumption | exact find_at _ _ _ | refine find_sk (by omega) ?_))) (by rfl) (by rfl) (by assumption)) rfl ?_)) | (show AOps _ _ _ _ (⟨some _, .index _ _ _, _, _, _, none⟩ :: _) _; first | (refine o_y (y_indexA rfl rfl (by omega) (by omega) (by assumption)) rfl ?_)) | (show AOps _ _ _ _ (⟨some _, .indexAddr _ _ _, _, _, _, none⟩ :: _) _; first | (refine o_y (y_ix_arr rfl rfl (by omega) (by omega)) rfl ?_)) | (show AOps _ _ _ _ (⟨_, .store _ _ _, _, _, _, none⟩ :: _) _; first | (refine o_x (s_storeP rfl rfl (by first | rfl | (repeat (first | assumption | exact find_at _ _ _ | refine find_sk (by omega) ?_))) rfl hl0 hdel ?_))) | (show AOps _ _ _ _ (⟨_, .buildSlice _ _ _, _, _, _, none⟩ :: _) _; first | (refine o_x (x_buildSlice (cs := [.sc _]) (by rfl) (by rfl) (by rfl) (by rfl) (by rfl) (by rfl) rfl ?_))) | (show AOps _ _ _ _ (⟨_, .call ⟨.builtin .append, _, _⟩, _, _, _, none⟩ :: _) _; first | (refine o_x (x_append (X := .sl _ _ _) rfl rfl (by first | rfl | (repeat (first | assumption | exact find_at _ _ _ | refine find_sk (by omega) ?_))) (by first | rfl | assumption | exact prs_length _ | exact strs_len1 _ | exact byts_len1 _ | exact nums_len1 _ | (simp only [byts_length, strs_length, ints_length, prs_length, List.length_append, List.length_cons, List.length_nil]; omega)) (src_sl (by first | rfl | (repeat (first | assumption | exact find_at _ _ _ | refine find_sk (by omega) ?_))) (by first | exact Nat.le_of_ble_eq_true rfl | (simp only [strs_length, byts_length]; omega)) (by first | exact take_strs _ | exact take_byts _ | rfl | exact take_bytsE _ _ (by simp only [byts_length, ints_length, List.length_append, List.length_cons, List.length_nil]; omega) | exact take_strsE _ _ (by simp only [strs_length, List.length_append, List.length_cons, List.length_nil]; omega) | (simp; done)) (by first | rfl | exact strs_one _ | exact byts_one _ | exact prs_one _)) (by rfl) (by rfl) (by omega) (by omega) (by first | exact prs_snoc _ _ _ | exact strs_snoc _ _ | exact byts_snoc _ _ | exact nums_snoc _ _ | exact strs_append _ _ | exact byts_append _ _ | exact byts_snoc [] _ | exact strs_snoc [] _ | exact byts_append [] _ | exact strs_append [] _ | exact byts_append _ [_, _] | rfl) (by first | exact Nat.zero_add _ | rfl) ?_))) | (show AOps _ _ _ _ (⟨_, _, _, _, _, some (_, _)⟩ :: _) _; first | (refine o_g_t rfl rfl rfl (by first | rfl | assumption | exact beq_self_eq_true _ | exact decide_eq_true rfl) ?_))) | (show IW _ _ _ _ _; first | (refine awp_seq ?_) | (refine awp_region ?_) | (refine awp_block ?_) | (refine awp_exit ?_) | (refine awp_ret ?_) | (refine awp_skip ?_) | (refine awp_if_t rfl (by first | rfl | assumption | exact beq_self_eq_true _ | exact decide_eq_true rfl) ?_) | (refine awp_if rfl (fun h hp => ?_) (fun h hp => ?_))) | (show thenQ _ _ _ _; first | (refine k_n ?_)))
          all_goals try (exfalso; omega)
          refine iw_atA (ihi (i + 1, m + 1 + 1, _, m + 1) ⟨hlt16, by dsimp only; omega, by dsimp only; omega, ?_, ?_, ?_, fun id h1 h2 => ?_⟩ (by dsimp only; omega)) rfl ⟨rfl, rfl, ?_, rfl, rfl, trivial⟩ (hpEq_refl _)
          · dsimp only; rw [e2]; exact find_at _ _ _
          · exact find_sk (by omega) (find_sk (by omega) (find_sk (by omega) (find_sk (by omega) g5)))
          · dsimp only; rw [e1]; exact find_sk (by omega) (find_at _ _ _)
          · exact find_sk (Ne.symm h2) (find_sk (by omega) (find_sk (by omega) (find_sk (by omega) (g7 id h1 h2))))
          · dsimp only; rw [e1, List.length_append]; rfl
    · obtain rfl : i = 16 := by omega
      repeat' (first | (refine aops_nil ?_) | (show AOps _ _ _ _ _ _; first | (show AOps _ _ _ _ (⟨some _, .move _, _, _, _, none⟩ :: _) _; first | (refine o_y (v_move (v := .sl _ _ _) rfl) rfl ?_)) | (show AOps _ _ _ _ (⟨some _, .assign _, _, _, _, none⟩ :: _) _; first | (refine o_y (v_assign (v := .sl _ _ _) rfl) rfl ?_)) | (show AOps _ _ _ _ (⟨some _, .binOp _ _ _ _ _, _, _, _, none⟩ :: _) _; first | (refine o_y (y_bin rfl rfl rfl) rfl ?_))) | (show IW _ _ _ _ _; first | (refine awp_seq ?_) | (refine awp_region ?_) | (refine awp_exit ?_) | (refine awp_ret ?_) | (refine awp_if_f rfl (by first | rfl | assumption) ?_)))
      refine retA1 ⟨G, hR, ⟨by show n ≤ m; omega, fun id h1 h2 => g7 id h1 h2⟩, ⟨?_, by show t < m; omega, fun j e hj hT => ?_, fun a b e e' ha hb hTa hTb => ?_⟩, k, by show n ≤ k; omega, g3, rfl, g6⟩
      · rw [show tcs (delT T G) P = tcs (delI T G 16) P from tcs_congr fun j hj => (delI16 hj).symm]
        exact g4
      · have hT' : T j = some e := by unfold delT at hT; split at hT; cases hT; exact hT
        exact ⟨(g7 _ (hPn j e hj hT') (hPt j e hj hT')).trans (hPb j e hj hT'), hPt j e hj hT', by have := hPn j e hj hT'; show P j < m; omega⟩
      · have h1 : T a = some e := by unfold delT at hTa; split at hTa; cases hTa; exact hTa
        have h2 : T b = some e' := by unfold delT at hTb; split at hTb; cases hTb; exact hTb
        exact hT0.inj a b e e' ha hb h1 h2
end Go.Proofs.Ytcidoghpacihpaa.Sx
namespace Go.Proofs.Ytcidoghpacihpaa.Sx
open Go Go.RowKit
attribute [local irreducible] IW AOps AQuiet GQ GY AExec QY Yld ACalls ACallsD
attribute [local irreducible] tvs tcs
def gD (id : Int) (e : Ro) : Bool := decide (e.id = id)
def gX (now : Int) (e : Ro) : Bool := !decide (e.ends = 0) && decide (e.ends ≤ now)
theorem drop1_spec (e : Ro) (id : Int) : ACalls Try.prog 47 [.vptr e.cs 0, .vptr [.sc (.int .i64 id)] 0] ⟨0, []⟩ (fun r _ => r = .sc (.bool (gD id e))) := by
  refine enter2 Try.func47 rfl 11 0 [.tmp 3] rfl rfl rfl ?_
  repeat' (first | (show AWP _ _ (.region 1 _ true) _ _; refine awp_draw 8 (by kernel_rfl) ?_) | (refine aops_nil ?_) | (show AOps _ _ _ _ _ _; first | (show AOps _ _ _ _ (⟨some _, .assign _, _, _, _, none⟩ :: _) _; first | (refine o_y (v_assign (v := .sc _) rfl) rfl ?_))) | (refine aq_nil ?_) | (show AQuiet _ _ _ _ _ _; first | (show AQuiet _ _ _ (⟨some _, .move _, _, _, _, none⟩ :: _) _ _; first | (refine q_y (v_move (v := .vptr _ _) rfl) rfl ?_)) | (show AQuiet _ _ _ (⟨some _, .load _ _, _, _, _, none⟩ :: _) _ _; first | (refine q_y (y_vload1 (v := .sc _) rfl rfl) rfl ?_)) | (show AQuiet _ _ _ (⟨some _, .fieldAddr _ _ _, _, _, _, none⟩ :: _) _ _; first | (refine q_y (y_fld_vptr rfl rfl) rfl ?_)) | (show AQuiet _ _ _ (⟨some _, .nilCheck _, _, _, _, none⟩ :: _) _ _; first | (refine q_y (y_nil_vptr rfl) rfl ?_)) | (show AQuiet _ _ _ (⟨some _, .assign _, _, _, _, none⟩ :: _) _ _; first | (refine q_y (v_assign (v := .sc _) rfl) rfl ?_)) | (show AQuiet _ _ _ (⟨some _, .binOp _ _ _ _ _, _, _, _, none⟩ :: _) _ _; first | (refine q_y (y_bin rfl rfl rfl) rfl ?_))) | (show IW _ _ _ _ _; first | (refine awp_seq ?_) | (refine awp_region ?_) | (refine awp_ret ?_)))
  all_goals exact ret1 [] (by decide) rfl (congrArg (fun b => AV.sc (.bool b)) (by first | rfl | (rw [Bool.eq_iff_iff]; simp only [gD, decide_eq_true_eq, beq_iff_eq, bne_iff_ne, ne_eq, Bool.and_eq_true, Bool.or_eq_true, Bool.not_eq_true', decide_eq_false_iff_not, beq_eq_false_iff_ne, bne_eq_false_iff_eq, Bool.not_eq_true, Bool.false_eq_true, false_iff, true_iff, iff_true, iff_false, and_true, true_and, false_and, and_false, or_true, true_or, or_false, false_or, not_true_eq_false, not_false_eq_true, reduceCtorEq, not_and, not_or, not_not]; first | omega | (constructor <;> intro hh <;> omega)) | (simp [gD, *]; done) | (rw [Bool.eq_iff_iff]; simp [gD, *]; done)))
theorem expire1_spec (e : Ro) (now : Int) : ACalls Try.prog 27 [.vptr e.cs 0, .vptr [.sc (.int .i64 now)] 0] ⟨0, []⟩ (fun r _ => r = .sc (.bool (gX now e))) := by
  refine enter2 Try.func27 rfl 19 0 [.tmp 3] rfl rfl rfl ?_
  repeat' (first | (show AWP _ _ (.region 1 _ true) _ _; refine awp_draw 16 (by kernel_rfl) ?_) | (refine aops_nil ?_) | (show AOps _ _ _ _ _ _; first | (show AOps _ _ _ _ (⟨some _, .assign _, _, _, _, none⟩ :: _) _; first | (refine o_y (v_assign (v := .sc _) rfl) rfl ?_))) | (refine aq_nil ?_) | (show AQuiet _ _ _ _ _ _; first | (show AQuiet _ _ _ (⟨some _, .move _, _, _, _, none⟩ :: _) _ _; first | (refine q_y (v_move (v := .sc _) rfl) rfl ?_) | (refine q_y (v_move (v := .vptr _ _) rfl) rfl ?_)) | (show AQuiet _ _ _ (⟨some _, .load _ _, _, _, _, none⟩ :: _) _ _; first | (refine q_y (y_vload1 (v := .sc _) rfl rfl) rfl ?_)) | (show AQuiet _ _ _ (⟨some _, .fieldAddr _ _ _, _, _, _, none⟩ :: _) _ _; first | (refine q_y (y_fld_vptr rfl rfl) rfl ?_)) | (show AQuiet _ _ _ (⟨some _, .nilCheck _, _, _, _, none⟩ :: _) _ _; first | (refine q_y (y_nil_vptr rfl) rfl ?_)) | (show AQuiet _ _ _ (⟨some _, .assign _, _, _, _, none⟩ :: _) _ _; first | (refine q_y (v_assign (v := .sc _) rfl) rfl ?_)) | (show AQuiet _ _ _ (⟨some _, .binOp _ _ _ _ _, _, _, _, none⟩ :: _) _ _; first | (refine q_y (y_bin rfl rfl rfl) rfl ?_)) | (show AQuiet _ _ _ (⟨some _, .pick _ _ _, _, _, _, none⟩ :: _) _ _; first | (refine q_y (v_pick_t (v := .sc _) rfl (by first | rfl | assumption | exact beq_self_eq_true _ | exact decide_eq_true rfl) rfl) rfl ?_) | (refine q_y (v_pick_f (v := .sc _) rfl (by first | rfl | assumption) rfl) rfl ?_)) | (show AQuiet _ _ _ (⟨_, _, _, _, _, some (_, _)⟩ :: _) _ _; first | (refine q_g_t rfl rfl rfl (by first | rfl | assumption | exact beq_self_eq_true _ | exact decide_eq_true rfl) ?_) | (refine q_g_f rfl rfl rfl (by first | rfl | assumption) ?_) | (refine q_if rfl rfl rfl (fun h hp => ?_) (fun h hp => ?_)))) | (show IW _ _ _ _ _; first | (refine awp_seq ?_) | (refine awp_region ?_) | (refine awp_ret ?_)))
  all_goals exact ret1 [] (by decide) rfl (congrArg (fun b => AV.sc (.bool b)) (by first | rfl | (rw [Bool.eq_iff_iff]; simp only [gX, decide_eq_true_eq, beq_iff_eq, bne_iff_ne, ne_eq, Bool.and_eq_true, Bool.or_eq_true, Bool.not_eq_true', decide_eq_false_iff_not, beq_eq_false_iff_ne, bne_eq_false_iff_eq, Bool.not_eq_true, Bool.false_eq_true, false_iff, true_iff, iff_true, iff_false, and_true, true_and, false_and, and_false, or_true, true_or, or_false, false_or, not_true_eq_false, not_false_eq_true, reduceCtorEq, not_and, not_or, not_not]; first | omega | (constructor <;> intro hh <;> omega)) | (simp [gX, *]; done) | (rw [Bool.eq_iff_iff]; simp [gX, *]; done)))
theorem cap1 (v : Value) (S : Hp) : FrzSL S [.vptr [.sc v] 0] [.vptr [.sc v] 0] := ⟨frzS_of rfl, trivial⟩
theorem pushed {t : Nat} {T : Tb} {P : Nat → Nat} {n : Nat} {bs : List (Nat × Option Blk)} (h : TH t T P ⟨n, bs⟩) (b c : Option Blk) : TH t T P ⟨n + 1, (n, b) :: (n, c) :: bs⟩ ∧ Fr ⟨n, bs⟩ ⟨n + 1, (n, b) :: (n, c) :: bs⟩ fun _ => False := by
  have hf : Fr ⟨n, bs⟩ ⟨n + 1, (n, b) :: (n, c) :: bs⟩ fun _ => False := ((Fr.refl _ _).push (k := n) (m := n + 1) (.inr (Nat.le_refl _)) (Nat.le_succ _)).push (k := n) (.inr (Nat.le_refl _)) (Nat.le_refl _)
  exact ⟨h.keep hf (by simp) (fun _ _ _ _ => by simp), hf⟩
theorem DropR.from {t : Nat} {T : Tb} {P : Nat → Nat} {S S1 : Hp} {g : Ro → Bool} {r : AV} {S' : Hp} (h : DropR t T P S1 g r S') (hf : Fr S S1 fun _ => False) : DropR t T P S g r S' := by
  obtain ⟨G, h1, h2, h3, k, h4, h5, h6, h7⟩ := h
  exact ⟨G, h1, ⟨Nat.le_trans hf.1 h2.1, fun i hi hx => (h2.2 i (Nat.lt_of_lt_of_le hi hf.1) hx).trans (hf.2 i hi (by simp))⟩, h3, k, Nat.le_trans hf.1 h4, h5, h6, h7⟩
theorem expire_spec {t : Nat} {T : Tb} {P : Nat → Nat} {S : Hp} (hT0 : TH t T P S) (hok : ok T) (now : Int) : ACalls Try.prog 13 [.ptr t 0, .sc (.int .i64 now)] S (DropR t T P S (gX now)) := by
  obtain ⟨n, bs⟩ := S
  refine enterA2 Try.func13 rfl 8 [.tmp 4] rfl rfl ?_
  repeat' (first | (refine aops_nil ?_) | (show AOps _ _ _ _ _ _; first | (show AOps _ _ _ _ (⟨some _, .assign _, _, _, _, none⟩ :: _) _; first | (refine o_y (v_assign (v := .sc _) rfl) rfl ?_)) | (show AOps _ _ _ _ (⟨_, .box _ _, _, _, _, none⟩ :: _) _; first | (refine o_x (b_sc rfl rfl rfl ?_)))) | (show IW _ _ [.code (.seq _ _)] _ _; first | (show AWP _ _ (.seq (.region 0 _ _) _) _ _; refine awp_seq ?_)) | (show IW _ _ _ _ _; first | (refine awp_region ?_)) | (show thenQ _ _ _ _; first | (refine k_n ?_)))
  refine iw_frzP 3 n rfl (find_at _ _ _) rfl ?_
  obtain ⟨h1, hf1⟩ := pushed hT0 none (some ⟨[.sc (.int .i64 now)], [AV.sc (.int .i64 now)].length, 3⟩)
  generalize (n, none) :: (n, some (Blk.mk [.sc (.int .i64 now)] [AV.sc (.int .i64 now)].length 3)) :: bs = bs1 at h1 hf1
  have sd := drop_spec h1 hok 27 [.vptr [.sc (.int .i64 now)] 0] (cap1 _) (gX now) (fun j e _ _ => expire1_spec e now)
  repeat' (first | (refine aops_nil ?_) | (show AOps _ _ _ _ _ _; first | (show AOps _ _ _ _ (⟨some _, .move _, _, _, _, none⟩ :: _) _; first | (refine o_y (v_move (v := .ptr _ _) rfl) rfl ?_)) | (show AOps _ _ _ _ (⟨some _, .assign _, _, _, _, none⟩ :: _) _; first | (refine o_y (v_assign (v := .sl _ _ _) rfl) rfl ?_)) | (show AOps _ _ _ _ (⟨some _, .makeFunc _ _ _, _, _, _, none⟩ :: _) _; first | (refine o_y (v_f1 (a := .vptr _ _) rfl) rfl ?_)) | (show AOps _ _ _ _ (⟨_, .call ⟨.value (.func 26), _, _⟩, _, _, _, none⟩ :: _) _; refine o_x (x_callA rfl (sd) ?_); rintro _ ⟨m, cs⟩ ⟨G, g1, g2, g3, k, g4, g5, rfl, g7⟩)) | (show IW _ _ _ _ _; first | (refine awp_seq ?_) | (refine awp_region ?_) | (refine awp_ret ?_)))
  refine retA1 ?_
  exact DropR.from (S1 := ⟨n + 1, bs1⟩) ⟨G, g1, g2, g3, k, g4, g5, rfl, g7⟩ hf1
def DropB (t : Nat) (T : Tb) (P : Nat → Nat) (S : Hp) (g : Ro → Bool) (r : AV) (S' : Hp) : Prop :=
  ∃ G : Nat → Bool, (∀ j, j < 16 → (G j = true ↔ Rch T g j)) ∧ Fr S S' (fun i => i = t) ∧ TH t (delT T G) P S' ∧ r = .sc (.bool (decide (0 < (dids T G 16).length)))
theorem dropB_spec {t : Nat} {T : Tb} {P : Nat → Nat} {S : Hp} (hT0 : TH t T P S) (hok : ok T) (id : Int) : ACalls Try.prog 21 [.ptr t 0, .sc (.int .i64 id)] S (DropB t T P S (gD id)) := by
  obtain ⟨n, bs⟩ := S
  refine enterA2 Try.func21 rfl 10 [.tmp 4] rfl rfl ?_
  repeat' (first | (refine aops_nil ?_) | (show AOps _ _ _ _ _ _; first | (show AOps _ _ _ _ (⟨some _, .assign _, _, _, _, none⟩ :: _) _; first | (refine o_y (v_assign (v := .sc _) rfl) rfl ?_)) | (show AOps _ _ _ _ (⟨_, .box _ _, _, _, _, none⟩ :: _) _; first | (refine o_x (b_sc rfl rfl rfl ?_)))) | (show IW _ _ [.code (.seq _ _)] _ _; first | (show AWP _ _ (.seq (.region 0 _ _) _) _ _; refine awp_seq ?_)) | (show IW _ _ _ _ _; first | (refine awp_region ?_)) | (show thenQ _ _ _ _; first | (refine k_n ?_)))
  refine iw_frzP 3 n rfl (find_at _ _ _) rfl ?_
  obtain ⟨h1, hf1⟩ := pushed hT0 none (some ⟨[.sc (.int .i64 id)], [AV.sc (.int .i64 id)].length, 3⟩)
  generalize (n, none) :: (n, some (Blk.mk [.sc (.int .i64 id)] [AV.sc (.int .i64 id)].length 3)) :: bs = bs1 at h1 hf1
  have sd := drop_spec h1 hok 47 [.vptr [.sc (.int .i64 id)] 0] (cap1 _) (gD id) (fun j e _ _ => drop1_spec e id)
  repeat' (first | (refine aops_nil ?_) | (show AOps _ _ _ _ _ _; first | (show AOps _ _ _ _ (⟨some _, .move _, _, _, _, none⟩ :: _) _; first | (refine o_y (v_move (v := .ptr _ _) rfl) rfl ?_)) | (show AOps _ _ _ _ (⟨some _, .assign _, _, _, _, none⟩ :: _) _; first | (refine o_y (v_assign (v := .sc _) rfl) rfl ?_)) | (show AOps _ _ _ _ (⟨some _, .binOp _ _ _ _ _, _, _, _, none⟩ :: _) _; first | (refine o_y (y_bin rfl rfl rfl) rfl ?_)) | (show AOps _ _ _ _ (⟨some _, .call ⟨.builtin .len, _, _⟩, _, _, _, none⟩ :: _) _; first | (refine o_y (y_lenL rfl) rfl ?_)) | (show AOps _ _ _ _ (⟨some _, .makeFunc _ _ _, _, _, _, none⟩ :: _) _; first | (refine o_y (v_f1 (a := .vptr _ _) rfl) rfl ?_)) | (show AOps _ _ _ _ (⟨_, .call ⟨.value (.func 26), _, _⟩, _, _, _, none⟩ :: _) _; refine o_x (x_callA rfl (sd) ?_); rintro _ ⟨m, cs⟩ ⟨G, g1, g2, g3, k, g4, g5, rfl, g7⟩)) | (show IW _ _ _ _ _; first | (refine awp_seq ?_) | (refine awp_region ?_) | (refine awp_ret ?_)))
  refine retA1 ⟨G, g1, ⟨Nat.le_trans hf1.1 g2.1, fun i hi hx => (g2.2 i (Nat.lt_of_lt_of_le hi hf1.1) hx).trans (hf1.2 i hi (by simp))⟩, g3, congrArg (fun b => AV.sc (.bool b)) (decide_eq_decide.2 ?_)⟩
  constructor <;> intro h <;> omega
def setT (T : Tb) (id : Int) (f : Ro → Ro) (j : Nat) : Option Ro := if 1 ≤ id ∧ id ≤ 16 ∧ j = (id - 1).toNat then (T j).map f else T j
/-- One slot is written anew. -/
def SetR (t : Nat) (T : Tb) (P : Nat → Nat) (S : Hp) (id : Int) (f : Ro → Ro) (S' : Hp) : Prop :=
  Fr S S' (fun i => ∃ j e, j < 16 ∧ T j = some e ∧ i = P j) ∧ TH t (setT T id f) P S'
theorem setR_no {t : Nat} {T : Tb} {P : Nat → Nat} {S : Hp} {id : Int} {f : Ro → Ro} (h : TH t T P S) (hf : ∀ e, get T id = some e → f e = e) : SetR t T P S id f S := by
  refine ⟨.refl _ _, ?_⟩
  have : setT T id f = T := by
    funext j
    unfold setT
    by_cases hj : 1 ≤ id ∧ id ≤ 16 ∧ j = (id - 1).toNat
    · rw [if_pos hj]
      cases hT : T j with
      | none => rfl
      | some e =>
        have : get T id = some e := by unfold get; rw [if_pos ⟨hj.1, hj.2.1⟩, ← hj.2.2]; exact hT
        rw [Option.map_some, hf e this]
    · rw [if_neg hj]
  rw [this]
  exact h
theorem setR_yes {t : Nat} {T : Tb} {P : Nat → Nat} {n : Nat} {bs bs' : List (Nat × Option Blk)} {id : Int} {f : Ro → Ro} {e : Ro} (h : TH t T P ⟨n, bs⟩) (hg : get T id = some e) (hb : find (P (id - 1).toNat) bs' = some ⟨(f e).cs, 16, 79⟩) (ho : ∀ i, i ≠ P (id - 1).toNat → find i bs' = find i bs) : SetR t T P ⟨n, bs⟩ id f ⟨n, bs'⟩ := by
  have hid : 1 ≤ id ∧ id ≤ 16 := by
    unfold get at hg
    split at hg
    · assumption
    · cases hg
  have hT : T (id - 1).toNat = some e := by unfold get at hg; rwa [if_pos hid] at hg
  have hj : (id - 1).toNat < 16 := by omega
  obtain ⟨k1, k2, k3⟩ := h.sl _ e hj hT
  refine ⟨⟨Nat.le_refl _, fun i hi hx => ho i fun e' => hx ⟨_, e, hj, hT, e'⟩⟩, ⟨?_, h.lt, fun j e' hj' hT' => ?_, fun a b x y ha hb' hTa hTb => ?_⟩⟩
  · rw [ho t (Ne.symm k2), h.tb]
    unfold tcs
    congr 2
    refine List.map_congr_left fun j hj' => ?_
    unfold sA setT
    by_cases hc : 1 ≤ id ∧ id ≤ 16 ∧ j = (id - 1).toNat
    · rw [if_pos hc]
      cases T j <;> rfl
    · rw [if_neg hc]
  · unfold setT at hT'
    by_cases hc : 1 ≤ id ∧ id ≤ 16 ∧ j = (id - 1).toNat
    · rw [if_pos hc] at hT'
      rw [hc.2.2] at hT' ⊢
      rw [hT] at hT'
      simp only [Option.map_some, Option.some.injEq] at hT'
      subst hT'
      exact ⟨hb, k2, k3⟩
    · rw [if_neg hc] at hT'
      obtain ⟨j1, j2, j3⟩ := h.sl j e' hj' hT'
      have hne : P j ≠ P (id - 1).toNat := fun e2 => hc ⟨hid.1, hid.2, h.inj j _ e' e hj' hj hT' hT e2⟩
      exact ⟨(ho _ hne).trans j1, j2, j3⟩
  · have hget : ∀ j x, setT T id f j = some x → ∃ y, T j = some y := fun j x hx => by
      unfold setT at hx
      split at hx
      · cases hTj : T j with
        | none => rw [hTj] at hx; cases hx
        | some y => exact ⟨y, rfl⟩
      · exact ⟨x, hx⟩
    obtain ⟨x', h1⟩ := hget a x hTa
    obtain ⟨y', h2⟩ := hget b y hTb
    exact h.inj a b x' y' ha hb' h1 h2
def hearF (now : Int) (e : Ro) : Ro := if e.ends ≠ 0 then ⟨e.id, e.a, e.par, later now, e.hops⟩ else e
theorem heard_spec {t : Nat} {T : Tb} {P : Nat → Nat} {S : Hp} (hT0 : TH t T P S) (id now : Int) (hn : -9223372036854775808 ≤ now) : ACalls Try.prog 36 [.ptr t 0, .sc (.int .i64 id), .sc (.int .i64 now)] S (fun r S' => r = .sc (.bool (get T id).isSome) ∧ SetR t T P S id (hearF now) S') := by
  obtain ⟨n, bs⟩ := S
  have sg := getA_spec hT0 id
  have htb := hT0.tb
  dsimp only at htb
  cases hg : get T id with
  | none =>
    rw [gA, hg] at sg
    refine enterA3 Try.func36 rfl 29 [.tmp 6] rfl rfl ?_
    repeat' (first | (refine aops_nil ?_) | (show AOps _ _ _ _ _ _; first | (show AOps _ _ _ _ (⟨some _, .move _, _, _, _, none⟩ :: _) _; first | (refine o_y (v_move (v := .sc _) rfl) rfl ?_) | (refine o_y (v_move (v := .ptr _ _) rfl) rfl ?_)) | (show AOps _ _ _ _ (⟨some _, .assign _, _, _, _, none⟩ :: _) _; first | (refine o_y (v_assign (v := .sc _) rfl) rfl ?_)) | (show AOps _ _ _ _ (⟨some _, .binOp _ _ _ _ _, _, _, _, none⟩ :: _) _; first | (refine o_y (y_neNil0 rfl rfl) rfl ?_)) | (show AOps _ _ _ _ (⟨some _, .pick _ _ _, _, _, _, none⟩ :: _) _; first | (refine o_y (v_pick_f (v := .sc _) rfl (by first | rfl | assumption) rfl) rfl ?_)) | (show AOps _ _ _ _ (⟨_, .call ⟨.value (.func 24), _, _⟩, _, _, _, none⟩ :: _) _; refine o_x (x_callA rfl (sg) ?_); rintro _ _ ⟨rfl, rfl⟩) | (show AOps _ _ _ _ (⟨_, _, _, _, _, some (_, _)⟩ :: _) _; first | (refine o_g_f rfl rfl rfl (by first | rfl | assumption) ?_))) | (show IW _ _ _ _ _; first | (refine awp_seq ?_) | (refine awp_region ?_) | (refine awp_ret ?_) | (refine awp_skip ?_) | (refine awp_if_f rfl (by first | rfl | assumption) ?_)))
    exact retA1 ⟨rfl, setR_no hT0 (fun e h => by rw [hg] at h; cases h)⟩
  | some e =>
    rw [gA, hg] at sg
    have hT : T (id - 1).toNat = some e := by unfold get at hg; split at hg; exact hg; cases hg
    have hj : (id - 1).toNat < 16 := by unfold get at hg; split at hg; omega; cases hg
    obtain ⟨k1, k2, k3⟩ := hT0.sl _ e hj hT
    dsimp only at k1 k3
    refine enterA3 Try.func36 rfl 29 [.tmp 6] rfl rfl ?_
    repeat' (first | (refine aops_nil ?_) | (show AOps _ _ _ _ _ _; first | (show AOps _ _ _ _ (⟨some _, .move _, _, _, _, none⟩ :: _) _; first | (refine o_y (v_move (v := .sc _) rfl) rfl ?_) | (refine o_y (v_move (v := .ptr _ _) rfl) rfl ?_)) | (show AOps _ _ _ _ (⟨some _, .load _ _, _, _, _, none⟩ :: _) _; first | (refine o_y (y_load1 (v := .sc _) rfl (by first | rfl | (repeat (first | assumption | exact find_at _ _ _ | refine find_sk (by omega) ?_))) (by rfl)) rfl ?_)) | (show AOps _ _ _ _ (⟨some _, .fieldAddr _ _ _, _, _, _, none⟩ :: _) _; first | (refine o_y (y_fld_ptr rfl rfl) rfl ?_)) | (show AOps _ _ _ _ (⟨some _, .nilCheck _, _, _, _, none⟩ :: _) _; first | (refine o_y (y_nil_ptr rfl) rfl ?_)) | (show AOps _ _ _ _ (⟨some _, .assign _, _, _, _, none⟩ :: _) _; first | (refine o_y (v_assign (v := .sc _) rfl) rfl ?_) | (refine o_y (v_assign (v := .ptr _ _) rfl) rfl ?_)) | (show AOps _ _ _ _ (⟨some _, .binOp _ _ _ _ _, _, _, _, none⟩ :: _) _; first | (refine o_y (y_bin rfl rfl rfl) rfl ?_) | (refine o_y (y_neNil rfl rfl) rfl ?_)) | (show AOps _ _ _ _ (⟨some _, .pick _ _ _, _, _, _, none⟩ :: _) _; first | (refine o_y (v_pick_t (v := .sc _) rfl (by first | rfl | assumption | exact beq_self_eq_true _ | exact decide_eq_true rfl) rfl) rfl ?_)) | (show AOps _ _ _ _ (⟨some _, .call ⟨.value (.func 25), _, _⟩, _, _, _, none⟩ :: _) _; first | (refine o_q (q_call (later_spec now hn)) rfl ?_)) | (show AOps _ _ _ _ (⟨_, .call ⟨.value (.func 24), _, _⟩, _, _, _, none⟩ :: _) _; refine o_x (x_callA rfl (sg) ?_); rintro _ _ ⟨rfl, rfl⟩) | (show AOps _ _ _ _ (⟨_, .store _ _ _, _, _, _, none⟩ :: _) _; first | (refine o_x (s_storeN (v := .sc _) rfl rfl (by first | rfl | (repeat (first | assumption | exact find_at _ _ _ | refine find_sk (by omega) ?_))) (by rfl) (by rfl) (by first | (simp only [List.set_cons_zero, List.set_cons_succ]; rfl) | rfl) ?_))) | (show AOps _ _ _ _ (⟨_, _, _, _, _, some (_, _)⟩ :: _) _; first | (refine o_g_t rfl rfl rfl (by first | rfl | assumption | exact beq_self_eq_true _ | exact decide_eq_true rfl) ?_))) | (show IW _ _ _ _ _; first | (refine awp_seq ?_) | (refine awp_region ?_) | (refine awp_ret ?_) | (refine awp_skip ?_) | (refine awp_if rfl (fun h hp => ?_) (fun h hp => ?_))))
    · refine retA1 ⟨rfl, setR_yes (f := hearF now) hT0 hg ?_ (fun i hi => find_sk (Ne.symm hi) rfl)⟩
      refine (find_at _ _ _).trans ?_
      unfold hearF
      rw [if_pos (by simpa using ‹(e.ends != 0) = true›)]
      rfl
    · refine retA1 ⟨rfl, setR_no hT0 fun e' he' => ?_⟩
      rw [hg] at he'; cases he'
      unfold hearF
      rw [if_neg (by simpa using ‹(e.ends != 0) = false›)]
def hopF (e : Ro) : Ro := ⟨e.id, e.a, e.par, e.ends, if e.hops + 1 > max e.a.ttl 1 then 1 else e.hops + 1⟩
def hopV (T : Tb) (id : Int) : AV := match get T id with | none => .tup [.sc (.int .i64 0), .sc (.bool false)] | some e => if e.a.kind = 5 then .tup [.sc (.int .i64 (hopF e).hops), .sc (.bool true)] else .tup [.sc (.int .i64 0), .sc (.bool false)]
def hopG (e : Ro) : Ro := if e.a.kind = 5 then hopF e else e
def hopsOk (T : Tb) : Prop := ∀ j e, j < 16 → T j = some e → 0 ≤ e.hops ∧ e.hops ≤ 9223372036854775806
theorem hops_spec {t : Nat} {T : Tb} {P : Nat → Nat} {S : Hp} (hT0 : TH t T P S) (hh : hopsOk T) (id : Int) : ACalls Try.prog 40 [.ptr t 0, .sc (.int .i64 id)] S (fun r S' => r = hopV T id ∧ SetR t T P S id hopG S') := by
  obtain ⟨n, bs⟩ := S
  have sg := getA_spec hT0 id
  have htb := hT0.tb
  dsimp only at htb
  cases hg : get T id with
  | none =>
    rw [gA, hg] at sg
    rw [hopV, hg]
    refine enterA2 Try.func40 rfl 47 [.tmp 4, .tmp 5] rfl rfl ?_
    repeat' (first | (refine aops_nil ?_) | (show AOps _ _ _ _ _ _; first | (show AOps _ _ _ _ (⟨some _, .move _, _, _, _, none⟩ :: _) _; first | (refine o_y (v_move (v := .sc _) rfl) rfl ?_) | (refine o_y (v_move (v := .ptr _ _) rfl) rfl ?_)) | (show AOps _ _ _ _ (⟨some _, .assign _, _, _, _, none⟩ :: _) _; first | (refine o_y (v_assign (v := .sc _) rfl) rfl ?_)) | (show AOps _ _ _ _ (⟨some _, .binOp _ _ _ _ _, _, _, _, none⟩ :: _) _; first | (refine o_y (y_eqNil0 rfl rfl) rfl ?_)) | (show AOps _ _ _ _ (⟨some _, .pick _ _ _, _, _, _, none⟩ :: _) _; first | (refine o_y (v_pick_t (v := .sc _) rfl (by first | rfl | assumption | exact beq_self_eq_true _ | exact decide_eq_true rfl) rfl) rfl ?_)) | (show AOps _ _ _ _ (⟨_, .call ⟨.value (.func 24), _, _⟩, _, _, _, none⟩ :: _) _; refine o_x (x_callA rfl (sg) ?_); rintro _ _ ⟨rfl, rfl⟩) | (show AOps _ _ _ _ (⟨_, _, _, _, _, some (_, _)⟩ :: _) _; first | (refine o_g_f rfl rfl rfl (by first | rfl | assumption) ?_))) | (show IW _ _ _ _ _; first | (refine awp_seq ?_) | (refine awp_region ?_) | (refine awp_ret ?_) | (refine awp_if_t rfl (by first | rfl | assumption | exact beq_self_eq_true _ | exact decide_eq_true rfl) ?_)) | (show thenQ _ _ _ _; first | (refine k_r ?_)))
    exact retA2 ⟨rfl, setR_no hT0 (fun e h => by rw [hg] at h; cases h)⟩
  | some e =>
    rw [gA, hg] at sg
    rw [hopV, hg]
    have hT : T (id - 1).toNat = some e := by unfold get at hg; split at hg; exact hg; cases hg
    have hj : (id - 1).toNat < 16 := by unfold get at hg; split at hg; omega; cases hg
    obtain ⟨k1, k2, k3⟩ := hT0.sl _ e hj hT
    have hhe := hh _ e hj hT
    dsimp only at k1 k3
    refine enterA2 Try.func40 rfl 47 [.tmp 4, .tmp 5] rfl rfl ?_
    repeat' (first | (show AWP _ _ (.region 5 _ true) _ _; refine awp_draw 12 (by kernel_rfl) ?_) | (refine aops_nil ?_) | (show AOps _ _ _ _ _ _; first | (show AOps _ _ _ _ (⟨some _, .move _, _, _, _, none⟩ :: _) _; first | (refine o_y (v_move (v := .sc _) rfl) rfl ?_) | (refine o_y (v_move (v := .ptr _ _) rfl) rfl ?_)) | (show AOps _ _ _ _ (⟨some _, .load _ _, _, _, _, none⟩ :: _) _; first | (refine o_y (y_load1 (v := .sc _) rfl (by first | rfl | (repeat (first | assumption | exact find_at _ _ _ | refine find_sk (by omega) ?_))) (by rfl)) rfl ?_)) | (show AOps _ _ _ _ (⟨some _, .fieldAddr _ _ _, _, _, _, none⟩ :: _) _; first | (refine o_y (y_fld_ptr rfl rfl) rfl ?_)) | (show AOps _ _ _ _ (⟨some _, .nilCheck _, _, _, _, none⟩ :: _) _; first | (refine o_y (y_nil_ptr rfl) rfl ?_)) | (show AOps _ _ _ _ (⟨some _, .assign _, _, _, _, none⟩ :: _) _; first | (refine o_y (v_assign (v := .sc _) rfl) rfl ?_) | (refine o_y (v_assign (v := .ptr _ _) rfl) rfl ?_)) | (show AOps _ _ _ _ (⟨some _, .binOp .add _ _ _ _, _, _, _, none⟩ :: _) _; first | (refine o_y (z_add rfl rfl (by omega) (by omega)) rfl ?_) | (refine o_y (y_bin rfl rfl rfl) rfl ?_)) | (show AOps _ _ _ _ (⟨some _, .binOp _ _ _ _ _, _, _, _, none⟩ :: _) _; first | (refine o_y (y_bin rfl rfl rfl) rfl ?_) | (refine o_y (y_eqNil rfl rfl) rfl ?_)) | (show AOps _ _ _ _ (⟨some _, .pick _ _ _, _, _, _, none⟩ :: _) _; first | (refine o_y (v_pick_f (v := .sc _) rfl (by first | rfl | assumption) rfl) rfl ?_)) | (show AOps _ _ _ _ (⟨_, .call ⟨.value (.func 24), _, _⟩, _, _, _, none⟩ :: _) _; refine o_x (x_callA rfl (sg) ?_); rintro _ _ ⟨rfl, rfl⟩) | (show AOps _ _ _ _ (⟨_, .store _ _ _, _, _, _, none⟩ :: _) _; first | (refine o_x (s_storeN (v := .sc _) rfl rfl (by first | rfl | (repeat (first | assumption | exact find_at _ _ _ | refine find_sk (by omega) ?_))) (by rfl) (by rfl) (by first | (simp only [List.set_cons_zero, List.set_cons_succ]; rfl) | rfl) ?_))) | (show AOps _ _ _ _ (⟨_, _, _, _, _, some (_, _)⟩ :: _) _; first | (refine o_g_t rfl rfl rfl (by first | rfl | assumption | exact beq_self_eq_true _ | exact decide_eq_true rfl) ?_))) | (refine aq_nil ?_) | (show AQuiet _ _ _ _ _ _; first | (show AQuiet _ _ _ (⟨some _, .move _, _, _, _, none⟩ :: _) _ _; first | (refine q_y (v_move (v := .ptr _ _) rfl) rfl ?_)) | (show AQuiet _ _ _ (⟨some _, .load _ _, _, _, _, none⟩ :: _) _ _; first | (refine q_y (y_load1 (v := .sc _) rfl (by first | rfl | (repeat (first | assumption | exact find_at _ _ _ | refine find_sk (by omega) ?_))) (by rfl)) rfl ?_)) | (show AQuiet _ _ _ (⟨some _, .fieldAddr _ _ _, _, _, _, none⟩ :: _) _ _; first | (refine q_y (y_fld_ptr rfl rfl) rfl ?_)) | (show AQuiet _ _ _ (⟨some _, .nilCheck _, _, _, _, none⟩ :: _) _ _; first | (refine q_y (y_nil_ptr rfl) rfl ?_)) | (show AQuiet _ _ _ (⟨some _, .binOp .add _ _ _ _, _, _, _, none⟩ :: _) _ _; first | (refine q_y (y_bin rfl rfl rfl) rfl ?_)) | (show AQuiet _ _ _ (⟨some _, .binOp _ _ _ _ _, _, _, _, none⟩ :: _) _ _; first | (refine q_y (y_bin rfl rfl rfl) rfl ?_)) | (show AQuiet _ _ _ (⟨some _, .call ⟨.builtin .max, _, _⟩, _, _, _, none⟩ :: _) _ _; first | (refine q_y (y_max2 rfl rfl) rfl ?_))) | (show IW _ _ _ _ _; first | (refine awp_seq ?_) | (refine awp_region ?_) | (refine awp_ret ?_) | (refine awp_skip ?_) | (refine awp_if rfl (fun h hp => ?_) (fun h hp => ?_))) | (show thenQ _ _ _ _; first | (refine k_r ?_)))
    · have hk : ¬ e.a.kind = 5 := by simpa using ‹(e.a.kind != 5) = true›
      refine retA2 ⟨?_, setR_no hT0 fun e' he' => ?_⟩
      · dsimp only
        rw [if_neg hk]
        rfl
      · rw [hg] at he'; cases he'
        unfold hopG
        rw [if_neg hk]
    · have hk : e.a.kind = 5 := by simpa using ‹(e.a.kind != 5) = false›
      have hm : e.hops + 1 > max e.a.ttl 1 := by assumption
      have hF : hopF e = ⟨e.id, e.a, e.par, e.ends, 1⟩ := by unfold hopF; rw [if_pos hm]
      refine retA2 ⟨?_, setR_yes (f := hopG) hT0 hg ?_ (fun i hi => by simp only [find_cons, if_neg (Ne.symm hi)])⟩
      · dsimp only
        rw [if_pos hk, hF]
        rfl
      · refine (find_at _ _ _).trans ?_
        rw [hopG, if_pos hk, hF]
        rfl
    · have hk : e.a.kind = 5 := by simpa using ‹(e.a.kind != 5) = false›
      have hm : ¬ e.hops + 1 > max e.a.ttl 1 := by assumption
      have hF : hopF e = ⟨e.id, e.a, e.par, e.ends, e.hops + 1⟩ := by unfold hopF; rw [if_neg hm]
      refine retA2 ⟨?_, setR_yes (f := hopG) hT0 hg ?_ (fun i hi => by simp only [find_cons, if_neg (Ne.symm hi)])⟩
      · dsimp only
        rw [if_pos hk, hF]
        rfl
      · refine (find_at _ _ _).trans ?_
        rw [hopG, if_pos hk, hF]
        rfl
end Go.Proofs.Ytcidoghpacihpaa.Sx
