/- An association is added to a table. Associations are dropped, and those that they are the parents of. -/
import Derived.Test.YtcidoghpacihpaaC
namespace Go.Proofs.Ytcidoghpacihpaa.Sx
open Go Go.RowKit
attribute [local irreducible] IW AOps AQuiet GQ GY AExec QY Yld ACalls ACallsD
def addE (T : Tb) (a : As) (par : Int) : Int := if par ≠ 0 ∧ get T par = none then 121 else if taken T a then 53 else if free T < 0 then 120 else 0
def addN (T : Tb) (a : As) (par now : Int) : Ro := ⟨free T + 1, a, par, if par ≠ 0 ∨ a.kind = 7 ∨ a.kind = 8 then later now else 0, 0⟩
def addT (T : Tb) (a : As) (par now : Int) : Tb := if addE T a par = 0 then upd1 T (free T).toNat (some (addN T a par now)) else T
def addI (T : Tb) (a : As) (par : Int) : Int := if addE T a par = 0 then free T + 1 else 0
def AddR (t : Nat) (T : Tb) (P : Nat → Nat) (S : Hp) (a : As) (par now : Int) (r : AV) (S' : Hp) : Prop :=
  r = .tup [.sc (.int .i64 (addI T a par)), .sc (.int .i64 (addE T a par))] ∧ Fr S S' (fun i => i = t) ∧ ∃ P', TH t (addT T a par now) P' S' ∧ ∀ j, P' j = P j ∨ S.nxt ≤ P' j
theorem addR_no {t : Nat} {T : Tb} {P : Nat → Nat} {S S' : Hp} {a : As} {par now c : Int} (h : TH t T P S) (he : addE T a par = c) (hc : c ≠ 0) (hf : Fr S S' fun _ => False) : AddR t T P S a par now (.tup [.sc (.int .i64 0), .sc (.int .i64 c)]) S' := by
  have hf' : Fr S S' fun i => i = t := ⟨hf.1, fun i hi _ => hf.2 i hi (by simp)⟩
  have hT : addT T a par now = T := by unfold addT; rw [he, if_neg hc]
  refine ⟨by unfold addI; rw [he, if_neg hc], hf', P, ?_, fun j => .inl rfl⟩
  rw [hT]
  exact h.keep hf (by simp) (fun _ _ _ _ => by simp)
theorem free_rng (T : Tb) : -1 ≤ free T ∧ free T ≤ 15 := by
  unfold free
  rcases fst_cases (isNone T) 16 with ⟨h, _⟩ | ⟨i, h, hi, _⟩ <;> omega
attribute [local irreducible] tvs tcs
set_option maxHeartbeats 8000000 in
theorem add_spec {t : Nat} {T : Tb} {P : Nat → Nat} {S : Hp} (hT0 : TH t T P S) (a : As) (par now : Int) (hn : -9223372036854775808 ≤ now) : ACalls Try.prog 12 [.ptr t 0, .agg a.cs, .sc (.int .i64 par), .sc (.int .i64 now)] S (AddR t T P S a par now) := by
  obtain ⟨n, bs⟩ := S
  have htb := hT0.tb
  have hlt := hT0.lt
  dsimp only at htb hlt
  refine enterA4 Try.func12 rfl 69 [.tmp 8, .tmp 9] rfl rfl ?_
  repeat' (first | (refine aops_nil ?_) | (show AOps _ _ _ _ _ _; first | (show AOps _ _ _ _ (⟨some _, .assign _, _, _, _, none⟩ :: _) _; first | (refine o_y (v_assign (v := .sc _) rfl) rfl ?_)) | (show AOps _ _ _ _ (⟨_, .box _ _, _, _, _, none⟩ :: _) _; first | (refine o_x (b_agg rfl rfl rfl ?_)))) | (show IW _ _ [.code (.seq _ _)] _ _; first | (show AWP _ _ (.seq (.region 0 _ _) _) _ _; refine awp_seq ?_)) | (show IW _ _ _ _ _; first | (refine awp_region ?_)) | (show thenQ _ _ _ _; first | (refine k_n ?_)))
  refine iw_frzP 5 n rfl (find_at _ _ _) rfl ?_
  have h1 : TH t T P ⟨n + 1, (n, none) :: (n, some ⟨a.cs, a.cs.length, 40⟩) :: bs⟩ := hT0.keep (x := fun _ => False) (((Fr.refl _ _).push (k := n) (m := n + 1) (.inr (Nat.le_refl _)) (by simp)).push (k := n) (.inr (Nat.le_refl _)) (Nat.le_refl _)) (by simp) (fun _ _ _ _ => by simp)
  have hf1 : Fr ⟨n, bs⟩ ⟨n + 1, (n, none) :: (n, some ⟨a.cs, a.cs.length, 40⟩) :: bs⟩ fun _ => False := ((Fr.refl _ _).push (k := n) (m := n + 1) (.inr (Nat.le_refl _)) (by simp)).push (k := n) (.inr (Nat.le_refl _)) (Nat.le_refl _)
  generalize (n, none) :: (n, some (Blk.mk a.cs a.cs.length 40)) :: bs = bs1 at h1 hf1
  have htb1 := h1.tb
  dsimp only at htb1
  have hfr := free_rng T
  have st : ACalls Try.prog 22 [.ptr t 0, .agg a.cs] ⟨n + 1, bs1⟩ (fun r S' => r = .sc (.bool (taken T a)) ∧ S' = ⟨n + 1, bs1⟩) := acalls_frz (taken_spec T a) rfl ⟨frzT h1, frzS_of ⟨rfl, rfl⟩, trivial⟩
  have sg := getA_spec h1 par
  by_cases hbad : par ≠ 0 ∧ get T par = none
  · have he : addE T a par = 121 := by unfold addE; rw [if_pos hbad]
    rw [gA, hbad.2] at sg
    repeat' (first | (show AOps _ _ _ _ _ _; first | (show AOps _ _ _ _ (⟨some _, .move _, _, _, _, none⟩ :: _) _; first | (refine o_y (v_move (v := .ptr _ _) rfl) rfl ?_)) | (show AOps _ _ _ _ (⟨some _, .fieldAddr _ _ _, _, _, _, none⟩ :: _) _; first | (refine o_y (y_fld_ptr rfl rfl) rfl ?_)) | (show AOps _ _ _ _ (⟨some _, .nilCheck _, _, _, _, none⟩ :: _) _; first | (refine o_y (y_nil_ptr rfl) rfl ?_))) | (show IW _ _ _ _ _; first | (refine awp_seq ?_) | (refine awp_region ?_)))
    refine o_sliceCall (cs := tvs T) rfl (frzT h1) (tvs_length T) rfl (fun _ => rfl) (index_spec T) rfl rfl ?_
    repeat' (first | (refine aops_nil ?_) | (show AOps _ _ _ _ _ _; first | (show AOps _ _ _ _ (⟨some _, .move _, _, _, _, none⟩ :: _) _; first | (refine o_y (v_move (v := .sc _) rfl) rfl ?_) | (refine o_y (v_move (v := .ptr _ _) rfl) rfl ?_)) | (show AOps _ _ _ _ (⟨some _, .assign _, _, _, _, none⟩ :: _) _; first | (refine o_y (v_assign (v := .sc _) rfl) rfl ?_)) | (show AOps _ _ _ _ (⟨some _, .binOp _ _ _ _ _, _, _, _, none⟩ :: _) _; first | (refine o_y (y_bin rfl rfl rfl) rfl ?_) | (refine o_y (y_eqNil0 rfl rfl) rfl ?_)) | (show AOps _ _ _ _ (⟨some _, .pick _ _ _, _, _, _, none⟩ :: _) _; first | (refine o_y (v_pick_t (v := .sc _) rfl (by first | rfl | assumption | exact beq_self_eq_true _ | exact decide_eq_true rfl) rfl) rfl ?_) | (refine o_y (v_pick_f (v := .sc _) rfl (by first | rfl | assumption) rfl) rfl ?_)) | (show AOps _ _ _ _ (⟨_, .call ⟨.value (.func 24), _, _⟩, _, _, _, none⟩ :: _) _; refine o_x (x_callA rfl (sg) ?_); rintro _ _ ⟨rfl, rfl⟩) | (show AOps _ _ _ _ (⟨_, _, _, _, _, some (_, _)⟩ :: _) _; first | (refine o_g_t rfl rfl rfl (by first | rfl | assumption | exact beq_self_eq_true _ | exact decide_eq_true rfl) ?_) | (refine o_g_f rfl rfl rfl (by first | rfl | assumption) ?_) | (refine o_if rfl rfl rfl (fun h hp => ?_) (fun h hp => ?_)))) | (show IW _ _ _ _ _; first | (refine awp_seq ?_) | (refine awp_region ?_) | (refine awp_block ?_) | (refine awp_ret ?_) | (refine awp_if_t rfl (by first | rfl | assumption | exact beq_self_eq_true _ | exact decide_eq_true rfl) ?_) | (refine awp_if_f rfl (by first | rfl | assumption) ?_)) | (show thenQ _ _ _ _; first | (refine k_r ?_)) | (show blockQ _ _ _ _; first | (refine b_r ?_)))
    all_goals first
      | (exfalso; omega)
      | (exfalso; simp at *; done)
      | exact retA2 (addR_no hT0 he (by decide) hf1)
  have he1 : addE T a par = if taken T a then 53 else if free T < 0 then 120 else 0 := by unfold addE; rw [if_neg hbad]
  have hpar : par = 0 ∨ ∃ e, get T par = some e := by
    by_cases h0 : par = 0
    · exact .inl h0
    · right
      cases hg : get T par with
      | none => exact absurd ⟨h0, hg⟩ hbad
      | some e => exact ⟨e, rfl⟩
  by_cases htk : taken T a = true
  · rw [if_pos htk] at he1
    rw [htk] at st
    rcases hpar with h0 | ⟨e, hg⟩
    · repeat' (first | (show AOps _ _ _ _ _ _; first | (show AOps _ _ _ _ (⟨some _, .move _, _, _, _, none⟩ :: _) _; first | (refine o_y (v_move (v := .ptr _ _) rfl) rfl ?_)) | (show AOps _ _ _ _ (⟨some _, .fieldAddr _ _ _, _, _, _, none⟩ :: _) _; first | (refine o_y (y_fld_ptr rfl rfl) rfl ?_)) | (show AOps _ _ _ _ (⟨some _, .nilCheck _, _, _, _, none⟩ :: _) _; first | (refine o_y (y_nil_ptr rfl) rfl ?_))) | (show IW _ _ _ _ _; first | (refine awp_seq ?_) | (refine awp_region ?_)))
      refine o_sliceCall (cs := tvs T) rfl (frzT h1) (tvs_length T) rfl (fun _ => rfl) (index_spec T) rfl rfl ?_
      repeat' (first | (refine aops_nil ?_) | (show AOps _ _ _ _ _ _; first | (show AOps _ _ _ _ (⟨some _, .move _, _, _, _, none⟩ :: _) _; first | (refine o_y (v_move (v := .sc _) rfl) rfl ?_) | (refine o_y (v_move (v := .ptr _ _) rfl) rfl ?_)) | (show AOps _ _ _ _ (⟨some _, .load _ _, _, _, _, none⟩ :: _) _; first | (refine o_y (y_vloadW rfl rfl) rfl ?_)) | (show AOps _ _ _ _ (⟨some _, .assign _, _, _, _, none⟩ :: _) _; first | (refine o_y (v_assign (v := .sc _) rfl) rfl ?_)) | (show AOps _ _ _ _ (⟨some _, .binOp _ _ _ _ _, _, _, _, none⟩ :: _) _; first | (refine o_y (y_bin rfl rfl rfl) rfl ?_)) | (show AOps _ _ _ _ (⟨some _, .pick _ _ _, _, _, _, none⟩ :: _) _; first | (refine o_y (v_pick_f (v := .sc _) rfl (by first | rfl | assumption) rfl) rfl ?_)) | (show AOps _ _ _ _ (⟨_, .call ⟨.value (.func 22), _, _⟩, _, _, _, none⟩ :: _) _; refine o_x (x_callA rfl (st) ?_); rintro _ _ ⟨rfl, rfl⟩) | (show AOps _ _ _ _ (⟨_, _, _, _, _, some (_, _)⟩ :: _) _; first | (refine o_g_t rfl rfl rfl (by first | rfl | assumption | exact beq_self_eq_true _ | exact decide_eq_true rfl) ?_) | (refine o_g_f rfl rfl rfl (by first | rfl | assumption) ?_) | (refine o_if rfl rfl rfl (fun h hp => ?_) (fun h hp => ?_)))) | (show IW _ _ _ _ _; first | (refine awp_seq ?_) | (refine awp_region ?_) | (refine awp_block ?_) | (refine awp_ret ?_) | (refine awp_if_t rfl (by first | rfl | assumption | exact beq_self_eq_true _ | exact decide_eq_true rfl) ?_) | (refine awp_if_f rfl (by first | rfl | assumption) ?_)) | (show thenQ _ _ _ _; first | (refine k_r ?_)) | (show blockQ _ _ _ _; first | (refine b_r ?_)))
      all_goals first
        | (exfalso; omega)
        | exact retA2 (addR_no hT0 he1 (by decide) hf1)
    · rw [gA, hg] at sg
      repeat' (first | (show AOps _ _ _ _ _ _; first | (show AOps _ _ _ _ (⟨some _, .move _, _, _, _, none⟩ :: _) _; first | (refine o_y (v_move (v := .ptr _ _) rfl) rfl ?_)) | (show AOps _ _ _ _ (⟨some _, .fieldAddr _ _ _, _, _, _, none⟩ :: _) _; first | (refine o_y (y_fld_ptr rfl rfl) rfl ?_)) | (show AOps _ _ _ _ (⟨some _, .nilCheck _, _, _, _, none⟩ :: _) _; first | (refine o_y (y_nil_ptr rfl) rfl ?_))) | (show IW _ _ _ _ _; first | (refine awp_seq ?_) | (refine awp_region ?_)))
      refine o_sliceCall (cs := tvs T) rfl (frzT h1) (tvs_length T) rfl (fun _ => rfl) (index_spec T) rfl rfl ?_
      repeat' (first | (refine aops_nil ?_) | (show AOps _ _ _ _ _ _; first | (show AOps _ _ _ _ (⟨some _, .move _, _, _, _, none⟩ :: _) _; first | (refine o_y (v_move (v := .sc _) rfl) rfl ?_) | (refine o_y (v_move (v := .ptr _ _) rfl) rfl ?_)) | (show AOps _ _ _ _ (⟨some _, .load _ _, _, _, _, none⟩ :: _) _; first | (refine o_y (y_vloadW rfl rfl) rfl ?_)) | (show AOps _ _ _ _ (⟨some _, .assign _, _, _, _, none⟩ :: _) _; first | (refine o_y (v_assign (v := .sc _) rfl) rfl ?_)) | (show AOps _ _ _ _ (⟨some _, .binOp _ _ _ _ _, _, _, _, none⟩ :: _) _; first | (refine o_y (y_bin rfl rfl rfl) rfl ?_) | (refine o_y (y_eqNil rfl rfl) rfl ?_)) | (show AOps _ _ _ _ (⟨some _, .pick _ _ _, _, _, _, none⟩ :: _) _; first | (refine o_y (v_pick_t (v := .sc _) rfl (by first | rfl | assumption | exact beq_self_eq_true _ | exact decide_eq_true rfl) rfl) rfl ?_) | (refine o_y (v_pick_f (v := .sc _) rfl (by first | rfl | assumption) rfl) rfl ?_)) | (show AOps _ _ _ _ (⟨_, .call ⟨.value (.func 22), _, _⟩, _, _, _, none⟩ :: _) _; refine o_x (x_callA rfl (st) ?_); rintro _ _ ⟨rfl, rfl⟩) | (show AOps _ _ _ _ (⟨_, .call ⟨.value (.func 24), _, _⟩, _, _, _, none⟩ :: _) _; refine o_x (x_callA rfl (sg) ?_); rintro _ _ ⟨rfl, rfl⟩) | (show AOps _ _ _ _ (⟨_, _, _, _, _, some (_, _)⟩ :: _) _; first | (refine o_g_t rfl rfl rfl (by first | rfl | assumption | exact beq_self_eq_true _ | exact decide_eq_true rfl) ?_) | (refine o_g_f rfl rfl rfl (by first | rfl | assumption) ?_) | (refine o_if rfl rfl rfl (fun h hp => ?_) (fun h hp => ?_)))) | (show IW _ _ _ _ _; first | (refine awp_seq ?_) | (refine awp_region ?_) | (refine awp_block ?_) | (refine awp_ret ?_) | (refine awp_if_t rfl (by first | rfl | assumption | exact beq_self_eq_true _ | exact decide_eq_true rfl) ?_) | (refine awp_if_f rfl (by first | rfl | assumption) ?_)) | (show thenQ _ _ _ _; first | (refine k_r ?_)) | (show blockQ _ _ _ _; first | (refine b_r ?_)))
      all_goals first
        | (exfalso; omega)
        | exact retA2 (addR_no hT0 he1 (by decide) hf1)
  rw [if_neg htk] at he1
  rw [Bool.eq_false_iff.2 htk] at st
  by_cases hfull : free T < 0
  · rw [if_pos hfull] at he1
    rcases hpar with h0 | ⟨e, hg⟩
    · repeat' (first | (show AOps _ _ _ _ _ _; first | (show AOps _ _ _ _ (⟨some _, .move _, _, _, _, none⟩ :: _) _; first | (refine o_y (v_move (v := .ptr _ _) rfl) rfl ?_)) | (show AOps _ _ _ _ (⟨some _, .fieldAddr _ _ _, _, _, _, none⟩ :: _) _; first | (refine o_y (y_fld_ptr rfl rfl) rfl ?_)) | (show AOps _ _ _ _ (⟨some _, .nilCheck _, _, _, _, none⟩ :: _) _; first | (refine o_y (y_nil_ptr rfl) rfl ?_))) | (show IW _ _ _ _ _; first | (refine awp_seq ?_) | (refine awp_region ?_)))
      refine o_sliceCall (cs := tvs T) rfl (frzT h1) (tvs_length T) rfl (fun _ => rfl) (index_spec T) rfl rfl ?_
      repeat' (first | (refine aops_nil ?_) | (show AOps _ _ _ _ _ _; first | (show AOps _ _ _ _ (⟨some _, .move _, _, _, _, none⟩ :: _) _; first | (refine o_y (v_move (v := .sc _) rfl) rfl ?_) | (refine o_y (v_move (v := .ptr _ _) rfl) rfl ?_)) | (show AOps _ _ _ _ (⟨some _, .load _ _, _, _, _, none⟩ :: _) _; first | (refine o_y (y_vloadW rfl rfl) rfl ?_)) | (show AOps _ _ _ _ (⟨some _, .assign _, _, _, _, none⟩ :: _) _; first | (refine o_y (v_assign (v := .sc _) rfl) rfl ?_)) | (show AOps _ _ _ _ (⟨some _, .binOp _ _ _ _ _, _, _, _, none⟩ :: _) _; first | (refine o_y (y_bin rfl rfl rfl) rfl ?_)) | (show AOps _ _ _ _ (⟨some _, .pick _ _ _, _, _, _, none⟩ :: _) _; first | (refine o_y (v_pick_f (v := .sc _) rfl (by first | rfl | assumption) rfl) rfl ?_)) | (show AOps _ _ _ _ (⟨_, .call ⟨.value (.func 22), _, _⟩, _, _, _, none⟩ :: _) _; refine o_x (x_callA rfl (st) ?_); rintro _ _ ⟨rfl, rfl⟩) | (show AOps _ _ _ _ (⟨_, _, _, _, _, some (_, _)⟩ :: _) _; first | (refine o_g_t rfl rfl rfl (by first | rfl | assumption | exact beq_self_eq_true _ | exact decide_eq_true rfl) ?_) | (refine o_g_f rfl rfl rfl (by first | rfl | assumption) ?_) | (refine o_if rfl rfl rfl (fun h hp => ?_) (fun h hp => ?_)))) | (show IW _ _ _ _ _; first | (refine awp_seq ?_) | (refine awp_region ?_) | (refine awp_block ?_) | (refine awp_ret ?_) | (refine awp_skip ?_) | (refine awp_if_f rfl (by first | rfl | assumption) ?_) | (refine awp_if rfl (fun h hp => ?_) (fun h hp => ?_))) | (show thenQ _ _ _ _; first | (refine k_r ?_)) | (show blockQ _ _ _ _; first | (refine b_r ?_)))
      all_goals first
        | (exfalso; omega)
        | exact retA2 (addR_no hT0 he1 (by decide) hf1)
    · rw [gA, hg] at sg
      repeat' (first | (show AOps _ _ _ _ _ _; first | (show AOps _ _ _ _ (⟨some _, .move _, _, _, _, none⟩ :: _) _; first | (refine o_y (v_move (v := .ptr _ _) rfl) rfl ?_)) | (show AOps _ _ _ _ (⟨some _, .fieldAddr _ _ _, _, _, _, none⟩ :: _) _; first | (refine o_y (y_fld_ptr rfl rfl) rfl ?_)) | (show AOps _ _ _ _ (⟨some _, .nilCheck _, _, _, _, none⟩ :: _) _; first | (refine o_y (y_nil_ptr rfl) rfl ?_))) | (show IW _ _ _ _ _; first | (refine awp_seq ?_) | (refine awp_region ?_)))
      refine o_sliceCall (cs := tvs T) rfl (frzT h1) (tvs_length T) rfl (fun _ => rfl) (index_spec T) rfl rfl ?_
      repeat' (first | (refine aops_nil ?_) | (show AOps _ _ _ _ _ _; first | (show AOps _ _ _ _ (⟨some _, .move _, _, _, _, none⟩ :: _) _; first | (refine o_y (v_move (v := .sc _) rfl) rfl ?_) | (refine o_y (v_move (v := .ptr _ _) rfl) rfl ?_)) | (show AOps _ _ _ _ (⟨some _, .load _ _, _, _, _, none⟩ :: _) _; first | (refine o_y (y_vloadW rfl rfl) rfl ?_)) | (show AOps _ _ _ _ (⟨some _, .assign _, _, _, _, none⟩ :: _) _; first | (refine o_y (v_assign (v := .sc _) rfl) rfl ?_)) | (show AOps _ _ _ _ (⟨some _, .binOp _ _ _ _ _, _, _, _, none⟩ :: _) _; first | (refine o_y (y_bin rfl rfl rfl) rfl ?_) | (refine o_y (y_eqNil rfl rfl) rfl ?_)) | (show AOps _ _ _ _ (⟨some _, .pick _ _ _, _, _, _, none⟩ :: _) _; first | (refine o_y (v_pick_t (v := .sc _) rfl (by first | rfl | assumption | exact beq_self_eq_true _ | exact decide_eq_true rfl) rfl) rfl ?_) | (refine o_y (v_pick_f (v := .sc _) rfl (by first | rfl | assumption) rfl) rfl ?_)) | (show AOps _ _ _ _ (⟨_, .call ⟨.value (.func 22), _, _⟩, _, _, _, none⟩ :: _) _; refine o_x (x_callA rfl (st) ?_); rintro _ _ ⟨rfl, rfl⟩) | (show AOps _ _ _ _ (⟨_, .call ⟨.value (.func 24), _, _⟩, _, _, _, none⟩ :: _) _; refine o_x (x_callA rfl (sg) ?_); rintro _ _ ⟨rfl, rfl⟩) | (show AOps _ _ _ _ (⟨_, _, _, _, _, some (_, _)⟩ :: _) _; first | (refine o_g_t rfl rfl rfl (by first | rfl | assumption | exact beq_self_eq_true _ | exact decide_eq_true rfl) ?_) | (refine o_g_f rfl rfl rfl (by first | rfl | assumption) ?_) | (refine o_if rfl rfl rfl (fun h hp => ?_) (fun h hp => ?_)))) | (show IW _ _ _ _ _; first | (refine awp_seq ?_) | (refine awp_region ?_) | (refine awp_block ?_) | (refine awp_ret ?_) | (refine awp_skip ?_) | (refine awp_if_f rfl (by first | rfl | assumption) ?_) | (refine awp_if rfl (fun h hp => ?_) (fun h hp => ?_))) | (show thenQ _ _ _ _; first | (refine k_r ?_)) | (show blockQ _ _ _ _; first | (refine b_r ?_)))
      all_goals first
        | (exfalso; omega)
        | exact retA2 (addR_no hT0 he1 (by decide) hf1)
  rw [if_neg hfull] at he1
  have hl0 : 0 + 0 + (free T).toNat * 1 < (tcs T P).length := by rw [tcs_length]; omega
  have hput := tcs_put (T := T) (P := P) (i := (free T).toNat) (k := 0 + 0 + (free T).toNat * 1) (addN T a par now) (n + 1) (by omega) (by omega)
  have hTe : addT T a par now = upd1 T (free T).toNat (some (addN T a par now)) := by unfold addT; rw [if_pos he1]
  have hIe : addI T a par = free T + 1 := by unfold addI; rw [if_pos he1]
  have fin : ∀ bs2, find t bs2 = some ⟨tcs (upd1 T (free T).toNat (some (addN T a par now))) (upd1 P (free T).toNat (n + 1)), 16, 76⟩ → find (n + 1) bs2 = some ⟨(addN T a par now).cs, 16, 79⟩ → (∀ i, i ≠ t → i ≠ n + 1 → find i bs2 = find i bs1) → AddR t T P ⟨n, bs⟩ a par now (.tup [.sc (.int .i64 (free T + 1)), .sc (.int .i64 0)]) ⟨n + 1 + 1, bs2⟩ := fun bs2 g1 g2 g3 => by
    refine ⟨by rw [hIe, he1], ⟨by show n ≤ n + 1 + 1; omega, fun i hi hx => ?_⟩, upd1 P (free T).toNat (n + 1), ?_, fun j => ?_⟩
    · exact (g3 i hx (by have : i < n := hi; omega)).trans (hf1.2 i hi (by simp))
    · rw [hTe]
      refine ⟨g1, by show t < n + 1 + 1; omega, fun j e hj hTj => ?_, fun i j e e' hi hj hTi hTj hij => ?_⟩
      · by_cases ej : j = (free T).toNat
        · subst ej
          simp only [upd1, if_true, Option.some.injEq] at hTj ⊢
          subst hTj
          exact ⟨g2, by omega, by show n + 1 < n + 1 + 1; omega⟩
        · simp only [upd1, if_neg ej] at hTj ⊢
          obtain ⟨k1, k2, k3⟩ := hT0.sl j e hj hTj
          have k3' : P j < n := k3
          obtain ⟨k4, _, _⟩ := h1.sl j e hj hTj
          exact ⟨(g3 _ k2 (by omega)).trans k4, k2, by show P j < n + 1 + 1; omega⟩
      · by_cases ei : i = (free T).toNat <;> by_cases ej : j = (free T).toNat
        · rw [ei, ej]
        · simp only [upd1, if_neg ej] at hTj
          simp only [upd1, if_neg ej, if_pos ei] at hij
          have : P j < n := (hT0.sl j e' hj hTj).2.2
          omega
        · simp only [upd1, if_neg ei] at hTi
          simp only [upd1, if_neg ei, if_pos ej] at hij
          have : P i < n := (hT0.sl i e hi hTi).2.2
          omega
        · simp only [upd1, if_neg ei] at hTi
          simp only [upd1, if_neg ej] at hTj
          simp only [upd1, if_neg ei, if_neg ej] at hij
          exact hT0.inj i j e e' hi hj hTi hTj hij
    · by_cases ej : j = (free T).toNat
      · right; simp only [upd1, if_pos ej]; show n ≤ n + 1; omega
      · left; simp only [upd1, if_neg ej]
  rcases hpar with h0 | ⟨e, hg⟩
  · by_cases hk : a.kind = 7 ∨ a.kind = 8
    · have hE : addN T a par now = ⟨free T + 1, a, par, later now, 0⟩ := by unfold addN; rw [if_pos (.inr hk)]
      repeat' (first | (show AOps _ _ _ _ _ _; first | (show AOps _ _ _ _ (⟨some _, .move _, _, _, _, none⟩ :: _) _; first | (refine o_y (v_move (v := .ptr _ _) rfl) rfl ?_)) | (show AOps _ _ _ _ (⟨some _, .fieldAddr _ _ _, _, _, _, none⟩ :: _) _; first | (refine o_y (y_fld_ptr rfl rfl) rfl ?_)) | (show AOps _ _ _ _ (⟨some _, .nilCheck _, _, _, _, none⟩ :: _) _; first | (refine o_y (y_nil_ptr rfl) rfl ?_))) | (show IW _ _ _ _ _; first | (refine awp_seq ?_) | (refine awp_region ?_)))
      refine o_sliceCall (cs := tvs T) rfl (frzT h1) (tvs_length T) rfl (fun _ => rfl) (index_spec T) rfl rfl ?_
      repeat' (first | (refine aops_nil ?_) | (show AOps _ _ _ _ _ _; first | (show AOps _ _ _ _ (⟨some _, .build _ _, _, _, _, none⟩ :: _) _; first | (refine o_y (y_build (cs := (Ro.mk (free T + 1) a par 0 0).en) rfl rfl) rfl ?_)) | (show AOps _ _ _ _ (⟨some _, .build _ _, _, _, _, none⟩ :: _) _; first | (refine o_y (y_build (cs := (Ro.mk (free T + 1) a par 0 0).cs) rfl rfl) rfl ?_)) | (show AOps _ _ _ _ (⟨some _, .move _, _, _, _, none⟩ :: _) _; first | (refine o_y (v_move (v := .sc _) rfl) rfl ?_) | (refine o_y (v_move (v := .ptr _ _) rfl) rfl ?_)) | (show AOps _ _ _ _ (⟨some _, .load _ _, _, _, _, none⟩ :: _) _; first | (refine o_y (y_load1 (v := .sc _) rfl (by first | rfl | (repeat (first | assumption | exact find_at _ _ _ | refine find_sk (by omega) ?_))) (by rfl)) rfl ?_) | (refine o_y (y_vload1 (v := .sc _) rfl rfl) rfl ?_) | (refine o_y (y_vloadW rfl rfl) rfl ?_)) | (show AOps _ _ _ _ (⟨some _, .fieldAddr _ _ _, _, _, _, none⟩ :: _) _; first | (refine o_y (y_fld_ptr rfl rfl) rfl ?_) | (refine o_y (y_fld_vptr rfl rfl) rfl ?_)) | (show AOps _ _ _ _ (⟨some _, .nilCheck _, _, _, _, none⟩ :: _) _; first | (refine o_y (y_nil_ptr rfl) rfl ?_)) | (show AOps _ _ _ _ (⟨some _, .assign _, _, _, _, none⟩ :: _) _; first | (refine o_y (v_assign (v := .sc _) rfl) rfl ?_) | (refine o_y (v_assign (v := .ptr _ _) rfl) rfl ?_)) | (show AOps _ _ _ _ (⟨some _, .binOp .add _ _ _ _, _, _, _, none⟩ :: _) _; first | (refine o_y (z_add rfl rfl (by omega) (by omega)) rfl ?_) | (refine o_y (y_bin rfl rfl rfl) rfl ?_)) | (show AOps _ _ _ _ (⟨some _, .binOp _ _ _ _ _, _, _, _, none⟩ :: _) _; first | (refine o_y (y_bin rfl rfl rfl) rfl ?_)) | (show AOps _ _ _ _ (⟨some _, .pick _ _ _, _, _, _, none⟩ :: _) _; first | (refine o_y (v_pick_t (v := .sc _) rfl (by first | rfl | assumption | exact beq_self_eq_true _ | exact decide_eq_true rfl) rfl) rfl ?_) | (refine o_y (v_pick_f (v := .sc _) rfl (by first | rfl | assumption) rfl) rfl ?_)) | (show AOps _ _ _ _ (⟨some _, .indexAddr _ _ _, _, _, _, none⟩ :: _) _; first | (refine o_y (y_ix_arr rfl rfl (by omega) (by omega)) rfl ?_)) | (show AOps _ _ _ _ (⟨some _, .call ⟨.value (.func 25), _, _⟩, _, _, _, none⟩ :: _) _; first | (refine o_q (q_call (later_spec now hn)) rfl ?_)) | (show AOps _ _ _ _ (⟨_, .call ⟨.value (.func 22), _, _⟩, _, _, _, none⟩ :: _) _; refine o_x (x_callA rfl (st) ?_); rintro _ _ ⟨rfl, rfl⟩) | (show AOps _ _ _ _ (⟨_, .call ⟨.value (.func 24), _, _⟩, _, _, _, none⟩ :: _) _; refine o_x (x_callA rfl (sg) ?_); rintro _ _ ⟨rfl, rfl⟩) | (show AOps _ _ _ _ (⟨_, .store _ _ _, _, _, _, none⟩ :: _) _; first | (refine o_x (s_storeP rfl rfl (by first | rfl | (repeat (first | assumption | exact find_at _ _ _ | refine find_sk (by omega) ?_))) rfl hl0 hput ?_))) | (show AOps _ _ _ _ (⟨_, .store _ _ _, _, _, _, none⟩ :: _) _; first | (refine o_x (s_storeN (v := .sc _) rfl rfl (by first | rfl | (repeat (first | assumption | exact find_at _ _ _ | refine find_sk (by omega) ?_))) (by rfl) (by rfl) (by first | (simp only [List.set_cons_zero, List.set_cons_succ]; rfl) | rfl) ?_))) | (show AOps _ _ _ _ (⟨_, .box _ _, _, _, _, none⟩ :: _) _; first | (refine o_x (b_agg rfl rfl rfl ?_))) | (show AOps _ _ _ _ (⟨_, _, _, _, _, some (_, _)⟩ :: _) _; first | (refine o_g_t rfl rfl rfl (by first | rfl | assumption | exact beq_self_eq_true _ | exact decide_eq_true rfl) ?_) | (refine o_g_f rfl rfl rfl (by first | rfl | assumption) ?_) | (refine o_if rfl rfl rfl (fun h hp => ?_) (fun h hp => ?_)) | (refine o_un rfl rfl rfl (fun h hp => ?_) (fun h hp => ?_)))) | (show IW _ _ _ _ _; first | (refine awp_seq ?_) | (refine awp_region ?_) | (refine awp_block ?_) | (refine awp_ret ?_) | (refine awp_skip ?_) | (refine awp_if_t rfl (by first | rfl | assumption | exact beq_self_eq_true _ | exact decide_eq_true rfl) ?_) | (refine awp_if_f rfl (by first | rfl | assumption) ?_) | (refine awp_if rfl (fun h hp => ?_) (fun h hp => ?_))) | (show thenQ _ _ _ _; first | (refine k_r ?_)) | (show blockQ _ _ _ _; first | (refine b_r ?_)))
      all_goals first
        | (exfalso; omega)
        | exact retA2 (fin _ (find_at _ _ _) (by rw [hE]; exact find_sk (by omega) (find_at _ _ _)) (fun i e1 e2 => by simp only [find_cons, if_neg (Ne.symm e1), if_neg (Ne.symm e2)]))
    · have hE : addN T a par now = ⟨free T + 1, a, par, 0, 0⟩ := by unfold addN; rw [if_neg (fun h => h.elim (fun h => h h0) hk)]
      repeat' (first | (show AOps _ _ _ _ _ _; first | (show AOps _ _ _ _ (⟨some _, .move _, _, _, _, none⟩ :: _) _; first | (refine o_y (v_move (v := .ptr _ _) rfl) rfl ?_)) | (show AOps _ _ _ _ (⟨some _, .fieldAddr _ _ _, _, _, _, none⟩ :: _) _; first | (refine o_y (y_fld_ptr rfl rfl) rfl ?_)) | (show AOps _ _ _ _ (⟨some _, .nilCheck _, _, _, _, none⟩ :: _) _; first | (refine o_y (y_nil_ptr rfl) rfl ?_))) | (show IW _ _ _ _ _; first | (refine awp_seq ?_) | (refine awp_region ?_)))
      refine o_sliceCall (cs := tvs T) rfl (frzT h1) (tvs_length T) rfl (fun _ => rfl) (index_spec T) rfl rfl ?_
      repeat' (first | (refine aops_nil ?_) | (show AOps _ _ _ _ _ _; first | (show AOps _ _ _ _ (⟨some _, .build _ _, _, _, _, none⟩ :: _) _; first | (refine o_y (y_build (cs := (Ro.mk (free T + 1) a par 0 0).en) rfl rfl) rfl ?_)) | (show AOps _ _ _ _ (⟨some _, .build _ _, _, _, _, none⟩ :: _) _; first | (refine o_y (y_build (cs := (Ro.mk (free T + 1) a par 0 0).cs) rfl rfl) rfl ?_)) | (show AOps _ _ _ _ (⟨some _, .move _, _, _, _, none⟩ :: _) _; first | (refine o_y (v_move (v := .sc _) rfl) rfl ?_) | (refine o_y (v_move (v := .ptr _ _) rfl) rfl ?_)) | (show AOps _ _ _ _ (⟨some _, .load _ _, _, _, _, none⟩ :: _) _; first | (refine o_y (y_load1 (v := .sc _) rfl (by first | rfl | (repeat (first | assumption | exact find_at _ _ _ | refine find_sk (by omega) ?_))) (by rfl)) rfl ?_) | (refine o_y (y_vload1 (v := .sc _) rfl rfl) rfl ?_) | (refine o_y (y_vloadW rfl rfl) rfl ?_)) | (show AOps _ _ _ _ (⟨some _, .fieldAddr _ _ _, _, _, _, none⟩ :: _) _; first | (refine o_y (y_fld_ptr rfl rfl) rfl ?_) | (refine o_y (y_fld_vptr rfl rfl) rfl ?_)) | (show AOps _ _ _ _ (⟨some _, .nilCheck _, _, _, _, none⟩ :: _) _; first | (refine o_y (y_nil_ptr rfl) rfl ?_)) | (show AOps _ _ _ _ (⟨some _, .assign _, _, _, _, none⟩ :: _) _; first | (refine o_y (v_assign (v := .sc _) rfl) rfl ?_) | (refine o_y (v_assign (v := .ptr _ _) rfl) rfl ?_)) | (show AOps _ _ _ _ (⟨some _, .binOp .add _ _ _ _, _, _, _, none⟩ :: _) _; first | (refine o_y (z_add rfl rfl (by omega) (by omega)) rfl ?_) | (refine o_y (y_bin rfl rfl rfl) rfl ?_)) | (show AOps _ _ _ _ (⟨some _, .binOp _ _ _ _ _, _, _, _, none⟩ :: _) _; first | (refine o_y (y_bin rfl rfl rfl) rfl ?_)) | (show AOps _ _ _ _ (⟨some _, .pick _ _ _, _, _, _, none⟩ :: _) _; first | (refine o_y (v_pick_t (v := .sc _) rfl (by first | rfl | assumption | exact beq_self_eq_true _ | exact decide_eq_true rfl) rfl) rfl ?_) | (refine o_y (v_pick_f (v := .sc _) rfl (by first | rfl | assumption) rfl) rfl ?_)) | (show AOps _ _ _ _ (⟨some _, .indexAddr _ _ _, _, _, _, none⟩ :: _) _; first | (refine o_y (y_ix_arr rfl rfl (by omega) (by omega)) rfl ?_)) | (show AOps _ _ _ _ (⟨some _, .call ⟨.value (.func 25), _, _⟩, _, _, _, none⟩ :: _) _; first | (refine o_q (q_call (later_spec now hn)) rfl ?_)) | (show AOps _ _ _ _ (⟨_, .call ⟨.value (.func 22), _, _⟩, _, _, _, none⟩ :: _) _; refine o_x (x_callA rfl (st) ?_); rintro _ _ ⟨rfl, rfl⟩) | (show AOps _ _ _ _ (⟨_, .store _ _ _, _, _, _, none⟩ :: _) _; first | (refine o_x (s_storeP rfl rfl (by first | rfl | (repeat (first | assumption | exact find_at _ _ _ | refine find_sk (by omega) ?_))) rfl hl0 hput ?_))) | (show AOps _ _ _ _ (⟨_, .store _ _ _, _, _, _, none⟩ :: _) _; first | (refine o_x (s_storeN (v := .sc _) rfl rfl (by first | rfl | (repeat (first | assumption | exact find_at _ _ _ | refine find_sk (by omega) ?_))) (by rfl) (by rfl) (by first | (simp only [List.set_cons_zero, List.set_cons_succ]; rfl) | rfl) ?_))) | (show AOps _ _ _ _ (⟨_, .box _ _, _, _, _, none⟩ :: _) _; first | (refine o_x (b_agg rfl rfl rfl ?_))) | (show AOps _ _ _ _ (⟨_, _, _, _, _, some (_, _)⟩ :: _) _; first | (refine o_g_t rfl rfl rfl (by first | rfl | assumption | exact beq_self_eq_true _ | exact decide_eq_true rfl) ?_) | (refine o_g_f rfl rfl rfl (by first | rfl | assumption) ?_) | (refine o_if rfl rfl rfl (fun h hp => ?_) (fun h hp => ?_)) | (refine o_un rfl rfl rfl (fun h hp => ?_) (fun h hp => ?_)))) | (show IW _ _ _ _ _; first | (refine awp_seq ?_) | (refine awp_region ?_) | (refine awp_block ?_) | (refine awp_ret ?_) | (refine awp_skip ?_) | (refine awp_if_t rfl (by first | rfl | assumption | exact beq_self_eq_true _ | exact decide_eq_true rfl) ?_) | (refine awp_if_f rfl (by first | rfl | assumption) ?_) | (refine awp_if rfl (fun h hp => ?_) (fun h hp => ?_))) | (show thenQ _ _ _ _; first | (refine k_r ?_)) | (show blockQ _ _ _ _; first | (refine b_r ?_)))
      all_goals first
        | (exfalso; omega)
        | exact retA2 (fin _ (find_at _ _ _) (by rw [hE]; exact find_sk (by omega) (find_at _ _ _)) (fun i e1 e2 => by simp only [find_cons, if_neg (Ne.symm e1), if_neg (Ne.symm e2)]))
  · rw [gA, hg] at sg
    by_cases h0 : par = 0
    · have h1' : get T par = none := by unfold get; rw [if_neg (by omega)]
      rw [h1'] at hg; cases hg
    · have hE : addN T a par now = ⟨free T + 1, a, par, later now, 0⟩ := by unfold addN; rw [if_pos (.inl h0)]
      repeat' (first | (show AOps _ _ _ _ _ _; first | (show AOps _ _ _ _ (⟨some _, .move _, _, _, _, none⟩ :: _) _; first | (refine o_y (v_move (v := .ptr _ _) rfl) rfl ?_)) | (show AOps _ _ _ _ (⟨some _, .fieldAddr _ _ _, _, _, _, none⟩ :: _) _; first | (refine o_y (y_fld_ptr rfl rfl) rfl ?_)) | (show AOps _ _ _ _ (⟨some _, .nilCheck _, _, _, _, none⟩ :: _) _; first | (refine o_y (y_nil_ptr rfl) rfl ?_))) | (show IW _ _ _ _ _; first | (refine awp_seq ?_) | (refine awp_region ?_)))
      refine o_sliceCall (cs := tvs T) rfl (frzT h1) (tvs_length T) rfl (fun _ => rfl) (index_spec T) rfl rfl ?_
      repeat' (first | (refine aops_nil ?_) | (show AOps _ _ _ _ _ _; first | (show AOps _ _ _ _ (⟨some _, .build _ _, _, _, _, none⟩ :: _) _; first | (refine o_y (y_build (cs := (Ro.mk (free T + 1) a par 0 0).en) rfl rfl) rfl ?_)) | (show AOps _ _ _ _ (⟨some _, .build _ _, _, _, _, none⟩ :: _) _; first | (refine o_y (y_build (cs := (Ro.mk (free T + 1) a par 0 0).cs) rfl rfl) rfl ?_)) | (show AOps _ _ _ _ (⟨some _, .move _, _, _, _, none⟩ :: _) _; first | (refine o_y (v_move (v := .sc _) rfl) rfl ?_) | (refine o_y (v_move (v := .ptr _ _) rfl) rfl ?_)) | (show AOps _ _ _ _ (⟨some _, .load _ _, _, _, _, none⟩ :: _) _; first | (refine o_y (y_load1 (v := .sc _) rfl (by first | rfl | (repeat (first | assumption | exact find_at _ _ _ | refine find_sk (by omega) ?_))) (by rfl)) rfl ?_) | (refine o_y (y_vload1 (v := .sc _) rfl rfl) rfl ?_) | (refine o_y (y_vloadW rfl rfl) rfl ?_)) | (show AOps _ _ _ _ (⟨some _, .fieldAddr _ _ _, _, _, _, none⟩ :: _) _; first | (refine o_y (y_fld_ptr rfl rfl) rfl ?_) | (refine o_y (y_fld_vptr rfl rfl) rfl ?_)) | (show AOps _ _ _ _ (⟨some _, .nilCheck _, _, _, _, none⟩ :: _) _; first | (refine o_y (y_nil_ptr rfl) rfl ?_)) | (show AOps _ _ _ _ (⟨some _, .assign _, _, _, _, none⟩ :: _) _; first | (refine o_y (v_assign (v := .sc _) rfl) rfl ?_) | (refine o_y (v_assign (v := .ptr _ _) rfl) rfl ?_)) | (show AOps _ _ _ _ (⟨some _, .binOp .add _ _ _ _, _, _, _, none⟩ :: _) _; first | (refine o_y (z_add rfl rfl (by omega) (by omega)) rfl ?_) | (refine o_y (y_bin rfl rfl rfl) rfl ?_)) | (show AOps _ _ _ _ (⟨some _, .binOp _ _ _ _ _, _, _, _, none⟩ :: _) _; first | (refine o_y (y_bin rfl rfl rfl) rfl ?_) | (refine o_y (y_eqNil rfl rfl) rfl ?_)) | (show AOps _ _ _ _ (⟨some _, .pick _ _ _, _, _, _, none⟩ :: _) _; first | (refine o_y (v_pick_t (v := .sc _) rfl (by first | rfl | assumption | exact beq_self_eq_true _ | exact decide_eq_true rfl) rfl) rfl ?_) | (refine o_y (v_pick_f (v := .sc _) rfl (by first | rfl | assumption) rfl) rfl ?_)) | (show AOps _ _ _ _ (⟨some _, .indexAddr _ _ _, _, _, _, none⟩ :: _) _; first | (refine o_y (y_ix_arr rfl rfl (by omega) (by omega)) rfl ?_)) | (show AOps _ _ _ _ (⟨some _, .call ⟨.value (.func 25), _, _⟩, _, _, _, none⟩ :: _) _; first | (refine o_q (q_call (later_spec now hn)) rfl ?_)) | (show AOps _ _ _ _ (⟨_, .call ⟨.value (.func 22), _, _⟩, _, _, _, none⟩ :: _) _; refine o_x (x_callA rfl (st) ?_); rintro _ _ ⟨rfl, rfl⟩) | (show AOps _ _ _ _ (⟨_, .call ⟨.value (.func 24), _, _⟩, _, _, _, none⟩ :: _) _; refine o_x (x_callA rfl (sg) ?_); rintro _ _ ⟨rfl, rfl⟩) | (show AOps _ _ _ _ (⟨_, .store _ _ _, _, _, _, none⟩ :: _) _; first | (refine o_x (s_storeP rfl rfl (by first | rfl | (repeat (first | assumption | exact find_at _ _ _ | refine find_sk (by omega) ?_))) rfl hl0 hput ?_))) | (show AOps _ _ _ _ (⟨_, .store _ _ _, _, _, _, none⟩ :: _) _; first | (refine o_x (s_storeN (v := .sc _) rfl rfl (by first | rfl | (repeat (first | assumption | exact find_at _ _ _ | refine find_sk (by omega) ?_))) (by rfl) (by rfl) (by first | (simp only [List.set_cons_zero, List.set_cons_succ]; rfl) | rfl) ?_))) | (show AOps _ _ _ _ (⟨_, .box _ _, _, _, _, none⟩ :: _) _; first | (refine o_x (b_agg rfl rfl rfl ?_))) | (show AOps _ _ _ _ (⟨_, _, _, _, _, some (_, _)⟩ :: _) _; first | (refine o_g_t rfl rfl rfl (by first | rfl | assumption | exact beq_self_eq_true _ | exact decide_eq_true rfl) ?_) | (refine o_g_f rfl rfl rfl (by first | rfl | assumption) ?_) | (refine o_if rfl rfl rfl (fun h hp => ?_) (fun h hp => ?_)) | (refine o_un rfl rfl rfl (fun h hp => ?_) (fun h hp => ?_)))) | (show IW _ _ _ _ _; first | (refine awp_seq ?_) | (refine awp_region ?_) | (refine awp_block ?_) | (refine awp_ret ?_) | (refine awp_skip ?_) | (refine awp_if_t rfl (by first | rfl | assumption | exact beq_self_eq_true _ | exact decide_eq_true rfl) ?_) | (refine awp_if_f rfl (by first | rfl | assumption) ?_) | (refine awp_if rfl (fun h hp => ?_) (fun h hp => ?_))) | (show thenQ _ _ _ _; first | (refine k_r ?_)) | (show blockQ _ _ _ _; first | (refine b_r ?_)))
      all_goals first
        | (exfalso; omega)
        | exact retA2 (fin _ (find_at _ _ _) (by rw [hE]; exact find_sk (by omega) (find_at _ _ _)) (fun i e1 e2 => by simp only [find_cons, if_neg (Ne.symm e1), if_neg (Ne.symm e2)]))
end Go.Proofs.Ytcidoghpacihpaa.Sx
namespace Go.Proofs.Ytcidoghpacihpaa.Sx
open Go Go.RowKit
attribute [local irreducible] IW AOps AQuiet GQ GY AExec QY Yld ACalls ACallsD
inductive Rch (T : Tb) (g : Ro → Bool) : Nat → Prop
  | base {j : Nat} {e : Ro} : j < 16 → T j = some e → g e = true → Rch T g j
  | step {j : Nat} {e : Ro} : j < 16 → T j = some e → 1 ≤ e.par → e.par ≤ 16 → Rch T g (e.par - 1).toNat → Rch T g j
theorem Rch.lt {T : Tb} {g : Ro → Bool} {j : Nat} (h : Rch T g j) : j < 16 := by cases h <;> assumption
theorem Rch.some {T : Tb} {g : Ro → Bool} {j : Nat} (h : Rch T g j) : ∃ e, T j = some e := by cases h <;> exact ⟨_, by assumption⟩
abbrev kI : Int → Value := fun a => .int .i64 a
abbrev vB : Bool → Value := fun b => .bool b
def gn (N : List (Int × Bool)) (k : Int) : Bool := (alk N k).getD false
theorem gn_val (N : List (Int × Bool)) (k : Int) : ((alk N k).map vB).getD (.bool false) = .bool (gn N k) := by unfold gn; cases alk N k <;> rfl
theorem gn_put (N : List (Int × Bool)) (a k : Int) : gn (aput N a true) k = if a = k then true else gn N k := by unfold gn; rw [alk_aput]; split <;> rfl
/-- Whoever is marked is reached. -/
def Snd (T : Tb) (g : Ro → Bool) (N : List (Int × Bool)) : Prop := ∀ k, gn N k = true → 1 ≤ k ∧ k ≤ 16 ∧ Rch T g (k - 1).toNat
/-- Nobody is left at the slots below i. -/
def Cls (T : Tb) (g : Ro → Bool) (N : List (Int × Bool)) (i : Nat) : Prop := ∀ j e, j < i → T j = some e → gn N e.id = false → g e = false ∧ gn N e.par = false
def cntN (T : Tb) (N : List (Int × Bool)) : Nat → Nat
  | 0 => 0
  | n + 1 => cntN T N n + (match T n with | none => 0 | some e => if gn N e.id then 0 else 1)
theorem cntN_le {T : Tb} {N N' : List (Int × Bool)} (h : ∀ k, gn N k = true → gn N' k = true) : ∀ n, cntN T N' n ≤ cntN T N n
  | 0 => Nat.le_refl _
  | n + 1 => by
    have := cntN_le (T := T) h n
    unfold cntN
    cases T n with
    | none => simpa using this
    | some e =>
      have hm : (if gn N' e.id = true then 0 else 1) ≤ (if gn N e.id = true then 0 else 1) := by
        by_cases h2 : gn N e.id = true
        · rw [if_pos h2, if_pos (h _ h2)]; exact Nat.le_refl _
        · rw [if_neg h2]; split <;> omega
      show cntN T N' n + (if gn N' e.id = true then 0 else 1) ≤ cntN T N n + (if gn N e.id = true then 0 else 1)
      omega
theorem cntN_lt {T : Tb} {N N' : List (Int × Bool)} (h : ∀ k, gn N k = true → gn N' k = true) {i : Nat} {e : Ro} (hT : T i = some e) (h0 : gn N e.id = false) (h1 : gn N' e.id = true) : ∀ {n : Nat}, i < n → cntN T N' n < cntN T N n
  | 0, hn => by omega
  | n + 1, hn => by
    unfold cntN
    by_cases e' : i = n
    · subst e'
      have := cntN_le (T := T) h i
      rw [hT]
      simp [h0, h1]
      omega
    · have ih := cntN_lt h hT h0 h1 (n := n) (by omega)
      cases T n with
      | none => simpa using ih
      | some e2 =>
        have hm : (if gn N' e2.id = true then 0 else 1) ≤ (if gn N e2.id = true then 0 else 1) := by
          by_cases h2 : gn N e2.id = true
          · rw [if_pos h2, if_pos (h _ h2)]; exact Nat.le_refl _
          · rw [if_neg h2]; split <;> omega
        show cntN T N' n + (if gn N' e2.id = true then 0 else 1) < cntN T N n + (if gn N e2.id = true then 0 else 1)
        omega
theorem marked {T : Tb} {g : Ro → Bool} {N : List (Int × Bool)} (hok : ok T) (hs : Snd T g N) (hc : Cls T g N 16) : ∀ j, Rch T g j → ∀ e, T j = some e → gn N e.id = true := fun j h => by
  induction h with
  | base hj hT hg =>
    intro e he
    rw [hT] at he; cases he
    cases h1 : gn N _ with
    | true => rfl
    | false => exact absurd hg (by rw [(hc _ _ hj hT h1).1]; simp)
  | @step j e0 hj hT hp0 hp1 hr ih =>
    intro e he
    rw [hT] at he; cases he
    cases h1 : gn N _ with
    | true => rfl
    | false =>
      obtain ⟨ep, hep⟩ := hr.some
      have := ih ep hep
      rw [hok _ _ hr.lt hep, show (((e0.par - 1).toNat : Nat) : Int) + 1 = e0.par by omega] at this
      rw [(hc _ _ hj hT h1).2] at this
      cases this
def delT (T : Tb) (G : Nat → Bool) (j : Nat) : Option Ro := if G j then none else T j
def dids (T : Tb) (G : Nat → Bool) : Nat → List Int
  | 0 => []
  | n + 1 => dids T G n ++ (match T n with | none => [] | some e => if G n then [e.id] else [])
theorem dids_le (T : Tb) (G : Nat → Bool) : ∀ n, (dids T G n).length ≤ n
  | 0 => Nat.le_refl _
  | n + 1 => by
    have := dids_le T G n
    unfold dids
    rw [List.length_append]
    cases T n with
    | none => simp; omega
    | some e => cases G n <;> simp <;> omega
def DropR (t : Nat) (T : Tb) (P : Nat → Nat) (S : Hp) (g : Ro → Bool) (r : AV) (S' : Hp) : Prop :=
  ∃ G : Nat → Bool, (∀ j, j < 16 → (G j = true ↔ Rch T g j)) ∧ Fr S S' (fun i => i = t) ∧ TH t (delT T G) P S' ∧ ∃ k, S.nxt ≤ k ∧ k < S'.nxt ∧ r = .sl k 0 (dids T G 16).length ∧ find k S'.bs = some ⟨nums (dids T G 16), 1, 3⟩
end Go.Proofs.Ytcidoghpacihpaa.Sx
