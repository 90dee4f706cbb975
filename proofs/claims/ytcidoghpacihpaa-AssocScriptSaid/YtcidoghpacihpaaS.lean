/- Associations are mobilised. Whoever is not known. What a table keeps. What a route tells. What bounds a table: no two alike, and what is configured stays. -/
import Derived.Test.YtcidoghpacihpaaK
namespace Go.Proofs.Ytcidoghpacihpaa.Sx
open Go Go.RowKit
attribute [local irreducible] IW AOps AQuiet GQ GY AExec QY Yld ACalls ACallsD
attribute [local irreducible] tvs tcs
def mobN (kind : Int) (p : S45) (frm : Int) : As := ⟨kind, frm, p.f14, min (max p.f4 3) 10, 10, false, false, false, 0, false, 0, 0⟩
def mobF (a : As) (frm : Int) : As := ⟨9, frm, a.key, a.minp, a.maxp, false, true, false, 0, false, 0, 0⟩
def mob (T : Tb) (act par : Int) (p : S45) (frm : Int) : Except Int (As × Int) :=
  if act = 3 then .ok (mobN 7 p frm, 0) else if act = 4 then .ok (mobN 8 p frm, 0)
  else if act = 5 then match get T par with | none => .error 121 | some e => if srch e.a = true then .ok (mobF e.a frm, par) else .error 121
  else .error 1
def MobR (t : Nat) (T : Tb) (P : Nat → Nat) (S : Hp) (act par : Int) (p : S45) (frm now : Int) (r : AV) (S' : Hp) : Prop := match mob T act par p frm with
  | .error c => r = .tup [.sc (.int .i64 0), .sc (.int .i64 c)] ∧ Fr S S' (fun _ => False) ∧ TH t T P S'
  | .ok (a, q) => ∃ S1, Fr S S1 (fun _ => False) ∧ AddR t T P S1 a q now r S'
set_option maxHeartbeats 4000000 in
theorem mob_spec {t : Nat} {T : Tb} {P : Nat → Nat} {S : Hp} (hT0 : TH t T P S) (act par : Int) (p : S45) (frm now : Int) (hn : -9223372036854775808 ≤ now) : ACalls Try.prog 14 [.ptr t 0, .sc (.int .i64 act), .sc (.int .i64 par), .agg p.cs, .sc (.int .u32 frm), .sc (.int .i64 now)] S (MobR t T P S act par p frm now) := by
  obtain ⟨n, bs⟩ := S
  have hlt : t < n := hT0.lt
  refine enterA6 Try.func14 rfl 80 [.tmp 12, .tmp 13] rfl rfl ?_
  repeat' (first | (refine aops_nil ?_) | (show AOps _ _ _ _ _ _; first | (show AOps _ _ _ _ (⟨some _, .build _ _, _, _, _, none⟩ :: _) _; first | (refine o_y (y_build (cs := (mobN 0 p frm).cs) rfl rfl) rfl ?_)) | (show AOps _ _ _ _ (⟨some _, .move _, _, _, _, none⟩ :: _) _; first | (refine o_y (v_move (v := .sc _) rfl) rfl ?_)) | (show AOps _ _ _ _ (⟨some _, .load _ _, _, _, _, none⟩ :: _) _; first | (refine o_y (y_load1 (v := .sc _) rfl (by first | rfl | (repeat (first | assumption | exact find_at _ _ _ | refine find_sk (by omega) ?_))) (by rfl)) rfl ?_)) | (show AOps _ _ _ _ (⟨some _, .fieldAddr _ _ _, _, _, _, none⟩ :: _) _; first | (refine o_y (y_fld_ptr rfl rfl) rfl ?_)) | (show AOps _ _ _ _ (⟨some _, .assign _, _, _, _, none⟩ :: _) _; first | (refine o_y (v_assign (v := .sc _) rfl) rfl ?_)) | (show AOps _ _ _ _ (⟨some _, .call ⟨.builtin .max, _, _⟩, _, _, _, none⟩ :: _) _; first | (refine o_y (y_max2 rfl rfl) rfl ?_)) | (show AOps _ _ _ _ (⟨some _, .call ⟨.builtin .min, _, _⟩, _, _, _, none⟩ :: _) _; first | (refine o_y (y_min2 rfl rfl) rfl ?_)) | (show AOps _ _ _ _ (⟨_, .store _ _ _, _, _, _, none⟩ :: _) _; first | (refine o_x (s_storeW rfl rfl (by first | rfl | (repeat (first | assumption | exact find_at _ _ _ | refine find_sk (by omega) ?_))) (by rfl) (by rfl) (by first | rfl | assumption) ?_))) | (show AOps _ _ _ _ (⟨_, .box _ _, _, _, _, none⟩ :: _) _; first | (refine o_x (b_agg rfl rfl rfl ?_))) | (show AOps _ _ _ _ (⟨_, .alloc _, _, _, _, none⟩ :: _) _; first | (refine o_x (a_new (by first | (simp only [AV.ofV, AV.cells, List.map_cons, List.map_nil]; rfl) | rfl) rfl rfl rfl ?_)))) | (show IW _ _ [.code (.seq _ _)] _ _; first | (show AWP _ _ (.seq (.seq _ _) _) _ _; refine awp_seq ?_) | (show AWP _ _ (.seq (.region 0 _ _) _) _ _; refine awp_seq ?_) | (show AWP _ _ (.seq (.region 1 _ _) _) _ _; refine awp_seq ?_)) | (show IW _ _ _ _ _; first | (refine awp_region ?_)))
  have thp : ∀ l : List (Nat × Option Blk), (∀ q ∈ l, n ≤ q.1) → TH t T P ⟨n + 1 + 1, l ++ bs⟩ ∧ Fr ⟨n, bs⟩ ⟨n + 1 + 1, l ++ bs⟩ fun _ => False := fun l hl => by
    have hf : Fr ⟨n, bs⟩ ⟨n + 1 + 1, l ++ bs⟩ fun _ => False := by
      induction l with
      | nil => exact ⟨by show n ≤ n + 1 + 1; omega, fun _ _ _ => rfl⟩
      | cons q l ih => exact (ih fun x hx => hl x (by simp [hx])).push (k := q.1) (b := q.2) (.inr (hl q (by simp))) (Nat.le_refl _)
    exact ⟨hT0.keep hf (by simp) (fun _ _ _ _ => by simp), hf⟩
  by_cases h3 : act = 3
  · have hm : mob T act par p frm = .ok (mobN 7 p frm, 0) := by unfold mob; rw [if_pos h3]
    obtain ⟨g1, g2⟩ := thp [(n + 1, some ⟨(mobN 7 p frm).cs, 12, 40⟩), (n + 1, some ⟨(mobN 0 p frm).cs, 12, 40⟩), (n + 1, some ⟨zAs.cs, 12, 40⟩), (n, some ⟨p.cs, p.cs.length, 46⟩)] (by simp)
    have sa := add_spec g1 (mobN 7 p frm) 0 now hn
    repeat' (first | (refine aops_nil ?_) | (show AOps _ _ _ _ _ _; first | (show AOps _ _ _ _ (⟨some _, .move _, _, _, _, none⟩ :: _) _; first | (refine o_y (v_move (v := .sc _) rfl) rfl ?_) | (refine o_y (v_move (v := .ptr _ _) rfl) rfl ?_)) | (show AOps _ _ _ _ (⟨some _, .load _ _, _, _, _, none⟩ :: _) _; first | (refine o_y (y_loadW rfl (by first | rfl | (repeat (first | assumption | exact find_at _ _ _ | refine find_sk (by omega) ?_))) (by rfl)) rfl ?_)) | (show AOps _ _ _ _ (⟨some _, .fieldAddr _ _ _, _, _, _, none⟩ :: _) _; first | (refine o_y (y_fld_ptr rfl rfl) rfl ?_)) | (show AOps _ _ _ _ (⟨some _, .assign _, _, _, _, none⟩ :: _) _; first | (refine o_y (v_assign (v := .sc _) rfl) rfl ?_)) | (show AOps _ _ _ _ (⟨some _, .binOp _ _ _ _ _, _, _, _, none⟩ :: _) _; first | (refine o_y (y_bin rfl rfl rfl) rfl ?_)) | (show AOps _ _ _ _ (⟨some _, .extract _ _, _, _, _, none⟩ :: _) _; first | (refine o_y (y_extract (v := .sc _) rfl rfl) rfl ?_)) | (show AOps _ _ _ _ (⟨_, .call ⟨.value (.func 12), _, _⟩, _, _, _, none⟩ :: _) _; refine o_x (x_callA rfl (sa) ?_); rintro _ ⟨m1, b1⟩ ⟨rfl, q2, q3⟩) | (show AOps _ _ _ _ (⟨_, .store _ _ _, _, _, _, none⟩ :: _) _; first | (refine o_x (s_storeN (v := .sc _) rfl rfl (by first | rfl | (repeat (first | assumption | exact find_at _ _ _ | refine find_sk (by omega) ?_))) (by rfl) (by rfl) (by first | (simp only [List.set_cons_zero, List.set_cons_succ]; rfl) | rfl) ?_)))) | (show IW _ _ _ _ _; first | (refine awp_seq ?_) | (refine awp_region ?_) | (refine awp_block ?_) | (refine awp_ret ?_) | (refine awp_if rfl (fun h hp => ?_) (fun h hp => ?_))) | (show thenQ _ _ _ _; first | (refine k_r ?_)) | (show blockQ _ _ _ _; first | (refine b_r ?_)))
    all_goals first
      | (exfalso; omega)
      | exact retA2 (by unfold MobR; rw [hm]; exact ⟨_, g2, rfl, q2, q3⟩)
  by_cases h4 : act = 4
  · have hm : mob T act par p frm = .ok (mobN 8 p frm, 0) := by unfold mob; rw [if_neg h3, if_pos h4]
    obtain ⟨g1, g2⟩ := thp [(n + 1, some ⟨(mobN 8 p frm).cs, 12, 40⟩), (n + 1, some ⟨(mobN 0 p frm).cs, 12, 40⟩), (n + 1, some ⟨zAs.cs, 12, 40⟩), (n, some ⟨p.cs, p.cs.length, 46⟩)] (by simp)
    have sa := add_spec g1 (mobN 8 p frm) 0 now hn
    repeat' (first | (refine aops_nil ?_) | (show AOps _ _ _ _ _ _; first | (show AOps _ _ _ _ (⟨some _, .move _, _, _, _, none⟩ :: _) _; first | (refine o_y (v_move (v := .sc _) rfl) rfl ?_) | (refine o_y (v_move (v := .ptr _ _) rfl) rfl ?_)) | (show AOps _ _ _ _ (⟨some _, .load _ _, _, _, _, none⟩ :: _) _; first | (refine o_y (y_loadW rfl (by first | rfl | (repeat (first | assumption | exact find_at _ _ _ | refine find_sk (by omega) ?_))) (by rfl)) rfl ?_)) | (show AOps _ _ _ _ (⟨some _, .fieldAddr _ _ _, _, _, _, none⟩ :: _) _; first | (refine o_y (y_fld_ptr rfl rfl) rfl ?_)) | (show AOps _ _ _ _ (⟨some _, .assign _, _, _, _, none⟩ :: _) _; first | (refine o_y (v_assign (v := .sc _) rfl) rfl ?_)) | (show AOps _ _ _ _ (⟨some _, .binOp _ _ _ _ _, _, _, _, none⟩ :: _) _; first | (refine o_y (y_bin rfl rfl rfl) rfl ?_)) | (show AOps _ _ _ _ (⟨some _, .extract _ _, _, _, _, none⟩ :: _) _; first | (refine o_y (y_extract (v := .sc _) rfl rfl) rfl ?_)) | (show AOps _ _ _ _ (⟨_, .call ⟨.value (.func 12), _, _⟩, _, _, _, none⟩ :: _) _; refine o_x (x_callA rfl (sa) ?_); rintro _ ⟨m1, b1⟩ ⟨rfl, q2, q3⟩) | (show AOps _ _ _ _ (⟨_, .store _ _ _, _, _, _, none⟩ :: _) _; first | (refine o_x (s_storeN (v := .sc _) rfl rfl (by first | rfl | (repeat (first | assumption | exact find_at _ _ _ | refine find_sk (by omega) ?_))) (by rfl) (by rfl) (by first | (simp only [List.set_cons_zero, List.set_cons_succ]; rfl) | rfl) ?_)))) | (show IW _ _ _ _ _; first | (refine awp_seq ?_) | (refine awp_region ?_) | (refine awp_block ?_) | (refine awp_ret ?_) | (refine awp_if rfl (fun h hp => ?_) (fun h hp => ?_))) | (show thenQ _ _ _ _; first | (refine k_r ?_)) | (show blockQ _ _ _ _; first | (refine b_r ?_)))
    all_goals first
      | (exfalso; omega)
      | exact retA2 (by unfold MobR; rw [hm]; exact ⟨_, g2, rfl, q2, q3⟩)
  obtain ⟨g1, g2⟩ := thp [(n + 1, some ⟨(mobN 0 p frm).cs, 12, 40⟩), (n + 1, some ⟨zAs.cs, 12, 40⟩), (n, some ⟨p.cs, p.cs.length, 46⟩)] (by simp)
  by_cases h5 : act = 5
  · have hm : mob T act par p frm = match get T par with | none => .error 121 | some e => if srch e.a = true then .ok (mobF e.a frm, par) else .error 121 := by unfold mob; rw [if_neg h3, if_neg h4, if_pos h5]
    have sg := getA_spec g1 par
    cases hg : get T par with
    | none =>
      rw [hg] at hm
      rw [gA, hg] at sg
      repeat' (first | (refine aops_nil ?_) | (show AOps _ _ _ _ _ _; first | (show AOps _ _ _ _ (⟨some _, .move _, _, _, _, none⟩ :: _) _; first | (refine o_y (v_move (v := .sc _) rfl) rfl ?_) | (refine o_y (v_move (v := .ptr _ _) rfl) rfl ?_)) | (show AOps _ _ _ _ (⟨some _, .fieldAddr _ _ _, _, _, _, none⟩ :: _) _; first | (refine o_y (y_fld_ptr rfl rfl) rfl ?_)) | (show AOps _ _ _ _ (⟨some _, .assign _, _, _, _, none⟩ :: _) _; first | (refine o_y (v_assign (v := .sc _) rfl) rfl ?_)) | (show AOps _ _ _ _ (⟨some _, .binOp _ _ _ _ _, _, _, _, none⟩ :: _) _; first | (refine o_y (y_bin rfl rfl rfl) rfl ?_) | (refine o_y (y_eqNil0 rfl rfl) rfl ?_)) | (show AOps _ _ _ _ (⟨some _, .pick _ _ _, _, _, _, none⟩ :: _) _; first | (refine o_y (v_pick_t (v := .sc _) rfl (by first | rfl | assumption | exact beq_self_eq_true _ | exact decide_eq_true rfl) rfl) rfl ?_)) | (show AOps _ _ _ _ (⟨_, .call ⟨.value (.func 24), _, _⟩, _, _, _, none⟩ :: _) _; refine o_x (x_callA rfl (sg) ?_); rintro _ _ ⟨rfl, rfl⟩) | (show AOps _ _ _ _ (⟨_, _, _, _, _, some (_, _)⟩ :: _) _; first | (refine o_g_f rfl rfl rfl (by first | rfl | assumption) ?_))) | (show IW _ _ _ _ _; first | (refine awp_seq ?_) | (refine awp_region ?_) | (refine awp_block ?_) | (refine awp_ret ?_) | (refine awp_if_t rfl (by first | rfl | assumption | exact beq_self_eq_true _ | exact decide_eq_true rfl) ?_) | (refine awp_if rfl (fun h hp => ?_) (fun h hp => ?_))) | (show thenQ _ _ _ _; first | (refine k_r ?_)) | (show blockQ _ _ _ _; first | (refine b_r ?_)))
      all_goals first
        | (exfalso; omega)
        | (exfalso; simp at *; done)
        | exact retA2 (by unfold MobR; rw [hm]; exact ⟨rfl, g2, g1⟩)
    | some e =>
      rw [hg] at hm
      rw [gA, hg] at sg
      have hpr : 1 ≤ par ∧ par ≤ 16 := by
        unfold get at hg
        split at hg
        · assumption
        · cases hg
      have hTe : T (par - 1).toNat = some e := by unfold get at hg; rw [if_pos hpr] at hg; exact hg
      obtain ⟨k1, k2, k3⟩ := hT0.sl _ e (by omega) hTe
      have k3' : P (par - 1).toNat < n := k3
      dsimp only at k1
      have ss := search_spec e.a
      have vE : (e.cs.drop (0 + 0 + 1)).take 12 = e.a.cs := rfl
      repeat' (first | (refine aops_nil ?_) | (show AOps _ _ _ _ _ _; first | (show AOps _ _ _ _ (⟨some _, .move _, _, _, _, none⟩ :: _) _; first | (refine o_y (v_move (v := .sc _) rfl) rfl ?_) | (refine o_y (v_move (v := .ptr _ _) rfl) rfl ?_)) | (show AOps _ _ _ _ (⟨some _, .assign _, _, _, _, none⟩ :: _) _; first | (refine o_y (v_assign (v := .sc _) rfl) rfl ?_) | (refine o_y (v_assign (v := .ptr _ _) rfl) rfl ?_)) | (show AOps _ _ _ _ (⟨some _, .binOp _ _ _ _ _, _, _, _, none⟩ :: _) _; first | (refine o_y (y_bin rfl rfl rfl) rfl ?_)) | (show AOps _ _ _ _ (⟨_, .call ⟨.value (.func 24), _, _⟩, _, _, _, none⟩ :: _) _; refine o_x (x_callA rfl (sg) ?_); rintro _ _ ⟨rfl, rfl⟩)) | (show IW _ _ [.code (.seq _ _)] _ _; first | (show AWP _ _ (.seq (.seq _ _) _) _ _; refine awp_seq ?_) | (show AWP _ _ (.seq (.region 2 _ _) _) _ _; refine awp_seq ?_) | (show AWP _ _ (.seq (.region 3 _ _) _) _ _; refine awp_seq ?_) | (show AWP _ _ (.seq (.region 4 _ _) _) _ _; refine awp_seq ?_) | (show AWP _ _ (.seq (.region 6 _ _) _) _ _; refine awp_seq ?_) | (show AWP _ _ (.seq (.region 8 _ _) _) _ _; refine awp_seq ?_) | (show AWP _ _ (.seq (.region 9 _ _) _) _ _; refine awp_seq ?_)) | (show IW _ _ _ _ _; first | (refine awp_region ?_) | (refine awp_block ?_) | (refine awp_ret ?_) | (refine awp_if rfl (fun h hp => ?_) (fun h hp => ?_))) | (show thenQ _ _ _ _; first | (refine k_r ?_)) | (show blockQ _ _ _ _; first | (refine b_r ?_)))
      all_goals try (exfalso; omega)
      by_cases hs : srch e.a = true
      · rw [hs] at ss
        obtain ⟨g3, g4⟩ := thp [(n + 1, some ⟨(mobF e.a frm).cs, 12, 40⟩), (n + 1, some ⟨(mobN 0 p frm).cs, 12, 40⟩), (n + 1, some ⟨zAs.cs, 12, 40⟩), (n, some ⟨p.cs, p.cs.length, 46⟩)] (by simp)
        have sa := add_spec g3 (mobF e.a frm) par now hn
        repeat' (first | (show AWP _ _ (.region 12 _ true) _ _; refine awp_draw 20 (by kernel_rfl) ?_) | (refine aops_nil ?_) | (show AOps _ _ _ _ _ _; first | (show AOps _ _ _ _ (⟨some _, .move _, _, _, _, none⟩ :: _) _; first | (refine o_y (v_move (v := .sc _) rfl) rfl ?_) | (refine o_y (v_move (v := .ptr _ _) rfl) rfl ?_)) | (show AOps _ _ _ _ (⟨some _, .load _ _, _, _, _, none⟩ :: _) _; first | (refine o_y (y_loadW rfl (by first | rfl | (repeat (first | assumption | exact find_at _ _ _ | refine find_sk (by omega) ?_))) (by rfl)) rfl ?_) | (refine o_y (y_loadA rfl (by first | rfl | (repeat (first | assumption | exact find_at _ _ _ | refine find_sk (by omega) ?_))) (by rfl)) rfl ?_)) | (show AOps _ _ _ _ (⟨some _, .fieldAddr _ _ _, _, _, _, none⟩ :: _) _; first | (refine o_y (y_fld_ptr rfl rfl) rfl ?_)) | (show AOps _ _ _ _ (⟨some _, .nilCheck _, _, _, _, none⟩ :: _) _; first | (refine o_y (y_nil_ptr rfl) rfl ?_)) | (show AOps _ _ _ _ (⟨some _, .assign _, _, _, _, none⟩ :: _) _; first | (refine o_y (v_assign (v := .sc _) rfl) rfl ?_)) | (show AOps _ _ _ _ (⟨some _, .binOp _ _ _ _ _, _, _, _, none⟩ :: _) _; first | (refine o_y (y_eqNil rfl rfl) rfl ?_)) | (show AOps _ _ _ _ (⟨some _, .pick _ _ _, _, _, _, none⟩ :: _) _; first | (refine o_y (v_pick_f (v := .sc _) rfl (by first | rfl | assumption) rfl) rfl ?_)) | (show AOps _ _ _ _ (⟨some _, .unOp _ _ _, _, _, _, none⟩ :: _) _; first | (refine o_y (y_not rfl) rfl ?_)) | (show AOps _ _ _ _ (⟨some _, .extract _ _, _, _, _, none⟩ :: _) _; first | (refine o_y (y_extract (v := .sc _) rfl rfl) rfl ?_)) | (show AOps _ _ _ _ (⟨some _, .call ⟨.value (.func 28), _, _⟩, _, _, _, none⟩ :: _) _; first | (refine o_q (q_call (ss)) rfl ?_)) | (show AOps _ _ _ _ (⟨_, .call ⟨.value (.func 12), _, _⟩, _, _, _, none⟩ :: _) _; refine o_x (x_callA rfl (sa) ?_); rintro _ ⟨m1, b1⟩ ⟨rfl, q2, q3⟩) | (show AOps _ _ _ _ (⟨_, .store _ _ _, _, _, _, none⟩ :: _) _; first | (refine o_x (s_storeW rfl rfl (by first | rfl | (repeat (first | assumption | exact find_at _ _ _ | refine find_sk (by omega) ?_))) (by rfl) (by rfl) (by first | rfl | assumption) ?_))) | (show AOps _ _ _ _ (⟨_, _, _, _, _, some (_, _)⟩ :: _) _; first | (refine o_g_t rfl rfl rfl (by first | rfl | assumption | exact beq_self_eq_true _ | exact decide_eq_true rfl) ?_))) | (refine aq_nil ?_) | (show AQuiet _ _ _ _ _ _; first | (show AQuiet _ _ _ (⟨some _, .build _ _, _, _, _, none⟩ :: _) _ _; first | (refine q_y (y_build (cs := (mobF e.a frm).cs) rfl rfl) rfl ?_)) | (show AQuiet _ _ _ (⟨some _, .move _, _, _, _, none⟩ :: _) _ _; first | (refine q_y (v_move (v := .sc _) rfl) rfl ?_) | (refine q_y (v_move (v := .ptr _ _) rfl) rfl ?_)) | (show AQuiet _ _ _ (⟨some _, .load _ _, _, _, _, none⟩ :: _) _ _; first | (refine q_y (y_load1 (v := .sc _) rfl (by first | rfl | (repeat (first | assumption | exact find_at _ _ _ | refine find_sk (by omega) ?_))) (by rfl)) rfl ?_)) | (show AQuiet _ _ _ (⟨some _, .fieldAddr _ _ _, _, _, _, none⟩ :: _) _ _; first | (refine q_y (y_fld_ptr rfl rfl) rfl ?_)) | (show AQuiet _ _ _ (⟨some _, .nilCheck _, _, _, _, none⟩ :: _) _ _; first | (refine q_y (y_nil_ptr rfl) rfl ?_))) | (show IW _ _ _ _ _; first | (refine awp_seq ?_) | (refine awp_region ?_) | (refine awp_ret ?_) | (refine awp_skip ?_) | (refine awp_if_f rfl (by first | rfl | assumption) ?_)) | (show thenQ _ _ _ _; first | (refine k_r ?_)) | (show blockQ _ _ _ _; first | (refine b_r ?_)))
        all_goals first
          | (exfalso; simp at *; done)
          | exact retA2 (by unfold MobR; rw [hm]; dsimp only; rw [if_pos hs]; exact ⟨_, g4, rfl, q2, q3⟩)
      · rw [Bool.eq_false_iff.2 hs] at ss
        repeat' (first | (refine aops_nil ?_) | (show AOps _ _ _ _ _ _; first | (show AOps _ _ _ _ (⟨some _, .move _, _, _, _, none⟩ :: _) _; first | (refine o_y (v_move (v := .sc _) rfl) rfl ?_) | (refine o_y (v_move (v := .ptr _ _) rfl) rfl ?_)) | (show AOps _ _ _ _ (⟨some _, .load _ _, _, _, _, none⟩ :: _) _; first | (refine o_y (y_loadA rfl (by first | rfl | (repeat (first | assumption | exact find_at _ _ _ | refine find_sk (by omega) ?_))) (by rfl)) rfl ?_)) | (show AOps _ _ _ _ (⟨some _, .fieldAddr _ _ _, _, _, _, none⟩ :: _) _; first | (refine o_y (y_fld_ptr rfl rfl) rfl ?_)) | (show AOps _ _ _ _ (⟨some _, .nilCheck _, _, _, _, none⟩ :: _) _; first | (refine o_y (y_nil_ptr rfl) rfl ?_)) | (show AOps _ _ _ _ (⟨some _, .assign _, _, _, _, none⟩ :: _) _; first | (refine o_y (v_assign (v := .sc _) rfl) rfl ?_)) | (show AOps _ _ _ _ (⟨some _, .binOp _ _ _ _ _, _, _, _, none⟩ :: _) _; first | (refine o_y (y_eqNil rfl rfl) rfl ?_)) | (show AOps _ _ _ _ (⟨some _, .pick _ _ _, _, _, _, none⟩ :: _) _; first | (refine o_y (v_pick_f (v := .sc _) rfl (by first | rfl | assumption) rfl) rfl ?_)) | (show AOps _ _ _ _ (⟨some _, .unOp _ _ _, _, _, _, none⟩ :: _) _; first | (refine o_y (y_not rfl) rfl ?_)) | (show AOps _ _ _ _ (⟨some _, .call ⟨.value (.func 28), _, _⟩, _, _, _, none⟩ :: _) _; first | (refine o_q (q_call (ss)) rfl ?_)) | (show AOps _ _ _ _ (⟨_, _, _, _, _, some (_, _)⟩ :: _) _; first | (refine o_g_t rfl rfl rfl (by first | rfl | assumption | exact beq_self_eq_true _ | exact decide_eq_true rfl) ?_))) | (show IW _ _ _ _ _; first | (refine awp_seq ?_) | (refine awp_region ?_) | (refine awp_ret ?_) | (refine awp_if_t rfl (by first | rfl | assumption | exact beq_self_eq_true _ | exact decide_eq_true rfl) ?_)) | (show thenQ _ _ _ _; first | (refine k_r ?_)) | (show blockQ _ _ _ _; first | (refine b_r ?_)))
        all_goals first
          | (exfalso; simp at *; done)
          | exact retA2 (by unfold MobR; rw [hm]; dsimp only; rw [if_neg hs]; exact ⟨rfl, g2, g1⟩)
  · have hm : mob T act par p frm = .error 1 := by unfold mob; rw [if_neg h3, if_neg h4, if_neg h5]
    repeat' (first | (refine aops_nil ?_) | (show AOps _ _ _ _ _ _; first | (show AOps _ _ _ _ (⟨some _, .move _, _, _, _, none⟩ :: _) _; first | (refine o_y (v_move (v := .sc _) rfl) rfl ?_) | (refine o_y (v_move (v := .ptr _ _) rfl) rfl ?_)) | (show AOps _ _ _ _ (⟨some _, .assign _, _, _, _, none⟩ :: _) _; first | (refine o_y (v_assign (v := .sc _) rfl) rfl ?_)) | (show AOps _ _ _ _ (⟨some _, .binOp _ _ _ _ _, _, _, _, none⟩ :: _) _; first | (refine o_y (y_bin rfl rfl rfl) rfl ?_))) | (show IW _ _ _ _ _; first | (refine awp_seq ?_) | (refine awp_region ?_) | (refine awp_block ?_) | (refine awp_ret ?_) | (refine awp_if rfl (fun h hp => ?_) (fun h hp => ?_))) | (show thenQ _ _ _ _; first | (refine k_r ?_)) | (show blockQ _ _ _ _; first | (refine b_r ?_)))
    all_goals first
      | (exfalso; omega)
      | exact retA2 (by unfold MobR; rw [hm]; exact ⟨rfl, g2, g1⟩)
end Go.Proofs.Ytcidoghpacihpaa.Sx
namespace Go.Proofs.Ytcidoghpacihpaa.Sx
open Go Go.RowKit
attribute [local irreducible] IW AOps AQuiet GQ GY AExec QY Yld ACalls ACallsD
attribute [local irreducible] tvs tcs
def unk (T : Tb) (frm : Int) : Bool := match get T (find1 T frm) with | none => true | some e => decide (e.a.kind = 0)
theorem unknown_spec (T : Tb) (hT : ok T) (frm : Int) : ACalls Try.prog 17 [.vptr (tvs T) 0, .sc (.int .u32 frm)] ⟨0, []⟩ (fun r _ => r = .sc (.bool (unk T frm))) := by
  have sf := find_spec T hT frm
  have sg := getE_spec T (find1 T frm)
  unfold gE at sg
  unfold unk
  cases hg : get T (find1 T frm) with
  | none =>
    rw [hg] at sg
    dsimp only at sg
    refine enter2 Try.func17 rfl 23 0 [.tmp 4] rfl rfl rfl ?_
    repeat' (first | (refine aops_nil ?_) | (show AOps _ _ _ _ _ _; first | (show AOps _ _ _ _ (⟨some _, .move _, _, _, _, none⟩ :: _) _; first | (refine o_y (v_move (v := .sc _) rfl) rfl ?_) | (refine o_y (v_move (v := .vptr _ _) rfl) rfl ?_) | (refine o_y (v_move (v := .tup _) rfl) rfl ?_)) | (show AOps _ _ _ _ (⟨some _, .assign _, _, _, _, none⟩ :: _) _; first | (refine o_y (v_assign (v := .sc _) rfl) rfl ?_)) | (show AOps _ _ _ _ (⟨some _, .pick _ _ _, _, _, _, none⟩ :: _) _; first | (refine o_y (v_pick_t (v := .sc _) rfl (by first | rfl | assumption | exact beq_self_eq_true _ | exact decide_eq_true rfl) rfl) rfl ?_)) | (show AOps _ _ _ _ (⟨some _, .unOp _ _ _, _, _, _, none⟩ :: _) _; first | (refine o_y (y_not rfl) rfl ?_)) | (show AOps _ _ _ _ (⟨some _, .extract _ _, _, _, _, none⟩ :: _) _; first | (refine o_y (y_extract (v := .sc _) rfl rfl) rfl ?_) | (refine o_y (y_extract (v := .agg _) rfl rfl) rfl ?_)) | (show AOps _ _ _ _ (⟨some _, .call ⟨.value (.func 15), _, _⟩, _, _, _, none⟩ :: _) _; refine o_gg (g_call (sg) rfl) rfl ?_) | (show AOps _ _ _ _ (⟨some _, .call ⟨.value (.func 29), _, _⟩, _, _, _, none⟩ :: _) _; first | (refine o_q (q_call (sf)) rfl ?_)) | (show AOps _ _ _ _ (⟨_, .store _ _ _, _, _, _, none⟩ :: _) _; first | (refine o_x (s_storeW rfl rfl rfl rfl rfl (by first | rfl | assumption) ?_))) | (show AOps _ _ _ _ (⟨_, .alloc _, _, _, _, none⟩ :: _) _; first | (refine o_x (a_new (by first | (simp only [AV.ofV, AV.cells, List.map_cons, List.map_nil]; rfl) | rfl) rfl rfl rfl ?_))) | (show AOps _ _ _ _ (⟨_, _, _, _, _, some (_, _)⟩ :: _) _; first | (refine o_g_f rfl rfl rfl (by first | rfl | assumption) ?_))) | (show IW _ _ _ _ _; first | (refine awp_seq ?_) | (refine awp_region ?_) | (refine awp_ret ?_)))
    all_goals first | (exfalso; simp at *; done) | exact ret1 [] (by decide) rfl rfl
  | some e =>
    rw [hg] at sg
    dsimp only at sg
    refine enter2 Try.func17 rfl 23 0 [.tmp 4] rfl rfl rfl ?_
    repeat' (first | (refine aops_nil ?_) | (show AOps _ _ _ _ _ _; first | (show AOps _ _ _ _ (⟨some _, .move _, _, _, _, none⟩ :: _) _; first | (refine o_y (v_move (v := .sc _) rfl) rfl ?_) | (refine o_y (v_move (v := .vptr _ _) rfl) rfl ?_) | (refine o_y (v_move (v := .tup _) rfl) rfl ?_)) | (show AOps _ _ _ _ (⟨some _, .load _ _, _, _, _, none⟩ :: _) _; first | (refine o_y (y_load1 (v := .sc _) rfl rfl rfl) rfl ?_)) | (show AOps _ _ _ _ (⟨some _, .fieldAddr _ _ _, _, _, _, none⟩ :: _) _; first | (refine o_y (y_fld_ptr rfl rfl) rfl ?_)) | (show AOps _ _ _ _ (⟨some _, .assign _, _, _, _, none⟩ :: _) _; first | (refine o_y (v_assign (v := .sc _) rfl) rfl ?_)) | (show AOps _ _ _ _ (⟨some _, .binOp _ _ _ _ _, _, _, _, none⟩ :: _) _; first | (refine o_y (y_bin rfl rfl rfl) rfl ?_)) | (show AOps _ _ _ _ (⟨some _, .pick _ _ _, _, _, _, none⟩ :: _) _; first | (refine o_y (v_pick_f (v := .sc _) rfl (by first | rfl | assumption) rfl) rfl ?_)) | (show AOps _ _ _ _ (⟨some _, .unOp _ _ _, _, _, _, none⟩ :: _) _; first | (refine o_y (y_not rfl) rfl ?_)) | (show AOps _ _ _ _ (⟨some _, .extract _ _, _, _, _, none⟩ :: _) _; first | (refine o_y (y_extract (v := .sc _) rfl rfl) rfl ?_) | (refine o_y (y_extract (v := .agg _) rfl rfl) rfl ?_)) | (show AOps _ _ _ _ (⟨some _, .call ⟨.value (.func 15), _, _⟩, _, _, _, none⟩ :: _) _; refine o_gg (g_call (sg) rfl) rfl ?_) | (show AOps _ _ _ _ (⟨some _, .call ⟨.value (.func 29), _, _⟩, _, _, _, none⟩ :: _) _; first | (refine o_q (q_call (sf)) rfl ?_)) | (show AOps _ _ _ _ (⟨_, .store _ _ _, _, _, _, none⟩ :: _) _; first | (refine o_x (s_storeW rfl rfl rfl rfl rfl (by first | rfl | assumption) ?_))) | (show AOps _ _ _ _ (⟨_, .alloc _, _, _, _, none⟩ :: _) _; first | (refine o_x (a_new (by first | (simp only [AV.ofV, AV.cells, List.map_cons, List.map_nil]; rfl) | rfl) rfl rfl rfl ?_))) | (show AOps _ _ _ _ (⟨_, _, _, _, _, some (_, _)⟩ :: _) _; first | (refine o_g_t rfl rfl rfl (by first | rfl | assumption | exact beq_self_eq_true _ | exact decide_eq_true rfl) ?_))) | (show IW _ _ _ _ _; first | (refine awp_seq ?_) | (refine awp_region ?_) | (refine awp_ret ?_)))
    all_goals first | (exfalso; simp at *; done) | exact ret1 [] (by decide) rfl (congrArg (fun b => AV.sc (.bool b)) (by first | rfl | simp))
end Go.Proofs.Ytcidoghpacihpaa.Sx
namespace Go.Proofs.Ytcidoghpacihpaa.Sx
open Go Go.RowKit
attribute [local irreducible] IW AOps AQuiet GQ GY AExec QY Yld ACalls ACallsD
attribute [local irreducible] tvs tcs
theorem addE_free {T : Tb} {a : As} {par : Int} (h : addE T a par = 0) : 0 ≤ free T := by
  unfold addE at h
  split at h
  · cases h
  · split at h
    · cases h
    · split at h
      · cases h
      · omega
theorem ok_add {T : Tb} (h : ok T) (a : As) (par now : Int) : ok (addT T a par now) := by
  unfold addT
  split
  · rename_i he
    have hf := addE_free he
    intro j e hj hT
    unfold upd1 at hT
    split at hT
    · rename_i ej
      cases hT
      show free T + 1 = (j : Int) + 1
      omega
    · exact h j e hj hT
  · exact h
/-- Behind a mobilisation the table is .. -/
def mobT (T : Tb) (act par : Int) (p : S45) (frm now : Int) : Tb := match mob T act par p frm with | .error _ => T | .ok (a, q) => addT T a q now
theorem ok_mob {T : Tb} (h : ok T) (act par : Int) (p : S45) (frm now : Int) : ok (mobT T act par p frm now) := by
  unfold mobT
  split
  · exact h
  · exact ok_add h _ _ _
theorem MobR.th {t : Nat} {T : Tb} {P : Nat → Nat} {S : Hp} {act par : Int} {p : S45} {frm now : Int} {r : AV} {S' : Hp} (h : MobR t T P S act par p frm now r S') : ∃ P' x y, r = .tup [.sc (.int .i64 x), .sc (.int .i64 y)] ∧ Fr S S' (fun i => i = t) ∧ TH t (mobT T act par p frm now) P' S' ∧ ∀ j, P' j = P j ∨ S.nxt ≤ P' j := by
  unfold MobR at h
  cases hm : mob T act par p frm with
  | error c =>
    rw [hm] at h
    obtain ⟨h1, h2, h3⟩ := h
    have e : mobT T act par p frm now = T := by unfold mobT; rw [hm]
    exact ⟨P, _, _, h1, ⟨h2.1, fun i hi _ => h2.2 i hi (by simp)⟩, by rw [e]; exact h3, fun j => .inl rfl⟩
  | ok x =>
    obtain ⟨a, q⟩ := x
    rw [hm] at h
    obtain ⟨S1, h1, h2, h3, P', h4, h5⟩ := h
    have e : mobT T act par p frm now = addT T a q now := by unfold mobT; rw [hm]
    exact ⟨P', _, _, h2, ⟨Nat.le_trans h1.1 h3.1, fun i hi hx => (h3.2 i (Nat.lt_of_lt_of_le hi h1.1) hx).trans (h1.2 i hi (by simp))⟩, by rw [e]; exact h4, fun j => (h5 j).imp id (Nat.le_trans h1.1)⟩
theorem ok_newGo : ∀ {l : List As} {i : Nat} {T T' : Tb}, ok T → newGo l i T = some T' → ok T'
  | [], _, _, _, h, e => by cases e; exact h
  | a :: l, i, T, T', h, e => by
    unfold newGo at e
    split at e
    · cases e
    · refine ok_newGo (fun j x hj hx => ?_) e
      unfold upd1 at hx
      split at hx
      · rename_i ej
        cases hx
        show (i : Int) + 1 = (j : Int) + 1
        omega
      · exact h j x hj hx
theorem ok_new {l : List As} {T : Tb} (h : newT l = .ok T) : ok T := by
  unfold newT at h
  split at h
  · cases h
  · split at h
    · cases h
    · rename_i hg
      cases h
      exact ok_newGo (fun j x _ hx => by cases hx) hg
end Go.Proofs.Ytcidoghpacihpaa.Sx
namespace Go.Proofs.Ytcidoghpacihpaa.Sx
open Go Go.RowKit
attribute [local irreducible] IW AOps AQuiet GQ GY AExec QY Yld ACalls ACallsD
attribute [local irreducible] tvs tcs
theorem disp_kind {k m : Int} (h : disp k m = 2) : k ≠ 0 := by
  rw [disp_if] at h
  rintro rfl
  revert h
  repeat' split
  all_goals first | (intro h; cases h; done) | (intro h; omega)
theorem disp_mode {k m : Int} (h : disp k m = 1) : m = 3 := by
  rw [disp_if] at h
  revert h
  repeat' split
  all_goals first | (intro h; cases h; done) | (intro h; assumption)
theorem disp_zero {k m : Int} (h : disp k m = 3 ∨ disp k m = 4 ∨ disp k m = 5) : k = 0 := by
  rw [disp_if] at h
  revert h
  repeat' split
  all_goals intro h; omega
def Rt (T : Tb) (mode frm flags : Int) (auth : Bool) (v : Int × Int) : Prop :=
  v = (0, 0) ∨ ((v = (1, 0) ∨ v = (6, 0)) ∧ fb flags 1 = 0 ∧ nob frm = false ∧ mode = 3)
  ∨ (∃ id e, v = (2, id) ∧ get T id = some e ∧ clk e.a = false ∧ e.a.addr = frm ∧ disp e.a.kind mode = 2)
  ∨ ((v = (3, 0) ∨ v = (4, 0)) ∧ clo T flags auth = false ∧ unk T frm = true)
  ∨ (∃ id e, v = (5, id) ∧ get T id = some e ∧ srch e.a = true ∧ clo T flags auth = false ∧ unk T frm = true)
theorem unk_of {T : Tb} {frm : Int} (h : kindOf T (find1 T frm) = 0) : unk T frm = true := by
  unfold unk
  unfold kindOf at h
  cases hg : get T (find1 T frm) with
  | none => rfl
  | some e =>
    rw [hg] at h
    exact decide_eq_true h
theorem route_cases (T : Tb) (lis mlt : Bool) (mode frm to flags : Int) (auth : Bool) : Rt T mode frm flags auth (routeV T lis mlt mode frm to flags auth) := by
  unfold routeV routeA Rt
  split
  · rename_i h
    right; right; left
    rcases find1_cases T frm with h0 | ⟨i, e, h1, h2, h3, h4, h5, h6⟩
    · rw [h0] at h
      exact absurd rfl (disp_kind (k := kindOf T 0) h)
    · refine ⟨_, e, rfl, h6, h4, h5, ?_⟩
      unfold kindOf at h
      rw [h6] at h
      exact h
  · split
    · rename_i h
      simp only [b9, Bool.and_eq_true, beq_iff_eq, Bool.not_eq_true'] at h
      exact .inr (.inl ⟨.inl rfl, h.1.1.2, h.1.2, disp_mode h.1.1.1⟩)
    · split
      · rename_i h
        simp only [b11, Bool.and_eq_true, beq_iff_eq, Bool.not_eq_true'] at h
        exact .inr (.inl ⟨.inr rfl, h.1.1.2, h.1.2, disp_mode h.1.1.1⟩)
      · split
        · exact .inl rfl
        · rename_i hc
          have hc : clo T flags auth = false := by simpa using hc
          split
          · rename_i h
            simp only [b14, Bool.and_eq_true, beq_iff_eq] at h
            exact .inr (.inr (.inr (.inl ⟨.inl rfl, hc, unk_of (disp_zero (.inl h.1))⟩)))
          · split
            · rename_i h
              simp only [b16, Bool.and_eq_true, beq_iff_eq] at h
              exact .inr (.inr (.inr (.inl ⟨.inr rfl, hc, unk_of (disp_zero (.inr (.inl h.1)))⟩)))
            · split
              · rename_i h
                split
                · rename_i hf
                  right; right; right; right
                  unfold fndS at hf ⊢
                  rcases fst_cases (hasP T fun e => srch e.a) 16 with ⟨h1, _⟩ | ⟨i, h1, h2, h3, _⟩
                  · omega
                  · unfold hasP at h3
                    split at h3
                    · cases h3
                    · rename_i e he
                      refine ⟨_, e, rfl, ?_, h3, hc, unk_of (disp_zero (.inr (.inr h)))⟩
                      rw [h1]
                      unfold get
                      rw [if_pos (by omega), show ((i : Int) + 1 - 1).toNat = i by omega, he]
                · exact .inl rfl
              · exact .inl rfl
theorem exVL_app : ∀ {a b : List AV}, (∃ l, exVL a = some l) → (∃ l, exVL b = some l) → ∃ l, exVL (a ++ b) = some l
  | [], b, _, h => h
  | x :: a, b, ⟨l, hl⟩, hb => by
    unfold exVL at hl
    cases hx : x.exV with
    | none => rw [hx] at hl; cases hl
    | some v =>
      cases hr : exVL a with
      | none => rw [hx, hr] at hl; cases hl
      | some r =>
        obtain ⟨q, hq⟩ := exVL_app (a := a) ⟨r, hr⟩ hb
        exact ⟨v :: q, by show exVL (x :: (a ++ b)) = _; unfold exVL; rw [hx, hq]⟩
theorem exVL_ens : ∀ l : List Ro, ∃ q, exVL (ens l) = some q
  | [] => ⟨[], rfl⟩
  | e :: l => by
    have h : ens (e :: l) = e.en ++ ens l := rfl
    rw [h]
    exact exVL_app ⟨_, rfl⟩ (exVL_ens l)
theorem rows_lt {T : Tb} {i : Nat} (hi : T i = none) : ∀ n, i < n → (rows T n).length < n
  | 0, h => by omega
  | n + 1, h => by
    show (rows T n ++ (T n).toList).length < _
    rw [List.length_append]
    by_cases e : i = n
    · subst e
      rw [hi]
      have := rows_le T i
      simp only [Option.toList_none, List.length_nil]
      omega
    · have h1 := rows_lt hi n (by omega)
      have : (T n).toList.length ≤ 1 := by cases T n <;> simp
      omega
theorem rows_free {T : Tb} (h : ¬ free T < 0) : (rows T 16).length < 16 := by
  unfold free at h
  rcases fst_cases (isNone T) 16 with ⟨h1, _⟩ | ⟨i, h1, h2, h3, _⟩
  · omega
  · exact rows_lt (by unfold isNone at h3; simpa using h3) 16 h2
theorem clo_false {T : Tb} {flags : Int} {auth : Bool} (h : clo T flags auth = false) : fb flags 8 = 0 ∧ (fb flags 16 = 0 ∨ auth = true) ∧ (rows T 16).length < 16 := by
  unfold clo at h
  simp only [Bool.or_eq_false_iff, Bool.and_eq_false_iff, decide_eq_false_iff_not, bne_eq_false_iff_eq, Bool.not_eq_false'] at h
  exact ⟨h.1.1, h.1.2, rows_free h.2⟩
end Go.Proofs.Ytcidoghpacihpaa.Sx
namespace Go.Proofs.Ytcidoghpacihpaa.Sx
open Go Go.RowKit
attribute [local irreducible] tvs tcs
def ncl (T : Tb) : Prop := ∀ j k e f, j < 16 → k < 16 → j ≠ k → T j = some e → T k = some f → clash e.a f.a = false
structure BI (L : List As) (T : Tb) : Prop where
  o : ok T
  n : ncl T
  le : L.length ≤ 16
  c : ∀ (j : Nat) a, L[j]? = some a → ∃ e, T j = some e ∧ e.a = a ∧ e.par = 0 ∧ e.ends = 0
theorem clash_comm (a b : As) : clash a b = clash b a := by
  unfold clash
  rw [show decide (a.addr = b.addr) = decide (b.addr = a.addr) from decide_eq_decide.2 ⟨Eq.symm, Eq.symm⟩]
  cases clk a <;> cases clk b <;> rfl
theorem untaken {T : Tb} {a : As} (h : taken T a = false) {j : Nat} {e : Ro} (hj : j < 16) (hT : T j = some e) : clash e.a a = false := by
  unfold taken at h
  rcases fst_cases (hasP T fun e => clash e.a a) 16 with ⟨_, h2⟩ | ⟨i, h1, _⟩
  · have := h2 j hj
    unfold hasP at this
    rw [hT] at this
    exact this
  · rw [h1] at h
    simp at h
theorem free_at {T : Tb} (h : 0 ≤ free T) : ∃ i : Nat, free T = (i : Int) ∧ i < 16 ∧ T i = none := by
  unfold free at h ⊢
  rcases fst_cases (isNone T) 16 with ⟨h1, _⟩ | ⟨i, h1, h2, h3, _⟩
  · omega
  · exact ⟨i, h1, h2, by unfold isNone at h3; simpa using h3⟩
theorem addE_taken {T : Tb} {a : As} {par : Int} (h : addE T a par = 0) : taken T a = false := by
  unfold addE at h
  split at h
  · cases h
  · split at h
    · cases h
    · rename_i ht
      simpa using ht
theorem ncl_put {T : Tb} (h : ncl T) {i : Nat} {x : Ro} (ht : taken T x.a = false) : ncl (upd1 T i (some x)) := fun j k e f hj hk hjk hTj hTk => by
  unfold upd1 at hTj hTk
  split at hTj
  · split at hTk
    · exact absurd (by omega) hjk
    · cases hTj
      rw [clash_comm]
      exact untaken ht hk hTk
  · split at hTk
    · cases hTk
      exact untaken ht hj hTj
    · exact h j k e f hj hk hjk hTj hTk
theorem BI.add {L : List As} {T : Tb} (h : BI L T) (a : As) (par now : Int) : BI L (addT T a par now) := by
  have ho := ok_add h.o a par now
  by_cases he : addE T a par = 0
  · obtain ⟨i, hi, hi16, hn⟩ := free_at (addE_free he)
    have hT : addT T a par now = upd1 T i (some (addN T a par now)) := by unfold addT; rw [if_pos he, hi, Int.toNat_natCast]
    refine ⟨ho, ?_, h.le, fun j b hb => ?_⟩
    · rw [hT]
      exact ncl_put h.n (addE_taken he)
    · obtain ⟨e, h1, h2⟩ := h.c j b hb
      refine ⟨e, ?_, h2⟩
      rw [hT]
      unfold upd1
      rw [if_neg (by rintro rfl; rw [hn] at h1; cases h1)]
      exact h1
  · have hT : addT T a par now = T := by unfold addT; rw [if_neg he]
    rw [hT]
    exact h
theorem BI.mob {L : List As} {T : Tb} (h : BI L T) (act par : Int) (p : S45) (frm now : Int) : BI L (mobT T act par p frm now) := by
  unfold mobT
  split
  · exact h
  · exact h.add _ _ _
theorem BI.drop {L : List As} {T : Tb} (h : BI L T) {now : Int} {G : Nat → Bool} (hG : ∀ j, j < 16 → (G j = true ↔ Rch T (gX now) j)) : BI L (delT T G) := by
  have hd : ∀ {j e}, delT T G j = some e → T j = some e := fun {j e} hT => by
    unfold delT at hT
    split at hT
    · cases hT
    · exact hT
  refine ⟨fun j e hj hT => h.o j e hj (hd hT), fun j k e f hj hk hjk hTj hTk => h.n j k e f hj hk hjk (hd hTj) (hd hTk), h.le, fun j a hb => ?_⟩
  obtain ⟨e, h1, h2, h3, h4⟩ := h.c j a hb
  have hj : j < 16 := Nat.lt_of_lt_of_le (List.getElem?_eq_some_iff.1 hb).1 h.le
  refine ⟨e, ?_, h2, h3, h4⟩
  unfold delT
  rw [if_neg ?_]
  · exact h1
  · intro hg
    have hr := (hG j hj).1 hg
    cases hr with
    | base _ hT hx =>
      rw [hT] at h1
      cases h1
      unfold gX at hx
      simp [h4] at hx
    | step _ hT hx _ _ =>
      rw [hT] at h1
      cases h1
      omega
theorem new_go : ∀ {l D : List As} {T T' : Tb}, D.length + l.length ≤ 16 → BI D T → (∀ j, D.length ≤ j → T j = none) → newGo l D.length T = some T' → BI (D ++ l) T'
  | [], D, T, T', _, h, _, e => by
    cases e
    rw [List.append_nil]
    exact h
  | a :: l, D, T, T', hl, h, hn, e => by
    unfold newGo at e
    split at e
    · cases e
    · rename_i ht
      have ht : taken T a = false := by simpa using ht
      rw [List.length_cons] at hl
      have e' : newGo l (D ++ [a]).length (upd1 T D.length (some ⟨D.length + 1, a, 0, 0, 0⟩)) = some T' := by
        rw [List.length_append, List.length_singleton]
        exact e
      have h' : BI (D ++ [a]) (upd1 T D.length (some ⟨D.length + 1, a, 0, 0, 0⟩)) := by
        refine ⟨fun j x hj hx => ?_, ncl_put h.n ht, by rw [List.length_append, List.length_singleton]; omega, fun j b hb => ?_⟩
        · unfold upd1 at hx
          split at hx
          · rename_i ej
            cases hx
            show (D.length : Int) + 1 = (j : Int) + 1
            omega
          · exact h.o j x hj hx
        · unfold upd1
          by_cases ej : j = D.length
          · subst ej
            rw [List.getElem?_append_right (Nat.le_refl _), Nat.sub_self] at hb
            cases hb
            exact ⟨_, if_pos rfl, rfl, rfl, rfl⟩
          · have hj : j < D.length := by
              have := (List.getElem?_eq_some_iff.1 hb).1
              rw [List.length_append, List.length_singleton] at this
              omega
            rw [List.getElem?_append_left hj] at hb
            obtain ⟨x, h1, h2⟩ := h.c j b hb
            exact ⟨x, by rw [if_neg ej]; exact h1, h2⟩
      have := new_go (l := l) (D := D ++ [a]) (by rw [List.length_append, List.length_singleton]; omega) h' (fun j hj => by
        rw [List.length_append, List.length_singleton] at hj
        unfold upd1
        rw [if_neg (by omega)]
        exact hn j (by omega)) e'
      rwa [List.append_assoc] at this
theorem BI.new {l : List As} {T : Tb} (h : newT l = .ok T) : BI l T := by
  unfold newT at h
  split at h
  · cases h
  · split at h
    · cases h
    · rename_i hl _ _ hg
      cases h
      have := new_go (l := l) (D := []) (T := fun _ => none) (by simp; omega) ⟨(fun j x _ hx => by cases hx), (fun j k e f _ _ _ hx _ => by cases hx), (by simp), (fun j a hb => by simp at hb)⟩ (fun _ _ => rfl) hg
      simpa using this
/-! What is listed. -/
theorem rows_succ (T : Tb) (n : Nat) : rows T (n + 1) = rows T n ++ (T n).toList := rfl
theorem rows_mem {T : Tb} {e : Ro} : ∀ {n : Nat}, e ∈ rows T n → ∃ j, j < n ∧ T j = some e
  | 0, h => by rw [rows0] at h; cases h
  | n + 1, h => by
    rw [rows_succ, List.mem_append] at h
    rcases h with h | h
    · obtain ⟨j, hj, hT⟩ := rows_mem h
      exact ⟨j, by omega, hT⟩
    · exact ⟨n, by omega, by simpa using h⟩
theorem rows_id {T : Tb} (h : ok T) {n : Nat} (hn : n ≤ 16) {e : Ro} (he : e ∈ rows T n) : 1 ≤ e.id ∧ e.id ≤ n := by
  obtain ⟨j, hj, hT⟩ := rows_mem he
  have := h j e (by omega) hT
  omega
theorem rows_pw {T : Tb} (ho : ok T) (hc : ncl T) : ∀ n, n ≤ 16 → List.Pairwise (fun a b => a.id < b.id ∧ clash b.a a.a = false) (rows T n)
  | 0, _ => by rw [rows0]; exact List.Pairwise.nil
  | n + 1, h => by
    rw [rows_succ, List.pairwise_append]
    refine ⟨rows_pw ho hc n (by omega), ?_, fun a ha b hb => ?_⟩
    · cases T n <;> simp
    · have hb : T n = some b := by simpa using hb
      obtain ⟨j, hj, hT⟩ := rows_mem ha
      have h1 := ho j a (by omega) hT
      have h2 := ho n b (by omega) hb
      exact ⟨by omega, hc n j b a (by omega) (by omega) (by omega) hb hT⟩
theorem rows_cong {T T' : Tb} : ∀ {n : Nat}, (∀ j, j < n → T j = T' j) → rows T n = rows T' n
  | 0, _ => rfl
  | n + 1, h => by rw [rows_succ, rows_succ, h n (by omega), rows_cong fun j hj => h j (by omega)]
theorem rows_put {T : Tb} {i : Nat} (hi : T i = none) (x : Ro) : ∀ n, i < n → (rows (upd1 T i (some x)) n).length = (rows T n).length + 1
  | 0, h => by omega
  | n + 1, h => by
    rw [rows_succ, rows_succ, List.length_append, List.length_append]
    by_cases e : i = n
    · subst e
      rw [rows_cong (T' := T) fun j hj => by unfold upd1; rw [if_neg (by omega)], hi]
      unfold upd1
      rw [if_pos rfl]
      rfl
    · rw [rows_put hi x n (by omega)]
      unfold upd1
      rw [if_neg (by omega)]
      omega
theorem rows_del {T : Tb} {G : Nat → Bool} : ∀ n, (rows (delT T G) n).length + (dids T G n).length = (rows T n).length
  | 0 => rfl
  | n + 1 => by
    have := rows_del (T := T) (G := G) n
    rw [rows_succ, rows_succ, List.length_append, List.length_append]
    show _ + (dids T G n ++ (match T n with | none => [] | some e => if G n then [e.id] else [])).length = _
    rw [List.length_append]
    unfold delT at this ⊢
    cases hT : T n with
    | none => cases G n <;> simp <;> omega
    | some e => cases G n <;> simp <;> omega
theorem add_len {T : Tb} {a : As} {par now : Int} (h : addE T a par = 0) : (rows (addT T a par now) 16).length = (rows T 16).length + 1 ∧ 1 ≤ addI T a par ∧ addI T a par ≤ 16 := by
  obtain ⟨i, hi, hi16, hn⟩ := free_at (addE_free h)
  refine ⟨?_, ?_⟩
  · unfold addT
    rw [if_pos h, hi, Int.toNat_natCast]
    exact rows_put hn _ 16 hi16
  · unfold addI
    rw [if_pos h]
    omega
theorem add_no {T : Tb} {a : As} {par now : Int} (h : addE T a par ≠ 0) : addT T a par now = T := by
  unfold addT
  rw [if_neg h]
/-- What the list's places hold. -/
theorem rows_at {L : List As} {T : Tb} (h : BI L T) {i : Nat} {e : Ro} (hi : (rows T 16)[i]? = some e) : 1 ≤ e.id ∧ e.id ≤ 16 ∧ ∀ j f, j < i → (rows T 16)[j]? = some f → f.id < e.id ∧ clash e.a f.a = false := by
  have h1 := rows_id h.o (Nat.le_refl 16) (List.mem_of_getElem? hi)
  refine ⟨h1.1, h1.2, fun j f hj hf => ?_⟩
  obtain ⟨a1, a2⟩ := List.getElem?_eq_some_iff.1 hi
  obtain ⟨b1, b2⟩ := List.getElem?_eq_some_iff.1 hf
  have := List.pairwise_iff_getElem.1 (rows_pw h.o h.n 16 (Nat.le_refl 16)) j i b1 a1 hj
  rw [a2, b2] at this
  exact this
end Go.Proofs.Ytcidoghpacihpaa.Sx
