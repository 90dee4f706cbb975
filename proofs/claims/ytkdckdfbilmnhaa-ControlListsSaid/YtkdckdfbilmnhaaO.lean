/- Rows of variables: how much they weigh, whether they are the same, taken over. What is listed is read back as it was. -/
import Derived.Test.YtkdckdfbilmnhaaN
namespace Go.Proofs.Ytkdckdfbilmnhaa.Sx
open Go Go.RowKit
attribute [local irreducible] IW AOps AQuiet GQ GY AExec QY Yld ACalls ACallsD
instance eq39 : Eq2S Try.prog 39 where
  out a b c d w := by
    rw [run_equalIn_struct w 9999 39 _ _ (by kernel_rfl) (by kernel_rfl)]
    rw [show (Try.prog.fieldsOf 39).toList = [{ name := "Name", type := 9, offset := 0, embedded := false, tag := "", pkgPath := "", byteOffset := 0 }, { name := "Value", type := 9, offset := 1, embedded := false, tag := "", pkgPath := "", byteOffset := 16 }] by kernel_rfl]
    have p0 : ∀ x y : ByteArray, (part 9 #[.string x, .string y] 0).run Try.prog w = .ok (.string x) w := fun x y => by
      simp [part, run_isAgg' (P := Try.prog) (t := 9) (b := false) inferInstance]
    have p1 : ∀ x y : ByteArray, (part 9 #[.string x, .string y] 1).run Try.prog w = .ok (.string y) w := fun x y => by
      simp [part, run_isAgg' (P := Try.prog) (t := 9) (b := false) inferInstance]
    have eqs : ∀ x y : ByteArray, (Op.equalIn 9999 9 (.string x) (.string y)).run Try.prog w = .ok (decide (x = y)) w := fun x y => by
      rw [← toList_eq_iff]
      exact run_equalIn_string w 9998 9 x y Try.underlying9
    simp only [Op.eqFields, ne_eq, String.reduceEq, not_false_eq_true, if_true, Sem.run_bind, p0, p1, Result.andThen_ok, eqs]
    by_cases h1 : a = c <;> by_cases h2 : b = d <;> simp [h1, h2, p1, eqs]
  gd := by kernel_rfl
set_option maxHeartbeats 4000000 in
theorem heavy_spec (l : List Pr) (hl : l.length ≤ 9223372036854775807) : ACalls Try.prog 5 [.vsl (prs l) 2 0 l.length] ⟨0, []⟩ (fun r S => S = ⟨0, []⟩ ∧ (r = .sc (.bool true) ∨ (r = .sc (.bool false) ∧ l.length ≤ 4096 ∧ Sm l))) := by
  refine enter1 Try.func5 rfl 36 0 [.tmp 2] rfl rfl rfl ?_
  repeat' (first | (refine aops_nil ?_) | (show AOps _ _ _ _ _ _; first | (show AOps _ _ _ _ (⟨some _, .move _, _, _, _, none⟩ :: _) _; first | (refine o_y (v_move (v := .vsl _ _ _ _) rfl) rfl ?_)) | (show AOps _ _ _ _ (⟨some _, .assign _, _, _, _, none⟩ :: _) _; first | (refine o_y (v_assign (v := .sc _) rfl) rfl ?_)) | (show AOps _ _ _ _ (⟨some _, .call ⟨.builtin .len, _, _⟩, _, _, _, none⟩ :: _) _; first | (refine o_y (y_lenV rfl) rfl ?_))) | (show IW _ _ [.code (.seq _ _)] _ _; first | (show AWP _ _ (.seq (.region _ _ _) _) _ _; refine awp_seq ?_) | (show AWP _ _ (.seq (.seq _ _) _) _ _; refine awp_seq ?_)) | (show IW _ _ _ _ _; first | (refine awp_region ?_) | (refine awp_block ?_)))
  refine awp_loopI (fun x : Nat × Nat => x.1 ≤ l.length ∧ l.length ≤ x.2 ∧ (x.1 = 0 ∧ x.2 = l.length ∨ x.2 ≤ 4096 + 131072) ∧ ∀ v ∈ l.take x.1, min v.1.size 65536 ≤ x.2 ∧ min v.2.size 65536 ≤ x.2) (fun x => l.length - x.1) (fun x => [(0, .vsl (prs l) 2 0 l.length), (3, .sc (.int .i64 x.2)), (4, .sc (.int .i64 x.1))]) 0 (fun _ => []) (0, l.length) [] (by decide) rfl rfl rfl ⟨Nat.zero_le _, Nat.le_refl _, .inl ⟨rfl, rfl⟩, fun v hv => by cases hv⟩ ⟨rfl, rfl, rfl, trivial⟩ trivial ?_
  rintro ⟨i, n⟩ ⟨h1, h2, h3, h4⟩ ih
  dsimp only at h1 h2 h3 h4 ih ⊢
  by_cases hlt : i < l.length
  · obtain ⟨v, hv⟩ : ∃ v, l[i]? = some v := ⟨_, List.getElem?_eq_getElem hlt⟩
    have v0 : (prs l)[(0 + Int.toNat i) * 2 + 0]? = some (.sc (.string v.1)) := by rw [Nat.zero_add]; exact prs_get hv 0 (by decide)
    have v1 : (prs l)[(0 + Int.toNat i) * 2 + 1]? = some (.sc (.string v.2)) := by rw [Nat.zero_add]; exact prs_get hv 1 (by decide)
    repeat' (first | (show AWP _ _ (.region 5 _ true) _ _; refine awp_draw 18 (by kernel_rfl) ?_) | (refine aops_nil ?_) | (show AOps _ _ _ _ _ _; first | (show AOps _ _ _ _ (⟨some _, .move _, _, _, _, none⟩ :: _) _; first | (refine o_y (v_move (v := .sc _) rfl) rfl ?_) | (refine o_y (v_move (v := .vsl _ _ _ _) rfl) rfl ?_)) | (show AOps _ _ _ _ (⟨some _, .assign _, _, _, _, none⟩ :: _) _; first | (refine o_y (v_assign (v := .sc _) rfl) rfl ?_)) | (show AOps _ _ _ _ (⟨some _, .binOp .add _ _ _ _, _, _, _, none⟩ :: _) _; first | (refine o_y (z_add rfl rfl (by omega) (by omega)) rfl ?_) | (refine o_y (y_bin rfl rfl rfl) rfl ?_)) | (show AOps _ _ _ _ (⟨some _, .binOp _ _ _ _ _, _, _, _, none⟩ :: _) _; first | (refine o_y (y_bin rfl rfl rfl) rfl ?_)) | (show AOps _ _ _ _ (⟨some _, .pick _ _ _, _, _, _, none⟩ :: _) _; first | (refine o_y (v_pick_t (v := .sc _) rfl (by first | rfl | assumption | exact beq_self_eq_true _ | exact decide_eq_true rfl) rfl) rfl ?_) | (refine o_y (v_pick_f (v := .sc _) rfl (by first | rfl | assumption) rfl) rfl ?_)) | (show AOps _ _ _ _ (⟨some _, .call ⟨.builtin .len, _, _⟩, _, _, _, none⟩ :: _) _; first | (refine o_y (y_lenV rfl) rfl ?_)) | (show AOps _ _ _ _ (⟨_, _, _, _, _, some (_, _)⟩ :: _) _; first | (refine o_g_t rfl rfl rfl (by first | rfl | assumption | exact beq_self_eq_true _ | exact decide_eq_true rfl) ?_) | (refine o_g_f rfl rfl rfl (by first | rfl | assumption) ?_) | (refine o_if rfl rfl rfl (fun h hp => ?_) (fun h hp => ?_)))) | (refine aq_nil ?_) | (show AQuiet _ _ _ _ _ _; first | (show AQuiet _ _ _ (⟨some _, .move _, _, _, _, none⟩ :: _) _ _; first | (refine q_y (v_move (v := .sc _) rfl) rfl ?_) | (refine q_y (v_move (v := .vsl _ _ _ _) rfl) rfl ?_)) | (show AQuiet _ _ _ (⟨some _, .load _ _, _, _, _, none⟩ :: _) _ _; first | (refine q_y (y_vload rfl (by assumption)) rfl ?_)) | (show AQuiet _ _ _ (⟨some _, .fieldAddr _ _ _, _, _, _, none⟩ :: _) _ _; first | (refine q_y (y_fld_vptr rfl rfl) rfl ?_)) | (show AQuiet _ _ _ (⟨some _, .assign _, _, _, _, none⟩ :: _) _ _; first | (refine q_y (v_assign (v := .sc _) rfl) rfl ?_)) | (show AQuiet _ _ _ (⟨some _, .binOp .add _ _ _ _, _, _, _, none⟩ :: _) _ _; first | (refine q_y (z_add rfl rfl (by omega) (by omega)) rfl ?_)) | (show AQuiet _ _ _ (⟨some _, .call ⟨.builtin .len, _, _⟩, _, _, _, none⟩ :: _) _ _; first | (refine q_y (y_lenS rfl) rfl ?_)) | (show AQuiet _ _ _ (⟨some _, .call ⟨.builtin .min, _, _⟩, _, _, _, none⟩ :: _) _ _; first | (refine q_y (y_min2 rfl rfl) rfl ?_)) | (show AQuiet _ _ _ (⟨some _, .indexAddr _ _ _, _, _, _, none⟩ :: _) _ _; first | (refine q_y (y_ix_vsl rfl rfl rfl (by omega) (by omega)) rfl ?_))) | (show IW _ _ _ _ _; first | (refine awp_seq ?_) | (refine awp_region ?_) | (refine awp_block ?_) | (refine awp_exit ?_) | (refine awp_ret ?_) | (refine awp_skip ?_) | (refine awp_if_f rfl (by first | rfl | assumption) ?_) | (refine awp_if rfl (fun h hp => ?_) (fun h hp => ?_))) | (show thenQ _ _ _ _; first | (refine k_n ?_)))
    · refine iw_at [] (ih (i + 1, n + (min v.1.size 65536 + min v.2.size 65536)) ⟨hlt, by dsimp only; omega, .inr (by dsimp only; omega), fun w hw => ?_⟩ (by dsimp only; omega)) (by decide) rfl rfl rfl ⟨rfl, congrArg (fun x => AV.sc (.int .i64 x)) (by dsimp only; omega), rfl, trivial⟩ trivial
      rw [List.take_add_one, hv] at hw
      rcases List.mem_append.1 hw with hw | hw
      · have := h4 w hw
        dsimp only
        omega
      · rw [Option.toList_some, List.mem_singleton] at hw
        subst hw
        dsimp only
        omega
    · exact ret1 [] (by decide) rfl ⟨rfl, .inl (congrArg (fun b => AV.sc (.bool b)) (decide_eq_true (by omega)))⟩
    · exfalso; omega
  · obtain rfl : i = l.length := by omega
    rw [List.take_of_length_le (Nat.le_refl _)] at h4
    repeat' (first | (show AWP _ _ (.region 5 _ true) _ _; refine awp_draw 18 (by kernel_rfl) ?_) | (refine aops_nil ?_) | (show AOps _ _ _ _ _ _; first | (show AOps _ _ _ _ (⟨some _, .move _, _, _, _, none⟩ :: _) _; first | (refine o_y (v_move (v := .sc _) rfl) rfl ?_) | (refine o_y (v_move (v := .vsl _ _ _ _) rfl) rfl ?_)) | (show AOps _ _ _ _ (⟨some _, .assign _, _, _, _, none⟩ :: _) _; first | (refine o_y (v_assign (v := .sc _) rfl) rfl ?_)) | (show AOps _ _ _ _ (⟨some _, .binOp .add _ _ _ _, _, _, _, none⟩ :: _) _; first | (refine o_y (y_bin rfl rfl rfl) rfl ?_)) | (show AOps _ _ _ _ (⟨some _, .binOp _ _ _ _ _, _, _, _, none⟩ :: _) _; first | (refine o_y (y_bin rfl rfl rfl) rfl ?_)) | (show AOps _ _ _ _ (⟨some _, .pick _ _ _, _, _, _, none⟩ :: _) _; first | (refine o_y (v_pick_t (v := .sc _) rfl (by first | rfl | assumption | exact beq_self_eq_true _ | exact decide_eq_true rfl) rfl) rfl ?_) | (refine o_y (v_pick_f (v := .sc _) rfl (by first | rfl | assumption) rfl) rfl ?_)) | (show AOps _ _ _ _ (⟨some _, .call ⟨.builtin .len, _, _⟩, _, _, _, none⟩ :: _) _; first | (refine o_y (y_lenV rfl) rfl ?_)) | (show AOps _ _ _ _ (⟨_, _, _, _, _, some (_, _)⟩ :: _) _; first | (refine o_g_t rfl rfl rfl (by first | rfl | assumption | exact beq_self_eq_true _ | exact decide_eq_true rfl) ?_) | (refine o_g_f rfl rfl rfl (by first | rfl | assumption) ?_) | (refine o_if rfl rfl rfl (fun h hp => ?_) (fun h hp => ?_)))) | (show AQuiet _ _ _ _ _ _; first | (show AQuiet _ _ _ (⟨some _, .move _, _, _, _, none⟩ :: _) _ _; first | (refine q_y (v_move (v := .sc _) rfl) rfl ?_) | (refine q_y (v_move (v := .vsl _ _ _ _) rfl) rfl ?_)) | (show AQuiet _ _ _ (⟨some _, .fieldAddr _ _ _, _, _, _, none⟩ :: _) _ _; first | (refine q_y (y_fld_vptr rfl rfl) rfl ?_)) | (show AQuiet _ _ _ (⟨some _, .indexAddr _ _ _, _, _, _, none⟩ :: _) _ _; first | (refine q_y (y_ix_vsl rfl rfl rfl (by omega) (by omega)) rfl ?_))) | (show IW _ _ _ _ _; first | (refine awp_seq ?_) | (refine awp_region ?_) | (refine awp_block ?_) | (refine awp_exit ?_) | (refine awp_ret ?_) | (refine awp_skip ?_) | (refine awp_if_f rfl (by first | rfl | assumption) ?_) | (refine awp_if rfl (fun h hp => ?_) (fun h hp => ?_))))
    · exfalso; omega
    · exfalso; omega
    · by_cases hn : n ≤ 4096
      · exact ret1 [] (by decide) rfl ⟨rfl, .inr ⟨congrArg (fun b => AV.sc (.bool b)) (decide_eq_false (by omega)), by omega, by omega, fun v hv => by have := h4 v hv; omega⟩⟩
      · exact ret1 [] (by decide) rfl ⟨rfl, .inl (congrArg (fun b => AV.sc (.bool b)) (decide_eq_true (by omega)))⟩
set_option maxHeartbeats 4000000 in
theorem sameVars_spec (l m : List Pr) (hl : l.length ≤ 9223372036854775807) (hm : m.length ≤ 9223372036854775807) : ACalls Try.prog 10 [.vsl (prs l) 2 0 l.length, .vsl (prs m) 2 0 m.length] ⟨0, []⟩ (fun r _ => r = .sc (.bool (decide (l = m)))) := by
  refine enter2 Try.func10 rfl 26 0 [.tmp 4] rfl rfl rfl ?_
  repeat' (first | (refine aops_nil ?_) | (show AOps _ _ _ _ _ _; first | (show AOps _ _ _ _ (⟨some _, .move _, _, _, _, none⟩ :: _) _; first | (refine o_y (v_move (v := .vsl _ _ _ _) rfl) rfl ?_)) | (show AOps _ _ _ _ (⟨some _, .assign _, _, _, _, none⟩ :: _) _; first | (refine o_y (v_assign (v := .sc _) rfl) rfl ?_)) | (show AOps _ _ _ _ (⟨some _, .binOp .add _ _ _ _, _, _, _, none⟩ :: _) _; first | (refine o_y (y_bin rfl rfl rfl) rfl ?_)) | (show AOps _ _ _ _ (⟨some _, .binOp _ _ _ _ _, _, _, _, none⟩ :: _) _; first | (refine o_y (y_bin rfl rfl rfl) rfl ?_)) | (show AOps _ _ _ _ (⟨some _, .call ⟨.builtin .len, _, _⟩, _, _, _, none⟩ :: _) _; first | (refine o_y (y_lenV rfl) rfl ?_))) | (show IW _ _ _ _ _; first | (refine awp_seq ?_) | (refine awp_region ?_) | (refine awp_block ?_) | (refine awp_ret ?_) | (refine awp_skip ?_) | (refine awp_if rfl (fun h hp => ?_) (fun h hp => ?_))) | (show thenQ _ _ _ _; first | (refine k_r ?_)))
  · refine ret1 [] (by decide) rfl (congrArg (fun b => AV.sc (.bool b)) (decide_eq_false fun e => ?_).symm)
    subst e; exact absurd rfl (by assumption)
  have hlm : l.length = m.length := by omega
  refine awp_loopI (fun i : Nat => i ≤ l.length ∧ l.take i = m.take i) (fun i => l.length - i) (fun i => [(0, .vsl (prs l) 2 0 l.length), (1, .vsl (prs m) 2 0 m.length), (5, .sc (.int .i64 i))]) 0 (fun _ => []) 0 [] (by decide) rfl rfl rfl ⟨Nat.zero_le _, rfl⟩ ⟨rfl, rfl, rfl, trivial⟩ trivial ?_
  rintro i ⟨h1, h2⟩ ih
  by_cases hlt : i < l.length
  · obtain ⟨v, hv⟩ : ∃ v, l[i]? = some v := ⟨_, List.getElem?_eq_getElem hlt⟩
    obtain ⟨u, hu⟩ : ∃ u, m[i]? = some u := ⟨_, List.getElem?_eq_getElem (by omega)⟩
    have v0 : ((prs l).drop ((0 + Int.toNat i) * 2)).take 2 = [.sc (.string v.1), .sc (.string v.2)] := by rw [Nat.zero_add]; exact prs_at hv
    have v1 : ((prs m).drop ((0 + Int.toNat i) * 2)).take 2 = [.sc (.string u.1), .sc (.string u.2)] := by rw [Nat.zero_add]; exact prs_at hu
    repeat' (first | (show AWP _ _ (.region 6 _ true) _ _; refine awp_draw 9 (by kernel_rfl) ?_) | (refine aops_nil ?_) | (show AOps _ _ _ _ _ _; first | (show AOps _ _ _ _ (⟨some _, .move _, _, _, _, none⟩ :: _) _; first | (refine o_y (v_move (v := .sc _) rfl) rfl ?_) | (refine o_y (v_move (v := .vsl _ _ _ _) rfl) rfl ?_)) | (show AOps _ _ _ _ (⟨some _, .assign _, _, _, _, none⟩ :: _) _; first | (refine o_y (v_assign (v := .sc _) rfl) rfl ?_)) | (show AOps _ _ _ _ (⟨some _, .binOp .add _ _ _ _, _, _, _, none⟩ :: _) _; first | (refine o_y (z_add rfl rfl (by omega) (by omega)) rfl ?_) | (refine o_y (y_bin rfl rfl rfl) rfl ?_)) | (show AOps _ _ _ _ (⟨some _, .binOp _ _ _ _ _, _, _, _, none⟩ :: _) _; first | (refine o_y (y_bin rfl rfl rfl) rfl ?_)) | (show AOps _ _ _ _ (⟨some _, .call ⟨.builtin .len, _, _⟩, _, _, _, none⟩ :: _) _; first | (refine o_y (y_lenV rfl) rfl ?_))) | (refine aq_nil ?_) | (show AQuiet _ _ _ _ _ _; first | (show AQuiet _ _ _ (⟨some _, .move _, _, _, _, none⟩ :: _) _ _; first | (refine q_y (v_move (v := .sc _) rfl) rfl ?_) | (refine q_y (v_move (v := .vsl _ _ _ _) rfl) rfl ?_)) | (show AQuiet _ _ _ (⟨some _, .load _ _, _, _, _, none⟩ :: _) _ _; first | (refine q_y (y_vloadE rfl (by assumption) (by rfl) rfl) rfl ?_)) | (show AQuiet _ _ _ (⟨some _, .binOp _ _ _ _ _, _, _, _, none⟩ :: _) _ _; first | (refine q_y (y_ne2S rfl rfl) rfl ?_)) | (show AQuiet _ _ _ (⟨some _, .indexAddr _ _ _, _, _, _, none⟩ :: _) _ _; first | (refine q_y (y_ix_vsl rfl rfl rfl (by omega) (by omega)) rfl ?_))) | (show IW _ _ _ _ _; first | (refine awp_seq ?_) | (refine awp_region ?_) | (refine awp_block ?_) | (refine awp_exit ?_) | (refine awp_ret ?_) | (refine awp_skip ?_) | (refine awp_if rfl (fun h hp => ?_) (fun h hp => ?_))) | (show thenQ _ _ _ _; first | (refine k_n ?_) | (refine k_r ?_)) | (show blockQ _ _ _ _; first | (refine b_r ?_)))
    · refine ret1 [] (by decide) rfl (congrArg (fun b => AV.sc (.bool b)) (decide_eq_false fun e => ?_).symm)
      subst e
      rw [hv] at hu
      cases hu
      exact hp ⟨rfl, rfl⟩
    · have e : v = u := by
        obtain ⟨v1, v2⟩ := v
        obtain ⟨u1, u2⟩ := u
        have := Decidable.not_not.1 hp
        obtain ⟨rfl, rfl⟩ := this
        rfl
      refine iw_at [] (ih (i + 1) ⟨hlt, by rw [List.take_add_one, List.take_add_one, hv, hu, h2, e]⟩ (by omega)) (by decide) rfl rfl rfl ⟨rfl, rfl, rfl, trivial⟩ trivial
    · exfalso; omega
  · repeat' (first | (show AWP _ _ (.region 6 _ true) _ _; refine awp_draw 9 (by kernel_rfl) ?_) | (refine aops_nil ?_) | (show AOps _ _ _ _ _ _; first | (show AOps _ _ _ _ (⟨some _, .move _, _, _, _, none⟩ :: _) _; first | (refine o_y (v_move (v := .sc _) rfl) rfl ?_) | (refine o_y (v_move (v := .vsl _ _ _ _) rfl) rfl ?_)) | (show AOps _ _ _ _ (⟨some _, .assign _, _, _, _, none⟩ :: _) _; first | (refine o_y (v_assign (v := .sc _) rfl) rfl ?_)) | (show AOps _ _ _ _ (⟨some _, .binOp .add _ _ _ _, _, _, _, none⟩ :: _) _; first | (refine o_y (y_bin rfl rfl rfl) rfl ?_)) | (show AOps _ _ _ _ (⟨some _, .binOp _ _ _ _ _, _, _, _, none⟩ :: _) _; first | (refine o_y (y_bin rfl rfl rfl) rfl ?_)) | (show AOps _ _ _ _ (⟨some _, .call ⟨.builtin .len, _, _⟩, _, _, _, none⟩ :: _) _; first | (refine o_y (y_lenV rfl) rfl ?_))) | (show AQuiet _ _ _ _ _ _; first | (show AQuiet _ _ _ (⟨some _, .move _, _, _, _, none⟩ :: _) _ _; first | (refine q_y (v_move (v := .sc _) rfl) rfl ?_) | (refine q_y (v_move (v := .vsl _ _ _ _) rfl) rfl ?_)) | (show AQuiet _ _ _ (⟨some _, .indexAddr _ _ _, _, _, _, none⟩ :: _) _ _; first | (refine q_y (y_ix_vsl rfl rfl rfl (by omega) (by omega)) rfl ?_))) | (show IW _ _ _ _ _; first | (refine awp_seq ?_) | (refine awp_region ?_) | (refine awp_block ?_) | (refine awp_exit ?_) | (refine awp_ret ?_) | (refine awp_skip ?_) | (refine awp_if rfl (fun h hp => ?_) (fun h hp => ?_))))
    · exfalso; omega
    · refine ret1 [] (by decide) rfl (congrArg (fun b => AV.sc (.bool b)) (decide_eq_true ?_).symm)
      rwa [List.take_of_length_le (by omega), List.take_of_length_le (by omega)] at h2
theorem over8_spec (l : List Pr) (hl : l.length ≤ 4096) : ACalls Try.prog 8 [.vsl (prs l) 2 0 l.length] ⟨0, []⟩ (fun r _ => r = .vsl (prs l) 2 0 l.length) := by
  have pl := prs_length l
  refine enter1 Try.func8 rfl 20 0 [.tmp 2] rfl rfl rfl ?_
  repeat' (first | (refine aops_nil ?_) | (show AOps _ _ _ _ _ _; first | (show AOps _ _ _ _ (⟨some _, .assign _, _, _, _, none⟩ :: _) _; first | (refine o_y (v_assign (v := .sc _) rfl) rfl ?_) | (refine o_y (v_assign (v := .sl _ _ _) rfl) rfl ?_)) | (show AOps _ _ _ _ (⟨_, .buildSlice _ _ _, _, _, _, none⟩ :: _) _; first | (refine o_x (x_buildSlice (cs := []) (by rfl) (by rfl) (by rfl) (by rfl) (by rfl) (by rfl) rfl ?_)) | (refine o_x (x_buildSlice (cs := []) (by rfl) (by rfl) (by rfl) (by rfl) (by rfl) (by rfl) rfl ?_)))) | (show IW _ _ [.code (.seq _ _)] _ _; first | (show AWP _ _ (.seq (.region _ _ _) _) _ _; refine awp_seq ?_) | (show AWP _ _ (.seq (.seq _ _) _) _ _; refine awp_seq ?_)) | (show IW _ _ _ _ _; first | (refine awp_region ?_) | (refine awp_block ?_)))
  refine awp_loopI (fun i : Nat => i ≤ l.length) (fun i => l.length - i) (fun i => [(0, .vsl (prs l) 2 0 l.length), (2, .sc (.slice none 0 0)), (3, .sl 0 0 i), (4, .sc (.int .i64 i))]) 1 (fun i => [(0, some ⟨prs (l.take i), 2, 41⟩)]) 0 [0] (by decide) rfl rfl rfl (Nat.zero_le _) ⟨rfl, rfl, rfl, rfl, trivial⟩ ⟨rfl, rfl, trivial⟩ ?_
  intro i h1 ih
  have hlen : (prs (l.take i)).length = i * 2 := by rw [prs_length, List.length_take]; omega
  by_cases hi : i < l.length
  · obtain ⟨v, hv⟩ : ∃ v, l[i]? = some v := ⟨_, List.getElem?_eq_getElem hi⟩
    have v0 : ((prs l).drop ((0 + Int.toNat i) * 2)).take 2 = [.sc (.string v.1), .sc (.string v.2)] := by rw [Nat.zero_add]; exact prs_at hv
    have hn : l.take (i + 1) = l.take i ++ [v] := by rw [List.take_add_one, hv]; rfl
    have ih2 := ih (i + 1) hi (by omega)
    rw [hn] at ih2
    repeat' (first | (refine aops_nil ?_) | (show AOps _ _ _ _ _ _; first | (show AOps _ _ _ _ (⟨some _, .move _, _, _, _, none⟩ :: _) _; first | (refine o_y (v_move (v := .sc _) rfl) rfl ?_) | (refine o_y (v_move (v := .sl _ _ _) rfl) rfl ?_) | (refine o_y (v_move (v := .vsl _ _ _ _) rfl) rfl ?_)) | (show AOps _ _ _ _ (⟨some _, .load _ _, _, _, _, none⟩ :: _) _; first | (refine o_y (y_vloadE rfl (by assumption) (by rfl) rfl) rfl ?_)) | (show AOps _ _ _ _ (⟨some _, .assign _, _, _, _, none⟩ :: _) _; first | (refine o_y (v_assign (v := .sc _) rfl) rfl ?_) | (refine o_y (v_assign (v := .sl _ _ _) rfl) rfl ?_)) | (show AOps _ _ _ _ (⟨some _, .binOp .add _ _ _ _, _, _, _, none⟩ :: _) _; first | (refine o_y (z_add rfl rfl (by omega) (by omega)) rfl ?_) | (refine o_y (y_bin rfl rfl rfl) rfl ?_)) | (show AOps _ _ _ _ (⟨some _, .binOp _ _ _ _ _, _, _, _, none⟩ :: _) _; first | (refine o_y (y_bin rfl rfl rfl) rfl ?_)) | (show AOps _ _ _ _ (⟨some _, .call ⟨.builtin .len, _, _⟩, _, _, _, none⟩ :: _) _; first | (refine o_y (y_lenV rfl) rfl ?_)) | (show AOps _ _ _ _ (⟨some _, .indexAddr _ _ _, _, _, _, none⟩ :: _) _; first | (refine o_y (y_ix_vsl rfl rfl rfl (by omega) (by omega)) rfl ?_)) | (show AOps _ _ _ _ (⟨_, .buildSlice _ _ _, _, _, _, none⟩ :: _) _; first | (refine o_x (x_buildSlice (cs := [.sc (.string v.1), .sc (.string v.2)]) (by rfl) (by rfl) (by rfl) (by rfl) (by rfl) (by rfl) rfl ?_))) | (show AOps _ _ _ _ (⟨_, .call ⟨.builtin .append, _, _⟩, _, _, _, none⟩ :: _) _; first | (refine o_x (x_append (X := .sl _ _ _) rfl rfl rfl (by first | rfl | assumption | exact prs_length _ | exact strs_len1 _ | exact byts_len1 _ | exact nums_len1 _ | (simp only [byts_length, strs_length, ints_length, prs_length, List.length_append, List.length_cons, List.length_nil]; omega)) (src_sl rfl (by first | exact Nat.le_of_ble_eq_true rfl | (simp only [strs_length, byts_length]; omega)) (by first | exact take_strs _ | exact take_byts _ | rfl | exact take_bytsE _ _ (by simp only [byts_length, ints_length, List.length_append, List.length_cons, List.length_nil]; omega) | exact take_strsE _ _ (by simp only [strs_length, List.length_append, List.length_cons, List.length_nil]; omega) | (simp; done)) (by first | rfl | exact strs_one _ | exact byts_one _ | exact prs_one _)) rfl rfl (by omega) (by omega) (by first | exact prs_snoc _ _ _ | exact strs_snoc _ _ | exact byts_snoc _ _ | exact nums_snoc _ _ | exact strs_append _ _ | exact byts_append _ _ | exact byts_snoc [] _ | exact strs_snoc [] _ | exact byts_append [] _ | exact strs_append [] _ | exact byts_append _ [_, _] | rfl) (by first | exact Nat.zero_add _ | rfl) ?_)))) | (show IW _ _ _ _ _; first | (refine awp_seq ?_) | (refine awp_region ?_) | (refine awp_block ?_) | (refine awp_exit ?_) | (refine awp_ret ?_) | (refine awp_skip ?_) | (refine awp_if rfl (fun h hp => ?_) (fun h hp => ?_))) | (show thenQ _ _ _ _; first | (refine k_n ?_)))
    all_goals first
      | (exfalso; omega)
      | exact iw_at [2] ih2 (by decide) rfl rfl rfl ⟨rfl, rfl, rfl, rfl, trivial⟩ ⟨rfl, (by first | rfl | exact blk_fl rfl (prs_flat _)), trivial⟩
      | trace_state
  · obtain rfl : i = l.length := by omega
    rw [List.take_of_length_le (Nat.le_refl _)]
    repeat' (first | (refine aops_nil ?_) | (show AOps _ _ _ _ _ _; first | (show AOps _ _ _ _ (⟨some _, .move _, _, _, _, none⟩ :: _) _; first | (refine o_y (v_move (v := .sc _) rfl) rfl ?_) | (refine o_y (v_move (v := .sl _ _ _) rfl) rfl ?_) | (refine o_y (v_move (v := .vsl _ _ _ _) rfl) rfl ?_)) | (show AOps _ _ _ _ (⟨some _, .assign _, _, _, _, none⟩ :: _) _; first | (refine o_y (v_assign (v := .sl _ _ _) rfl) rfl ?_)) | (show AOps _ _ _ _ (⟨some _, .binOp .add _ _ _ _, _, _, _, none⟩ :: _) _; first | (refine o_y (y_bin rfl rfl rfl) rfl ?_)) | (show AOps _ _ _ _ (⟨some _, .binOp _ _ _ _ _, _, _, _, none⟩ :: _) _; first | (refine o_y (y_bin rfl rfl rfl) rfl ?_)) | (show AOps _ _ _ _ (⟨some _, .call ⟨.builtin .len, _, _⟩, _, _, _, none⟩ :: _) _; first | (refine o_y (y_lenV rfl) rfl ?_)) | (show AOps _ _ _ _ (⟨some _, .indexAddr _ _ _, _, _, _, none⟩ :: _) _; first | (refine o_y (y_ix_vsl rfl rfl rfl (by omega) (by omega)) rfl ?_))) | (show IW _ _ [.code (.seq _ _)] _ _; first | (show AWP _ _ (.seq (.region _ _ _) _) _ _; refine awp_seq ?_) | (show AWP _ _ (.seq (.block _ _) _) _ _; refine awp_seq ?_) | (show AWP _ _ (.seq (.seq _ _) _) _ _; refine awp_seq ?_)) | (show IW _ _ _ _ _; first | (refine awp_region ?_) | (refine awp_block ?_) | (refine awp_exit ?_) | (refine awp_skip ?_) | (refine awp_if rfl (fun h hp => ?_) (fun h hp => ?_))) | (show thenQ _ _ _ _; first | (refine k_n ?_)))
    · exfalso; omega
    · refine iw_frzS 2 0 rfl rfl (prs_flat _) (by rw [pl]; omega) ?_
      repeat' (first | (show IW _ _ _ _ _; first | (refine awp_ret ?_)))
      exact ret1 [] (by decide) rfl rfl
theorem over12_spec (l : List Pr) (hl : l.length ≤ 4096) : ACalls Try.prog 12 [.vsl (prs l) 2 0 l.length] ⟨0, []⟩ (fun r _ => r = .vsl (prs l) 2 0 l.length) := by
  have pl := prs_length l
  refine enter1 Try.func12 rfl 20 0 [.tmp 2] rfl rfl rfl ?_
  repeat' (first | (refine aops_nil ?_) | (show AOps _ _ _ _ _ _; first | (show AOps _ _ _ _ (⟨some _, .assign _, _, _, _, none⟩ :: _) _; first | (refine o_y (v_assign (v := .sc _) rfl) rfl ?_) | (refine o_y (v_assign (v := .sl _ _ _) rfl) rfl ?_)) | (show AOps _ _ _ _ (⟨_, .buildSlice _ _ _, _, _, _, none⟩ :: _) _; first | (refine o_x (x_buildSlice (cs := []) (by rfl) (by rfl) (by rfl) (by rfl) (by rfl) (by rfl) rfl ?_)) | (refine o_x (x_buildSlice (cs := []) (by rfl) (by rfl) (by rfl) (by rfl) (by rfl) (by rfl) rfl ?_)))) | (show IW _ _ [.code (.seq _ _)] _ _; first | (show AWP _ _ (.seq (.region _ _ _) _) _ _; refine awp_seq ?_) | (show AWP _ _ (.seq (.seq _ _) _) _ _; refine awp_seq ?_)) | (show IW _ _ _ _ _; first | (refine awp_region ?_) | (refine awp_block ?_)))
  refine awp_loopI (fun i : Nat => i ≤ l.length) (fun i => l.length - i) (fun i => [(0, .vsl (prs l) 2 0 l.length), (2, .sc (.slice none 0 0)), (3, .sl 0 0 i), (4, .sc (.int .i64 i))]) 1 (fun i => [(0, some ⟨prs (l.take i), 2, 39⟩)]) 0 [0] (by decide) rfl rfl rfl (Nat.zero_le _) ⟨rfl, rfl, rfl, rfl, trivial⟩ ⟨rfl, rfl, trivial⟩ ?_
  intro i h1 ih
  have hlen : (prs (l.take i)).length = i * 2 := by rw [prs_length, List.length_take]; omega
  by_cases hi : i < l.length
  · obtain ⟨v, hv⟩ : ∃ v, l[i]? = some v := ⟨_, List.getElem?_eq_getElem hi⟩
    have v0 : ((prs l).drop ((0 + Int.toNat i) * 2)).take 2 = [.sc (.string v.1), .sc (.string v.2)] := by rw [Nat.zero_add]; exact prs_at hv
    have hn : l.take (i + 1) = l.take i ++ [v] := by rw [List.take_add_one, hv]; rfl
    have ih2 := ih (i + 1) hi (by omega)
    rw [hn] at ih2
    repeat' (first | (refine aops_nil ?_) | (show AOps _ _ _ _ _ _; first | (show AOps _ _ _ _ (⟨some _, .move _, _, _, _, none⟩ :: _) _; first | (refine o_y (v_move (v := .sc _) rfl) rfl ?_) | (refine o_y (v_move (v := .sl _ _ _) rfl) rfl ?_) | (refine o_y (v_move (v := .vsl _ _ _ _) rfl) rfl ?_)) | (show AOps _ _ _ _ (⟨some _, .load _ _, _, _, _, none⟩ :: _) _; first | (refine o_y (y_vloadE rfl (by assumption) (by rfl) rfl) rfl ?_)) | (show AOps _ _ _ _ (⟨some _, .assign _, _, _, _, none⟩ :: _) _; first | (refine o_y (v_assign (v := .sc _) rfl) rfl ?_) | (refine o_y (v_assign (v := .sl _ _ _) rfl) rfl ?_)) | (show AOps _ _ _ _ (⟨some _, .binOp .add _ _ _ _, _, _, _, none⟩ :: _) _; first | (refine o_y (z_add rfl rfl (by omega) (by omega)) rfl ?_) | (refine o_y (y_bin rfl rfl rfl) rfl ?_)) | (show AOps _ _ _ _ (⟨some _, .binOp _ _ _ _ _, _, _, _, none⟩ :: _) _; first | (refine o_y (y_bin rfl rfl rfl) rfl ?_)) | (show AOps _ _ _ _ (⟨some _, .call ⟨.builtin .len, _, _⟩, _, _, _, none⟩ :: _) _; first | (refine o_y (y_lenV rfl) rfl ?_)) | (show AOps _ _ _ _ (⟨some _, .indexAddr _ _ _, _, _, _, none⟩ :: _) _; first | (refine o_y (y_ix_vsl rfl rfl rfl (by omega) (by omega)) rfl ?_)) | (show AOps _ _ _ _ (⟨_, .buildSlice _ _ _, _, _, _, none⟩ :: _) _; first | (refine o_x (x_buildSlice (cs := [.sc (.string v.1), .sc (.string v.2)]) (by rfl) (by rfl) (by rfl) (by rfl) (by rfl) (by rfl) rfl ?_))) | (show AOps _ _ _ _ (⟨_, .call ⟨.builtin .append, _, _⟩, _, _, _, none⟩ :: _) _; first | (refine o_x (x_append (X := .sl _ _ _) rfl rfl rfl (by first | rfl | assumption | exact prs_length _ | exact strs_len1 _ | exact byts_len1 _ | exact nums_len1 _ | (simp only [byts_length, strs_length, ints_length, prs_length, List.length_append, List.length_cons, List.length_nil]; omega)) (src_sl rfl (by first | exact Nat.le_of_ble_eq_true rfl | (simp only [strs_length, byts_length]; omega)) (by first | exact take_strs _ | exact take_byts _ | rfl | exact take_bytsE _ _ (by simp only [byts_length, ints_length, List.length_append, List.length_cons, List.length_nil]; omega) | exact take_strsE _ _ (by simp only [strs_length, List.length_append, List.length_cons, List.length_nil]; omega) | (simp; done)) (by first | rfl | exact strs_one _ | exact byts_one _ | exact prs_one _)) rfl rfl (by omega) (by omega) (by first | exact prs_snoc _ _ _ | exact strs_snoc _ _ | exact byts_snoc _ _ | exact nums_snoc _ _ | exact strs_append _ _ | exact byts_append _ _ | exact byts_snoc [] _ | exact strs_snoc [] _ | exact byts_append [] _ | exact strs_append [] _ | exact byts_append _ [_, _] | rfl) (by first | exact Nat.zero_add _ | rfl) ?_)))) | (show IW _ _ _ _ _; first | (refine awp_seq ?_) | (refine awp_region ?_) | (refine awp_block ?_) | (refine awp_exit ?_) | (refine awp_ret ?_) | (refine awp_skip ?_) | (refine awp_if rfl (fun h hp => ?_) (fun h hp => ?_))) | (show thenQ _ _ _ _; first | (refine k_n ?_)))
    all_goals first
      | (exfalso; omega)
      | exact iw_at [2] ih2 (by decide) rfl rfl rfl ⟨rfl, rfl, rfl, rfl, trivial⟩ ⟨rfl, (by first | rfl | exact blk_fl rfl (prs_flat _)), trivial⟩
      | trace_state
  · obtain rfl : i = l.length := by omega
    rw [List.take_of_length_le (Nat.le_refl _)]
    repeat' (first | (refine aops_nil ?_) | (show AOps _ _ _ _ _ _; first | (show AOps _ _ _ _ (⟨some _, .move _, _, _, _, none⟩ :: _) _; first | (refine o_y (v_move (v := .sc _) rfl) rfl ?_) | (refine o_y (v_move (v := .sl _ _ _) rfl) rfl ?_) | (refine o_y (v_move (v := .vsl _ _ _ _) rfl) rfl ?_)) | (show AOps _ _ _ _ (⟨some _, .assign _, _, _, _, none⟩ :: _) _; first | (refine o_y (v_assign (v := .sl _ _ _) rfl) rfl ?_)) | (show AOps _ _ _ _ (⟨some _, .binOp .add _ _ _ _, _, _, _, none⟩ :: _) _; first | (refine o_y (y_bin rfl rfl rfl) rfl ?_)) | (show AOps _ _ _ _ (⟨some _, .binOp _ _ _ _ _, _, _, _, none⟩ :: _) _; first | (refine o_y (y_bin rfl rfl rfl) rfl ?_)) | (show AOps _ _ _ _ (⟨some _, .call ⟨.builtin .len, _, _⟩, _, _, _, none⟩ :: _) _; first | (refine o_y (y_lenV rfl) rfl ?_)) | (show AOps _ _ _ _ (⟨some _, .indexAddr _ _ _, _, _, _, none⟩ :: _) _; first | (refine o_y (y_ix_vsl rfl rfl rfl (by omega) (by omega)) rfl ?_))) | (show IW _ _ [.code (.seq _ _)] _ _; first | (show AWP _ _ (.seq (.region _ _ _) _) _ _; refine awp_seq ?_) | (show AWP _ _ (.seq (.block _ _) _) _ _; refine awp_seq ?_) | (show AWP _ _ (.seq (.seq _ _) _) _ _; refine awp_seq ?_)) | (show IW _ _ _ _ _; first | (refine awp_region ?_) | (refine awp_block ?_) | (refine awp_exit ?_) | (refine awp_skip ?_) | (refine awp_if rfl (fun h hp => ?_) (fun h hp => ?_))) | (show thenQ _ _ _ _; first | (refine k_n ?_)))
    · exfalso; omega
    · refine iw_frzS 2 0 rfl rfl (prs_flat _) (by rw [pl]; omega) ?_
      repeat' (first | (show IW _ _ _ _ _; first | (refine awp_ret ?_)))
      exact ret1 [] (by decide) rfl rfl
end Go.Proofs.Ytkdckdfbilmnhaa.Sx
namespace Go.Proofs.Ytkdckdfbilmnhaa.Sx
open Go Go.RowKit
theorem ints_take (s : ByteArray) (i : Nat) : ints (s.extract 0 i) = (ints s).take i := by
  unfold ints
  rw [ByteArray.data_extract, Array.toList_extract, List.extract_eq_take_drop, List.drop_zero, Nat.sub_zero, List.map_take]
theorem ints_inj {s t : ByteArray} (h : ints s = ints t) : s = t := by
  rw [← strOf_ints s, ← strOf_ints t, h]
theorem ext_app_l (a b : ByteArray) : (a ++ b).extract 0 a.size = a := by
  apply ints_inj
  rw [ints_take, ints_append, List.take_append_of_le_length (by rw [ints_length]; exact Nat.le_refl _), List.take_of_length_le (by rw [ints_length]; exact Nat.le_refl _)]
theorem ext_app_r (a b : ByteArray) : (a ++ b).extract a.size (a ++ b).size = b := by
  apply ints_inj
  rw [ints_ext, ints_append, ← ints_length a, List.drop_left]
theorem ix_app {p : Int → Bool} {a b : ByteArray} (h : ∀ j, j < a.size → p (bt a (j : Nat)) = false) : ix p (a ++ b) = a.size + ix p b := by
  have hz : (a ++ b).size = a.size + b.size := ByteArray.size_append
  have hb := ix_le p b
  refine ix_is (by omega) (fun j hj => ?_) (fun hlt => ?_)
  · by_cases hja : j < a.size
    · rw [bt_app_l hja]; exact h j hja
    · have e : j = a.size + (j - a.size) := by omega
      rw [e, bt_app_r (by omega)]
      exact ix_before (by omega)
  · rw [bt_app_r (by omega)]
    exact ix_at (by omega)
/-- Nothing, or what begins with a comma. -/
def Tl (t : ByteArray) : Prop := t.size = 0 ∨ (0 < t.size ∧ bt t 0 = 44)
theorem tl_ix {p : Int → Bool} {t : ByteArray} (h : Tl t) (hp : p 44 = true) : ix p t = 0 := by
  rcases h with h | ⟨h1, h2⟩
  · have := ix_le p t; omega
  · exact ix_is (Nat.zero_le _) (fun j hj => absurd hj (Nat.not_lt_zero _)) (fun _ => by show p (bt t 0) = true; rw [h2]; exact hp)
theorem all_get {p : Int → Bool} {s : ByteArray} (h : allB p s = true) {j : Nat} (hj : j < s.size) : p (bt s (j : Nat)) = true := by
  have := of_decide_eq_true h
  have h2 := ix_before (p := nn p) (s := s) (i := j) (by omega)
  unfold nn at h2
  simpa using h2
theorem good_parts {v : Pr} (h : good v = true) : 0 < v.1.size ∧ (∀ j, j < v.1.size → pE (bt v.1 (j : Nat)) = false) ∧ (∀ j, j < v.2.size → pB 34 (bt v.2 (j : Nat)) = false) := by
  unfold good nameB valB at h
  simp only [Bool.and_eq_true, decide_eq_true_eq] at h
  obtain ⟨⟨⟨h1, _⟩, h2⟩, _, h3⟩ := h
  refine ⟨h1, fun j hj => ?_, fun j hj => ?_⟩
  · have := of_decide_eq_true (all_get h2 hj)
    rw [Bool.eq_false_iff]
    intro e
    have := pE_iff.1 e
    omega
  · have := of_decide_eq_true (all_get h3 hj)
    exact decide_eq_false this.2.2
theorem pre_qu0 (u : ByteArray) : pre QU u = (decide (0 < u.size) && decide (bt u 0 = 34)) := by
  have := pre_qu (x := u) (a := 0)
  rwa [ext0] at this
theorem one_item {v : Pr} (hg : good v = true) {t : ByteArray} (ht : Tl t) : one (item v ++ t) = (v, t) := by
  obtain ⟨g1, g2, g3⟩ := good_parts hg
  obtain ⟨a, b⟩ := v
  dsimp only at g1 g2 g3
  cases hq : quB b with
  | true =>
    have e1 : item (a, b) ++ t = (a ++ ⟨#[61]⟩) ++ (⟨#[34]⟩ ++ (b ++ (⟨#[34]⟩ ++ t))) := by
      unfold item
      rw [sfx_q hq, show (⟨#[61, 34]⟩ : ByteArray) = ⟨#[61]⟩ ++ ⟨#[34]⟩ from rfl]
      simp only [ByteArray.append_assoc]
    have z1 : (⟨#[61]⟩ : ByteArray).size = 1 := rfl
    have z3 : (⟨#[34]⟩ : ByteArray).size = 1 := rfl
    generalize hu : ⟨#[34]⟩ ++ (b ++ (⟨#[34]⟩ ++ t)) = u at e1
    have hix : ix pE (item (a, b) ++ t) = a.size := by
      rw [e1, ByteArray.append_assoc, ix_app g2, ix_is (p := pE) (i := 0) (Nat.zero_le _) (fun j hj => absurd hj (Nat.not_lt_zero _)) (fun _ => ?_)]
      · rfl
      · have := bt_app_l (a := ⟨#[61]⟩) (b := u) (j := 0) (by decide)
        rw [this]
        decide
    have hz : (item (a, b) ++ t).size = a.size + 1 + u.size := by rw [e1, ByteArray.size_append, ByteArray.size_append, z1]
    have hbt : bt (item (a, b) ++ t) (a.size : Nat) = 61 := by
      rw [e1, ByteArray.append_assoc]
      have := bt_app_r (a := a) (b := ⟨#[61]⟩ ++ u) (j := 0) (by rw [ByteArray.size_append, z1]; omega)
      rw [Nat.add_zero] at this
      rw [this, bt_app_l (a := ⟨#[61]⟩) (b := u) (j := 0) (by decide)]
      decide
    have hx1 : (item (a, b) ++ t).extract 0 a.size = a := by rw [e1, ByteArray.append_assoc]; exact ext_app_l _ _
    have hx2 : (item (a, b) ++ t).extract (a.size + 1) (item (a, b) ++ t).size = u := by
      have := ext_app_r (a ++ ⟨#[61]⟩) u
      rwa [← e1, show (a ++ (⟨#[61]⟩ : ByteArray)).size = a.size + 1 from ByteArray.size_append] at this
    unfold one
    rw [hix, if_neg (by omega), if_neg (by rw [hbt]; decide), hx1, hx2]
    unfold oneE
    have hpu : pre QU u = true := by
      rw [pre_qu0, ← hu]
      have h1 := bt_app_l (a := ⟨#[34]⟩) (b := b ++ (⟨#[34]⟩ ++ t)) (j := 0) (by decide)
      have h2 : bt (⟨#[34]⟩ ++ (b ++ (⟨#[34]⟩ ++ t))) 0 = 34 := h1.trans (by decide)
      rw [h2, ByteArray.size_append, z3, decide_eq_true (show 0 < 1 + _ by omega)]
      rfl
    have hxu : u.extract 1 u.size = b ++ (⟨#[34]⟩ ++ t) := by
      rw [← hu]
      exact ext_app_r ⟨#[34]⟩ _
    rw [if_pos hpu, hxu]
    have hixb : ix (pB 34) (b ++ (⟨#[34]⟩ ++ t)) = b.size := by
      rw [ix_app g3, ix_is (p := pB 34) (i := 0) (Nat.zero_le _) (fun j hj => absurd hj (Nat.not_lt_zero _)) (fun _ => ?_)]
      · rfl
      · have := bt_app_l (a := ⟨#[34]⟩) (b := t) (j := 0) (by decide)
        rw [this]
        decide
    have hzb : (b ++ (⟨#[34]⟩ ++ t)).size = b.size + (1 + t.size) := by rw [ByteArray.size_append, ByteArray.size_append, z3]
    unfold cutq
    rw [hixb, if_pos (by omega)]
    have hy1 : (b ++ (⟨#[34]⟩ ++ t)).extract 0 b.size = b := ext_app_l _ _
    have hy2 : (b ++ (⟨#[34]⟩ ++ t)).extract (b.size + 1) (b ++ (⟨#[34]⟩ ++ t)).size = t := by
      have := ext_app_r (b ++ ⟨#[34]⟩) t
      rwa [show (b ++ (⟨#[34]⟩ : ByteArray)).size = b.size + 1 from ByteArray.size_append, ByteArray.append_assoc] at this
    rw [hy1, hy2]
  | false =>
    by_cases hb : b = ⟨#[]⟩
    · subst hb
      have e1 : item (a, ⟨#[]⟩) ++ t = a ++ t := by
        unfold item
        rw [sfx_e hq rfl]
        show a ++ ByteArray.empty ++ t = a ++ t
        rw [ByteArray.append_empty]
      have hix : ix pE (a ++ t) = a.size := by rw [ix_app g2, tl_ix ht (by decide)]; rfl
      have hz : (a ++ t).size = a.size + t.size := ByteArray.size_append
      rw [e1]
      unfold one
      rw [hix]
      rcases ht with ht | ⟨ht1, ht2⟩
      · have : t = ⟨#[]⟩ := nil_iff.2 ht
        subst this
        rw [if_pos (by omega), show a ++ (⟨#[]⟩ : ByteArray) = a from ByteArray.append_empty]
      · have hbt : bt (a ++ t) (a.size : Nat) = 44 := by
          have := bt_app_r (a := a) (b := t) (j := 0) ht1
          rw [Nat.add_zero] at this
          rw [this]; exact ht2
        rw [if_neg (by omega), if_pos hbt, ext_app_l, ext_app_r]
    · have e1 : item (a, b) ++ t = (a ++ ⟨#[61]⟩) ++ (b ++ t) := by
        unfold item
        rw [sfx_p hq hb]
        simp only [ByteArray.append_assoc]
      have hb0 : 0 < b.size := Nat.pos_of_ne_zero fun e => hb (nil_iff.2 e)
      have z1 : (⟨#[61]⟩ : ByteArray).size = 1 := rfl
      have hix : ix pE (item (a, b) ++ t) = a.size := by
        rw [e1, ByteArray.append_assoc, ix_app g2, ix_is (p := pE) (i := 0) (Nat.zero_le _) (fun j hj => absurd hj (Nat.not_lt_zero _)) (fun _ => ?_)]
        · rfl
        · have := bt_app_l (a := ⟨#[61]⟩) (b := b ++ t) (j := 0) (by decide)
          rw [this]
          decide
      have hz : (item (a, b) ++ t).size = a.size + 1 + (b.size + t.size) := by rw [e1, ByteArray.size_append, ByteArray.size_append, ByteArray.size_append, z1]
      have hbt : bt (item (a, b) ++ t) (a.size : Nat) = 61 := by
        rw [e1, ByteArray.append_assoc]
        have := bt_app_r (a := a) (b := ⟨#[61]⟩ ++ (b ++ t)) (j := 0) (by rw [ByteArray.size_append, z1]; omega)
        rw [Nat.add_zero] at this
        rw [this, bt_app_l (a := ⟨#[61]⟩) (b := b ++ t) (j := 0) (by decide)]
        decide
      have hx1 : (item (a, b) ++ t).extract 0 a.size = a := by rw [e1, ByteArray.append_assoc]; exact ext_app_l _ _
      have hx2 : (item (a, b) ++ t).extract (a.size + 1) (item (a, b) ++ t).size = b ++ t := by
        have := ext_app_r (a ++ ⟨#[61]⟩) (b ++ t)
        rwa [← e1, show (a ++ (⟨#[61]⟩ : ByteArray)).size = a.size + 1 from ByteArray.size_append] at this
      unfold one
      rw [hix, if_neg (by omega), if_neg (by rw [hbt]; decide), hx1, hx2]
      unfold oneE
      have hpu : pre QU (b ++ t) = false := by
        rw [pre_qu0]
        have h1 := bt_app_l (a := b) (b := t) (j := 0) hb0
        have h2 := of_decide_eq_false (g3 0 hb0)
        rw [decide_eq_false (show ¬ bt (b ++ t) 0 = 34 from fun e => h2 (h1.symm.trans e)), Bool.and_false]
      have hnc : ∀ j, j < b.size → pB 44 (bt b (j : Nat)) = false := fun j hj => by
        have h1 := of_decide_eq_false hq
        have h2 := ix_le pS b
        have h3 := ix_before (p := pS) (s := b) (i := j) (by omega)
        refine decide_eq_false fun e => ?_
        rw [e] at h3
        exact absurd h3 (by decide)
      have hixb : ix (pB 44) (b ++ t) = b.size := by rw [ix_app hnc, tl_ix ht (by decide)]; rfl
      rw [hpu, if_neg (by decide), hixb, ext_app_l, ext_app_r]
theorem jn_two (x y : ByteArray) (l : List ByteArray) : jn (x :: y :: l) = x ++ (SEP ++ jn (y :: l)) := by
  have key : ∀ (l : List ByteArray) (p a : ByteArray), l.foldl (fun a y => a ++ SEP ++ y) (p ++ a) = p ++ l.foldl (fun a y => a ++ SEP ++ y) a := by
    intro l
    induction l with
    | nil => intro p a; rfl
    | cons z l ih =>
      intro p a
      rw [List.foldl_cons, List.foldl_cons, ← ih]
      simp only [ByteArray.append_assoc]
  rw [jn_cons, jn_cons, List.foldl_cons, key l (x ++ SEP) y, ByteArray.append_assoc]
theorem lst_pos {v : Pr} {l : List Pr} (hg : good v = true) : 0 < (lst (v :: l)).size := by
  have g1 := (good_parts hg).1
  unfold lst
  rw [List.map_cons]
  cases l.map item with
  | nil =>
    show 0 < (item v).size
    unfold item
    rw [ByteArray.size_append]; omega
  | cons y r =>
    rw [jn_two, ByteArray.size_append]
    unfold item
    rw [ByteArray.size_append]; omega
theorem parse_lst : ∀ (l : List Pr), l.all good = true → parse (lst l) = some l
  | [], _ => parse_nil rfl
  | [v], h => by
    have hg : good v = true := by simpa using h
    have e : lst [v] = item v ++ ⟨#[]⟩ := (show lst [v] = item v from rfl).trans ByteArray.append_empty.symm
    have h1 := one_item hg (t := ⟨#[]⟩) (.inl rfl)
    have hpos := lst_pos (l := []) hg
    rw [e] at hpos ⊢
    rw [parse_last (by omega) (by rw [h1]; rfl), h1]
  | v :: w :: r, h => by
    rw [List.all_cons, Bool.and_eq_true] at h
    obtain ⟨hg, hr⟩ := h
    have ih := parse_lst (w :: r) hr
    have hw : good w = true := by rw [List.all_cons, Bool.and_eq_true] at hr; exact hr.1
    have hpw := lst_pos (l := r) hw
    have e : lst (v :: w :: r) = item v ++ (SEP ++ lst (w :: r)) := by
      unfold lst
      rw [List.map_cons, List.map_cons, jn_two]
    have hpos := lst_pos (l := w :: r) hg
    rw [e] at hpos ⊢
    have zt : (SEP ++ lst (w :: r)).size = 2 + (lst (w :: r)).size := ByteArray.size_append
    have ht : Tl (SEP ++ lst (w :: r)) := .inr ⟨by omega, (bt_app_l (a := SEP) (b := lst (w :: r)) (j := 0) (by decide)).trans (by decide)⟩
    have h1 := one_item hg ht
    have hp : pre SEP (SEP ++ lst (w :: r)) = true := by
      unfold pre
      rw [ext_app_l, decide_eq_true rfl, decide_eq_true (show SEP.size ≤ _ by rw [zt]; show 2 ≤ _; omega)]
      rfl
    have hx : (SEP ++ lst (w :: r)).extract 2 (SEP ++ lst (w :: r)).size = lst (w :: r) := ext_app_r SEP _
    rw [parse_more (by omega) (by rw [h1]; show (SEP ++ lst (w :: r)).size ≠ 0; omega) (by rw [h1]; exact ⟨hp, by show 2 < (SEP ++ lst (w :: r)).size; omega⟩), h1]
    show (parse ((SEP ++ lst (w :: r)).extract 2 (SEP ++ lst (w :: r)).size)).map (v :: ·) = _
    rw [hx, ih]
    rfl
theorem parse_sz : ∀ (n : Nat) (x : ByteArray) (m : List Pr), x.size ≤ n → parse x = some m → m.length ≤ x.size ∧ ∀ v ∈ m, v.1.size ≤ x.size ∧ v.2.size ≤ x.size
  | n, x, m, hn, h => by
    by_cases h0 : x.size = 0
    · rw [parse_nil h0] at h
      cases h
      exact ⟨Nat.zero_le _, fun v hv => by cases hv⟩
    have ho := one_size x
    by_cases h1 : (one x).2.size = 0
    · rw [parse_last h0 h1] at h
      cases h
      refine ⟨by show 1 ≤ _; omega, fun v hv => ?_⟩
      rw [List.mem_singleton.1 hv]
      omega
    by_cases h2 : pre SEP (one x).2 = true ∧ 2 < (one x).2.size
    · rw [parse_more h0 h1 h2] at h
      cases hp : parse ((one x).2.extract 2 (one x).2.size) with
      | none => rw [hp] at h; cases h
      | some r =>
        rw [hp] at h
        cases h
        cases n with
        | zero => omega
        | succ n =>
          have hz : ((one x).2.extract 2 (one x).2.size).size = (one x).2.size - 2 := ext_size
          obtain ⟨k1, k2⟩ := parse_sz n _ r (by omega) hp
          refine ⟨by rw [List.length_cons]; omega, fun v hv => ?_⟩
          rcases List.mem_cons.1 hv with rfl | hv
          · omega
          · have := k2 v hv
            omega
    · rw [parse_bad h0 h1 h2] at h
      cases h
theorem readV_some {s : ByteArray} {m : List Pr} (h : readV s = some m) : parse s = some m ∧ listV m = some s := by
  unfold readV at h
  cases hp : parse s with
  | none => rw [hp] at h; cases h
  | some l =>
    rw [hp] at h
    dsimp only at h
    split at h
    · rename_i hl
      cases h
      exact ⟨rfl, hl⟩
    · cases h
theorem readV_list {l : List Pr} {t : ByteArray} (h : listV l = some t) : readV t = some l := by
  have hg : l.all good = true := by
    unfold listV at h
    split at h
    · assumption
    · cases h
  have e := listV_ok hg
  rw [h] at e
  have e2 : t = lst l := Option.some.inj e
  exact readV_ok (by rw [e2]; exact parse_lst l hg) h
end Go.Proofs.Ytkdckdfbilmnhaa.Sx
