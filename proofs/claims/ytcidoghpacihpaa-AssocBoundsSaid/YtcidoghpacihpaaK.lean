/- What a packet is for: the document's answer. A table of a configuration. -/
import Derived.Test.YtcidoghpacihpaaJ
namespace Go.Proofs.Ytcidoghpacihpaa.Sx
open Go Go.RowKit
attribute [local irreducible] IW AOps AQuiet GQ GY AExec QY Yld ACalls ACallsD
attribute [local irreducible] tvs tcs
theorem disp_if (k m : Int) : disp k m = if k < 0 ∨ k > 9 then 0 else if m = 3 then 1 else if k = 0 ∧ m = 1 then 3 else if k = 0 ∧ m = 4 then 5 else if k = 0 ∧ m = 5 then 4 else if (k = 2 ∧ m = 1) ∨ (k = 2 ∧ m = 2) ∨ (k = 7 ∧ m = 1) ∨ (k = 1 ∧ m = 4) ∨ (k = 9 ∧ m = 4) ∨ (k = 4 ∧ m = 4) ∨ (k = 5 ∧ m = 4) ∨ (k = 8 ∧ m = 5) then 2 else 0 := by
  unfold disp
  by_cases h1 : k < 0 ∨ k > 9
  · rw [if_pos h1, if_pos h1]
  rw [if_neg h1, if_neg h1]
  by_cases h2 : m = 3
  · rw [if_pos h2, if_pos h2]
  rw [if_neg h2, if_neg h2]
  cases ht : tabIdx (k, m) with
  | some j =>
    obtain ⟨hk, hj⟩ := tabIdx_key ht
    dsimp only
    rcases j with _ | _ | _ | _ | _ | _ | _ | _ | _ | _ | _ | j
    all_goals first
      | (exfalso; omega)
      | (simp only [keyAt, Prod.mk.injEq] at hk; obtain ⟨rfl, rfl⟩ := hk; rfl)
  | none =>
    have hn : ∀ j, j < 11 → keyAt j ≠ (k, m) := fun j hj e => by
      rw [← e, tabIdx_at j hj] at ht
      cases ht
    have e0 := hn 0 (by decide)
    have e1 := hn 1 (by decide)
    have e2 := hn 2 (by decide)
    have e3 := hn 3 (by decide)
    have e4 := hn 4 (by decide)
    have e5 := hn 5 (by decide)
    have e6 := hn 6 (by decide)
    have e7 := hn 7 (by decide)
    have e8 := hn 8 (by decide)
    have e9 := hn 9 (by decide)
    have e10 := hn 10 (by decide)
    simp only [keyAt, ne_eq, Prod.mk.injEq] at e0 e1 e2 e3 e4 e5 e6 e7 e8 e9 e10
    rw [if_neg (by omega), if_neg (by omega), if_neg (by omega), if_neg (by omega)]
set_option maxHeartbeats 2000000 in
theorem dispatchR_spec (kind mode : Int) : ACalls Try.prog 9 [.sc (.int .i64 kind), .sc (.int .i64 mode)] ⟨0, []⟩ (fun r _ => r = .sc (.int .i64 (disp kind mode))) := by
  rw [disp_if]
  refine enter2 Try.func9 rfl 43 0 [.tmp 4] rfl rfl rfl ?_
  repeat' (first | (refine aops_nil ?_) | (show AOps _ _ _ _ _ _; first | (show AOps _ _ _ _ (⟨some _, .move _, _, _, _, none⟩ :: _) _; first | (refine o_y (v_move (v := .sc _) rfl) rfl ?_)) | (show AOps _ _ _ _ (⟨some _, .assign _, _, _, _, none⟩ :: _) _; first | (refine o_y (v_assign (v := .sc _) rfl) rfl ?_)) | (show AOps _ _ _ _ (⟨some _, .binOp _ _ _ _ _, _, _, _, none⟩ :: _) _; first | (refine o_y (y_bin rfl rfl rfl) rfl ?_)) | (show AOps _ _ _ _ (⟨some _, .pick _ _ _, _, _, _, none⟩ :: _) _; first | (refine o_y (v_pick_t (v := .sc _) rfl (by first | rfl | assumption | exact beq_self_eq_true _ | exact decide_eq_true rfl) rfl) rfl ?_) | (refine o_y (v_pick_f (v := .sc _) rfl (by first | rfl | assumption) rfl) rfl ?_)) | (show AOps _ _ _ _ (⟨_, _, _, _, _, some (_, _)⟩ :: _) _; first | (refine o_g_t rfl rfl rfl (by first | rfl | assumption | exact beq_self_eq_true _ | exact decide_eq_true rfl) ?_) | (refine o_g_f rfl rfl rfl (by first | rfl | assumption) ?_) | (refine o_un rfl rfl rfl (fun h hp => ?_) (fun h hp => ?_)))) | (show IW _ _ _ _ _; first | (refine awp_seq ?_) | (refine awp_region ?_) | (refine awp_block ?_) | (refine awp_ret ?_) | (refine awp_skip ?_) | (refine awp_if_t rfl (by first | rfl | assumption | exact beq_self_eq_true _ | exact decide_eq_true rfl) ?_) | (refine awp_if rfl (fun h hp => ?_) (fun h hp => ?_))) | (show thenQ _ _ _ _; first | (refine k_r ?_)) | (show blockQ _ _ _ _; first | (refine b_r ?_)))
  all_goals first
    | exact ret1 [] (by decide) rfl (congrArg (fun x => AV.sc (.int .i64 x)) (by (repeat' split) <;> omega))
end Go.Proofs.Ytcidoghpacihpaa.Sx
namespace Go.Proofs.Ytcidoghpacihpaa.Sx
open Go Go.RowKit
attribute [local irreducible] IW AOps AQuiet GQ GY AExec QY Yld ACalls ACallsD
attribute [local irreducible] tvs tcs
def toAs (x : S39) : As := ⟨x.f0, x.f1, x.f2, x.f3, x.f4, x.f5, x.f6, x.f7, x.f8, x.f9, x.f10, x.f11⟩
theorem toAs_cs (x : S39) : (toAs x).cs = x.cs := rfl
def newGo : List As → Nat → Tb → Option Tb
  | [], _, T => some T
  | a :: l, i, T => if taken T a = true then none else newGo l (i + 1) (upd1 T i (some ⟨i + 1, a, 0, 0, 0⟩))
def newT (l : List As) : Except Int Tb := if 16 < l.length then .error 120 else match newGo l 0 (fun _ => none) with | none => .error 53 | some T => .ok T
def NewR (S : Hp) (l : List As) (r : AV) (S' : Hp) : Prop := Fr S S' (fun _ => False) ∧ match newT l with
  | .error e => r = .tup [pnil, .sc (.int .i64 e)]
  | .ok T => ∃ t P, r = .tup [.ptr t 0, .sc (.int .i64 0)] ∧ S.nxt ≤ t ∧ TH t T P S' ∧ ∀ j e, j < 16 → T j = some e → S.nxt ≤ P j
theorem TH.put {t : Nat} {T : Tb} {P : Nat → Nat} {n : Nat} {bs : List (Nat × Option Blk)} (h : TH t T P ⟨n, bs⟩) {i m n' : Nat} {bs' : List (Nat × Option Blk)} {e : Ro} (hm : n ≤ m) (hm' : m < n') (g1 : find t bs' = some ⟨tcs (upd1 T i (some e)) (upd1 P i m), 16, 76⟩) (g2 : find m bs' = some ⟨e.cs, 16, 79⟩) (g3 : ∀ k, k < n → k ≠ t → find k bs' = find k bs) : TH t (upd1 T i (some e)) (upd1 P i m) ⟨n', bs'⟩ := by
  have hlt : t < n := h.lt
  refine ⟨g1, by show t < n'; omega, fun j e' hj hTj => ?_, fun i' j e1 e2 hi hj hTi hTj hij => ?_⟩
  · by_cases ej : j = i
    · subst ej
      simp only [upd1, if_true, Option.some.injEq] at hTj ⊢
      subst hTj
      exact ⟨g2, by omega, hm'⟩
    · simp only [upd1, if_neg ej] at hTj ⊢
      obtain ⟨k1, k2, k3⟩ := h.sl j e' hj hTj
      have k3' : P j < n := k3
      exact ⟨(g3 _ k3' k2).trans k1, k2, by show P j < n'; omega⟩
  · by_cases ei : i' = i <;> by_cases ej : j = i
    · rw [ei, ej]
    · simp only [upd1, if_neg ej] at hTj
      simp only [upd1, if_neg ej, if_pos ei] at hij
      have : P j < n := (h.sl j e2 hj hTj).2.2
      omega
    · simp only [upd1, if_neg ei] at hTi
      simp only [upd1, if_neg ei, if_pos ej] at hij
      have : P i' < n := (h.sl i' e1 hi hTi).2.2
      omega
    · simp only [upd1, if_neg ei] at hTi
      simp only [upd1, if_neg ej] at hTj
      simp only [upd1, if_neg ei, if_neg ej] at hij
      exact h.inj i' j e1 e2 hi hj hTi hTj hij
theorem tcs_nil (P : Nat → Nat) : tcs (fun _ => none) P = List.replicate 16 (.sc (.pointer none)) := by
  refine List.ext_getElem? fun j => ?_
  by_cases hj : j < 16
  · rw [tcs_none hj rfl rfl, List.getElem?_replicate, if_pos hj]
  · rw [List.getElem?_eq_none (by rw [tcs_length]; omega), List.getElem?_eq_none (by simp; omega)]
set_option maxHeartbeats 4000000 in
theorem new_spec (c : S31) (S : Hp) (hlen : c.f0.length ≤ maxLen) : ACalls Try.prog 10 [.agg c.cs] S (NewR S (c.f0.map toAs)) := by
  obtain ⟨n, bs⟩ := S
  refine enterA1 Try.func10 rfl 37 [.tmp 2, .tmp 3] rfl rfl ?_
  by_cases hbig : 16 < c.f0.length
  · have hE : newT (c.f0.map toAs) = .error 120 := by unfold newT; rw [if_pos (by simpa using hbig)]
    repeat' (first | (refine aops_nil ?_) | (show AOps _ _ _ _ _ _; first | (show AOps _ _ _ _ (⟨some _, .load _ _, _, _, _, none⟩ :: _) _; first | (refine o_y (y_load1 (v := .vsl _ _ _ _) rfl (by first | rfl | (repeat (first | assumption | exact find_at _ _ _ | refine find_sk (by omega) ?_))) (by rfl)) rfl ?_)) | (show AOps _ _ _ _ (⟨some _, .fieldAddr _ _ _, _, _, _, none⟩ :: _) _; first | (refine o_y (y_fld_ptr rfl rfl) rfl ?_)) | (show AOps _ _ _ _ (⟨some _, .assign _, _, _, _, none⟩ :: _) _; first | (refine o_y (v_assign (v := .sc _) rfl) rfl ?_)) | (show AOps _ _ _ _ (⟨some _, .binOp .add _ _ _ _, _, _, _, none⟩ :: _) _; first | (refine o_y (y_bin rfl rfl rfl) rfl ?_)) | (show AOps _ _ _ _ (⟨some _, .binOp _ _ _ _ _, _, _, _, none⟩ :: _) _; first | (refine o_y (y_bin rfl rfl rfl) rfl ?_)) | (show AOps _ _ _ _ (⟨some _, .call ⟨.builtin .len, _, _⟩, _, _, _, none⟩ :: _) _; first | (refine o_y (y_lenV rfl) rfl ?_)) | (show AOps _ _ _ _ (⟨_, .box _ _, _, _, _, none⟩ :: _) _; first | (refine o_x (b_agg rfl rfl rfl ?_)))) | (show IW _ _ [.code (.seq _ _)] _ _; first | (show AWP _ _ (.seq (.seq _ _) _) _ _; refine awp_seq ?_) | (show AWP _ _ (.seq (.region 0 _ _) _) _ _; refine awp_seq ?_) | (show AWP _ _ (.seq (.region 1 _ _) _) _ _; refine awp_seq ?_) | (show AWP _ _ (.seq (.region 2 _ _) _) _ _; refine awp_seq ?_)) | (show IW _ _ _ _ _; first | (refine awp_region ?_) | (refine awp_ret ?_) | (refine awp_skip ?_) | (refine awp_if rfl (fun h hp => ?_) (fun h hp => ?_))) | (show thenQ _ _ _ _; first | (refine k_n ?_) | (refine k_r ?_)))
    all_goals first
      | (exfalso; omega)
      | exact retA2 ⟨((Fr.refl _ _).push (k := n) (m := n + 1) (.inr (Nat.le_refl _)) (Nat.le_succ _)), by rw [hE]; rfl⟩
  · have hE : newT (c.f0.map toAs) = match newGo (c.f0.map toAs) 0 (fun _ => none) with | none => .error 53 | some T => .ok T := by unfold newT; rw [if_neg (by simpa using hbig)]
    repeat' (first | (refine aops_nil ?_) | (show AOps _ _ _ _ _ _; first | (show AOps _ _ _ _ (⟨some _, .build _ _, _, _, _, none⟩ :: _) _; first | (refine o_y (y_build (cs := List.replicate 16 (.sc (.pointer none))) rfl rfl) rfl ?_)) | (show AOps _ _ _ _ (⟨some _, .move _, _, _, _, none⟩ :: _) _; first | (refine o_y (v_move (v := .sc _) rfl) rfl ?_)) | (show AOps _ _ _ _ (⟨some _, .load _ _, _, _, _, none⟩ :: _) _; first | (refine o_y (y_load1 (v := .vsl _ _ _ _) rfl (by first | rfl | (repeat (first | assumption | exact find_at _ _ _ | refine find_sk (by omega) ?_))) (by rfl)) rfl ?_)) | (show AOps _ _ _ _ (⟨some _, .fieldAddr _ _ _, _, _, _, none⟩ :: _) _; first | (refine o_y (y_fld_ptr rfl rfl) rfl ?_)) | (show AOps _ _ _ _ (⟨some _, .assign _, _, _, _, none⟩ :: _) _; first | (refine o_y (v_assign (v := .sc _) rfl) rfl ?_) | (refine o_y (v_assign (v := .ptr _ _) rfl) rfl ?_)) | (show AOps _ _ _ _ (⟨some _, .binOp _ _ _ _ _, _, _, _, none⟩ :: _) _; first | (refine o_y (y_bin rfl rfl rfl) rfl ?_)) | (show AOps _ _ _ _ (⟨some _, .call ⟨.builtin .len, _, _⟩, _, _, _, none⟩ :: _) _; first | (refine o_y (y_lenV rfl) rfl ?_)) | (show AOps _ _ _ _ (⟨_, .box _ _, _, _, _, none⟩ :: _) _; first | (refine o_x (b_agg rfl rfl rfl ?_)))) | (show IW _ _ [.code (.seq _ _)] _ _; first | (show AWP _ _ (.seq (.region _ _ _) _) _ _; refine awp_seq ?_) | (show AWP _ _ (.seq (.seq _ _) _) _ _; refine awp_seq ?_)) | (show IW _ _ _ _ _; first | (refine awp_region ?_) | (refine awp_block ?_) | (refine awp_ret ?_) | (refine awp_skip ?_) | (refine awp_if rfl (fun h hp => ?_) (fun h hp => ?_))) | (show thenQ _ _ _ _; first | (refine k_r ?_)))
    all_goals try (exfalso; omega)
    have hl0 : Fr ⟨n, bs⟩ ⟨n + 1 + 1, (n + 1, some ⟨List.replicate 16 (.sc (.pointer none)), 16, 76⟩) :: (n, some ⟨c.cs, c.cs.length, 32⟩) :: bs⟩ (fun _ => False) := ((Fr.refl _ _).push (k := n) (m := n + 1) (.inr (Nat.le_refl _)) (Nat.le_succ _)).push (k := n + 1) (m := n + 1 + 1) (.inr (Nat.le_succ _)) (Nat.le_succ _)
    refine awp_loopA (fun x : Nat × Tb × (Nat → Nat) × Hp => x.1 ≤ c.f0.length ∧ newGo (c.f0.map toAs) 0 (fun _ => none) = newGo ((c.f0.map toAs).drop x.1) x.1 x.2.1 ∧ TH (n + 1) x.2.1 x.2.2.1 x.2.2.2 ∧ Fr ⟨n, bs⟩ x.2.2.2 (fun _ => False) ∧ ∀ j e, j < 16 → x.2.1 j = some e → n ≤ x.2.2.1 j) (fun x => c.f0.length - x.1)
      (fun x => [(2, .sc (.pointer none)), (3, .sc (.int .i64 0)), (4, .ptr (n + 1) 0), (14, .vsl (c.f0.flatMap fun x => x.cs) 12 0 c.f0.length), (15, .sc (.int .i64 c.f0.length)), (16, .sc (.int .i64 x.1))]) (fun x => x.2.2.2)
      (0, (fun _ => none), (fun _ => 0), ⟨n + 1 + 1, (n + 1, some ⟨List.replicate 16 (.sc (.pointer none)), 16, 76⟩) :: (n, some ⟨c.cs, c.cs.length, 32⟩) :: bs⟩) rfl ⟨Nat.zero_le _, rfl, ⟨by rw [tcs_nil]; exact find_at _ _ _, by show n + 1 < n + 1 + 1; omega, fun j e _ h => (by cases h), fun i j e e' _ _ h => (by cases h)⟩, hl0, fun j e _ h => (by cases h)⟩ ⟨rfl, rfl, rfl, rfl, rfl, rfl, trivial⟩ (hpEq_refl _) ?_
    rintro ⟨i, T, P, ⟨m, bs1⟩⟩ ⟨h1, h2, h3, h4, h5⟩ ih
    dsimp only at h1 h2 h3 h4 h5 ih ⊢
    by_cases hi : i < c.f0.length
    · obtain ⟨x, hx⟩ : ∃ x, c.f0[i]? = some x := ⟨_, List.getElem?_eq_getElem hi⟩
      have vx : ((c.f0.flatMap fun x => x.cs).drop ((0 + Int.toNat i) * 12)).take 12 = x.cs := by rw [Nat.zero_add]; exact flat_at (esz := 12) (fun _ => rfl) hx
      repeat' (first | (refine aops_nil ?_) | (show AOps _ _ _ _ _ _; first | (show AOps _ _ _ _ (⟨some _, .move _, _, _, _, none⟩ :: _) _; first | (refine o_y (v_move (v := .sc _) rfl) rfl ?_) | (refine o_y (v_move (v := .ptr _ _) rfl) rfl ?_)) | (show AOps _ _ _ _ (⟨some _, .load _ _, _, _, _, none⟩ :: _) _; first | (refine o_y (y_vloadE rfl (by assumption) (by rfl) rfl) rfl ?_)) | (show AOps _ _ _ _ (⟨some _, .assign _, _, _, _, none⟩ :: _) _; first | (refine o_y (v_assign (v := .sc _) rfl) rfl ?_) | (refine o_y (v_assign (v := .ptr _ _) rfl) rfl ?_)) | (show AOps _ _ _ _ (⟨some _, .binOp _ _ _ _ _, _, _, _, none⟩ :: _) _; first | (refine o_y (y_bin rfl rfl rfl) rfl ?_)) | (show AOps _ _ _ _ (⟨some _, .indexAddr _ _ _, _, _, _, none⟩ :: _) _; first | (refine o_y (y_ix_vsl rfl rfl rfl (by omega) (by omega)) rfl ?_)) | (show AOps _ _ _ _ (⟨_, .store _ _ _, _, _, _, none⟩ :: _) _; first | (refine o_x (s_storeW rfl rfl (by first | rfl | (repeat (first | assumption | exact find_at _ _ _ | refine find_sk (by omega) ?_))) (by rfl) (by rfl) (by first | rfl | assumption) ?_))) | (show AOps _ _ _ _ (⟨_, .alloc _, _, _, _, none⟩ :: _) _; first | (refine o_x (a_new (by first | (simp only [AV.ofV, AV.cells, List.map_cons, List.map_nil]; rfl) | rfl) rfl rfl rfl ?_)))) | (show IW _ _ [.code (.seq _ _)] _ _; first | (show AWP _ _ (.seq (.cond _ _ _) _) _ _; refine awp_seq ?_) | (show AWP _ _ (.seq (.block _ _) _) _ _; refine awp_seq ?_) | (show AWP _ _ (.seq (.seq _ _) _) _ _; refine awp_seq ?_) | (show AWP _ _ (.seq (.region 5 _ _) _) _ _; refine awp_seq ?_) | (show AWP _ _ (.seq (.region 6 _ _) _) _ _; refine awp_seq ?_) | (show AWP _ _ (.seq (.region 11 _ _) _) _ _; refine awp_seq ?_)) | (show IW _ _ _ _ _; first | (refine awp_region ?_) | (refine awp_block ?_) | (refine awp_exit ?_) | (refine awp_ret ?_) | (refine awp_skip ?_) | (refine awp_if rfl (fun h hp => ?_) (fun h hp => ?_))))
      all_goals try (exfalso; omega)
      refine iw_frzP 6 m rfl (find_at _ _ _) rfl ?_
      have hmn : n + 1 < m := h3.lt
      have hf1 : Fr ⟨m, bs1⟩ ⟨m + 1, (m, none) :: (m, some ⟨x.cs, 12, 40⟩) :: (m, some ⟨zAs.cs, 12, 40⟩) :: bs1⟩ (fun _ => False) := (((Fr.refl _ _).push (k := m) (m := m + 1) (.inr (Nat.le_refl _)) (Nat.le_succ _)).push (k := m) (m := m + 1) (.inr (Nat.le_refl _)) (Nat.le_refl _)).push (k := m) (m := m + 1) (.inr (Nat.le_refl _)) (Nat.le_refl _)
      have k1 : TH (n + 1) T P ⟨m + 1, (m, none) :: (m, some ⟨x.cs, 12, 40⟩) :: (m, some ⟨zAs.cs, 12, 40⟩) :: bs1⟩ := h3.keep hf1 (by simp) (fun _ _ _ _ => by simp)
      show IW _ _ _ _ ⟨_, _, ⟨m + 1, (m, none) :: (m, some ⟨x.cs, 12, 40⟩) :: (m, some ⟨zAs.cs, 12, 40⟩) :: bs1⟩⟩
      generalize (m, none) :: (m, some (Blk.mk x.cs 12 40)) :: (m, some (Blk.mk zAs.cs 12 40)) :: bs1 = bs2 at k1 hf1
      have st : ACalls Try.prog 22 [.ptr (n + 1) 0, .agg x.cs] ⟨m + 1, bs2⟩ (fun r S' => r = .sc (.bool (taken T (toAs x))) ∧ S' = ⟨m + 1, bs2⟩) := acalls_frz (taken_spec T (toAs x)) rfl ⟨frzT k1, frzS_of ⟨rfl, rfl⟩, trivial⟩
      have hd : (c.f0.map toAs).drop i = toAs x :: (c.f0.map toAs).drop (i + 1) := by
        rw [List.drop_eq_getElem_cons (by simpa using hi)]
        congr 1
        rw [List.getElem_map]
        exact congrArg toAs (by rw [List.getElem?_eq_getElem hi] at hx; exact Option.some.inj hx)
      rw [hd, newGo] at h2
      by_cases htk : taken T (toAs x) = true
      · rw [if_pos htk] at h2
        rw [htk] at st
        repeat' (first | (refine aops_nil ?_) | (show AOps _ _ _ _ _ _; first | (show AOps _ _ _ _ (⟨some _, .move _, _, _, _, none⟩ :: _) _; first | (refine o_y (v_move (v := .ptr _ _) rfl) rfl ?_)) | (show AOps _ _ _ _ (⟨some _, .load _ _, _, _, _, none⟩ :: _) _; first | (refine o_y (y_vloadW rfl rfl) rfl ?_)) | (show AOps _ _ _ _ (⟨some _, .assign _, _, _, _, none⟩ :: _) _; first | (refine o_y (v_assign (v := .sc _) rfl) rfl ?_)) | (show AOps _ _ _ _ (⟨_, .call ⟨.value (.func 22), _, _⟩, _, _, _, none⟩ :: _) _; refine o_x (x_callA rfl (st) ?_); rintro _ _ ⟨rfl, rfl⟩)) | (show IW _ _ _ _ _; first | (refine awp_seq ?_) | (refine awp_region ?_) | (refine awp_ret ?_) | (refine awp_if_t rfl (by first | rfl | assumption | exact beq_self_eq_true _ | exact decide_eq_true rfl) ?_)) | (show thenQ _ _ _ _; first | (refine k_r ?_)) | (show blockQ _ _ _ _; first | (refine b_r ?_)))
        all_goals first
          | (exfalso; omega)
          | exact retA2 ⟨(h4.trans hf1), by rw [hE, h2]; rfl⟩
      · rw [if_neg htk] at h2
        rw [Bool.eq_false_iff.2 htk] at st
        repeat' (first | (refine aops_nil ?_) | (show AOps _ _ _ _ _ _; first | (show AOps _ _ _ _ (⟨some _, .move _, _, _, _, none⟩ :: _) _; first | (refine o_y (v_move (v := .ptr _ _) rfl) rfl ?_)) | (show AOps _ _ _ _ (⟨some _, .load _ _, _, _, _, none⟩ :: _) _; first | (refine o_y (y_vloadW rfl rfl) rfl ?_)) | (show AOps _ _ _ _ (⟨_, .call ⟨.value (.func 22), _, _⟩, _, _, _, none⟩ :: _) _; refine o_x (x_callA rfl (st) ?_); rintro _ _ ⟨rfl, rfl⟩)) | (show IW _ _ [.code (.seq _ _)] _ _; first | (show AWP _ _ (.seq (.region 7 _ _) _) _ _; refine awp_seq ?_)) | (show IW _ _ _ _ _; first | (refine awp_region ?_) | (refine awp_skip ?_) | (refine awp_if_f rfl (by first | rfl | assumption) ?_)) | (show thenQ _ _ _ _; first | (refine k_n ?_)))
        all_goals try (exfalso; omega)
        have hls : 0 + 0 + Int.toNat i * 1 < (tcs T P).length := by rw [tcs_length]; omega
        have hput := tcs_put (T := T) (P := P) (i := i) (k := 0 + 0 + Int.toNat i * 1) ⟨i + 1, toAs x, 0, 0, 0⟩ (m + 1) (by omega) (by omega)
        refine awp_any ?_
        show AAny _ _ _ _ 12 _ ⟨(23, .sc (.bool false)) :: _, [], ⟨m + 1, bs2⟩⟩
        refine aany_take 0 rfl (p_move (v := .ptr (n + 1) 0) rfl) rfl (by decide +kernel) (fun _ _ h => h) ?_
        refine aany_take 1 rfl (p_move (v := .sc (.int .i64 i)) rfl) rfl (by decide +kernel) (fun _ _ h => h) ?_
        refine aany_take 2 rfl (p_move (v := .sc (.int .i64 i)) rfl) rfl (by decide +kernel) (fun _ _ h => h) ?_
        refine aany_take 3 rfl (p_add rfl rfl (by omega) (by omega)) rfl (by decide +kernel) (fun _ _ h => h) ?_
        refine aany_take 8 rfl (p_nil rfl) rfl (by decide +kernel) (fun _ _ h => h) ?_
        refine aany_take 9 rfl (p_fld rfl rfl) rfl (by decide +kernel) (fun _ _ h => h) ?_
        refine aany_all [4] (by decide +kernel) rfl (aall_cons rfl (o_y (y_vloadW (cs := x.cs) rfl rfl) rfl (aops_nil ?_)) trivial)
        show AAny _ _ _ _ _ _ _
        refine aany_all [5] (by decide +kernel) rfl (aall_cons rfl (o_y (y_build (cs := (Ro.mk (i + 1) (toAs x) 0 0 0).en) rfl rfl) rfl (aops_nil ?_)) trivial)
        show AAny _ _ _ _ _ _ _
        refine aany_all [6] (by decide +kernel) rfl (aall_cons rfl (o_y (y_build (cs := (Ro.mk (i + 1) (toAs x) 0 0 0).cs) rfl rfl) rfl (aops_nil ?_)) trivial)
        show AAny _ _ _ _ _ _ _
        refine aany_all [7] (by decide +kernel) rfl (aall_cons rfl (o_x (x_box (v := .agg (Ro.mk (i + 1) (toAs x) 0 0 0).cs) rfl rfl rfl (aops_nil ?_))) trivial)
        show AAny _ _ _ _ _ _ ⟨(31, .ptr (m + 1) 0) :: _, [], ⟨m + 1 + 1, (m + 1, some ⟨(Ro.mk (i + 1) (toAs x) 0 0 0).cs, 16, 79⟩) :: bs2⟩⟩
        refine aany_all [10] (by decide +kernel) rfl (aall_cons rfl (o_y (y_ix_arr rfl rfl (by omega) (by omega)) rfl (aops_nil ?_)) trivial)
        show AAny _ _ _ _ _ _ ⟨(34, .ptr (n + 1) (0 + 0 + Int.toNat i * 1)) :: _, [], ⟨m + 1 + 1, (m + 1, some ⟨(Ro.mk (i + 1) (toAs x) 0 0 0).cs, 16, 79⟩) :: bs2⟩⟩
        refine aany_all [11] (by decide +kernel) rfl (aall_cons rfl (o_x (s_storeP (v := .ptr (m + 1) 0) rfl rfl (show find (n + 1) ((m + 1, _) :: bs2) = _ from (find_sk (by omega) k1.tb)) rfl hls hput (aops_nil ?_))) trivial)
        show AAny _ _ _ _ _ _ _
        refine aany_done (by decide +kernel) ?_
        have g3 : ∀ k, k < m + 1 → k ≠ n + 1 → find k ((n + 1, some (Blk.mk (tcs (upd1 T i (some ⟨i + 1, toAs x, 0, 0, 0⟩)) (upd1 P i (m + 1))) 16 76)) :: (m + 1, some (Blk.mk (Ro.mk (i + 1) (toAs x) 0 0 0).cs 16 79)) :: bs2) = find k bs2 := fun k e1 e2 => by
          rw [find_sk (Ne.symm e2) rfl, find_sk (by omega) rfl]
        have k2 := k1.put (i := i) (m := m + 1) (n' := m + 1 + 1) (bs' := (n + 1, some (Blk.mk (tcs (upd1 T i (some ⟨i + 1, toAs x, 0, 0, 0⟩)) (upd1 P i (m + 1))) 16 76)) :: (m + 1, some (Blk.mk (Ro.mk (i + 1) (toAs x) 0 0 0).cs 16 79)) :: bs2) (e := ⟨i + 1, toAs x, 0, 0, 0⟩) (Nat.le_refl _) (by omega) (find_at _ _ _) (find_sk (by omega) (find_at _ _ _)) g3
        have hf2 : Fr ⟨n, bs⟩ ⟨m + 1 + 1, (n + 1, some (Blk.mk (tcs (upd1 T i (some ⟨i + 1, toAs x, 0, 0, 0⟩)) (upd1 P i (m + 1))) 16 76)) :: (m + 1, some (Blk.mk (Ro.mk (i + 1) (toAs x) 0 0 0).cs 16 79)) :: bs2⟩ (fun _ => False) := ((h4.trans hf1).push (k := m + 1) (m := m + 1 + 1) (.inr (by show n ≤ m + 1; omega)) (Nat.le_succ _)).push (k := n + 1) (m := m + 1 + 1) (.inr (Nat.le_succ _)) (Nat.le_refl _)
        generalize (n + 1, some (Blk.mk (tcs (upd1 T i (some ⟨i + 1, toAs x, 0, 0, 0⟩)) (upd1 P i (m + 1))) 16 76)) :: (m + 1, some (Blk.mk (Ro.mk (i + 1) (toAs x) 0 0 0).cs 16 79)) :: bs2 = bs3 at k2 hf2
        repeat' (first | (refine aops_nil ?_) | (show AOps _ _ _ _ _ _; first | (show AOps _ _ _ _ (⟨some _, .move _, _, _, _, none⟩ :: _) _; first | (refine o_y (v_move (v := .sc _) rfl) rfl ?_)) | (show AOps _ _ _ _ (⟨some _, .binOp .add _ _ _ _, _, _, _, none⟩ :: _) _; first | (refine o_y (z_add rfl rfl (by omega) (by omega)) rfl ?_))) | (show IW _ _ _ _ _; first | (refine awp_region ?_)) | (show thenQ _ _ _ _; first | (refine k_n ?_)))
        all_goals first
          | (exfalso; omega)
          | exact iw_atA (ih (i + 1, upd1 T i (some ⟨i + 1, toAs x, 0, 0, 0⟩), upd1 P i (m + 1), ⟨m + 1 + 1, bs3⟩) ⟨hi, h2, k2, hf2, fun j e hj hT => by
              by_cases ej : j = i
              · simp only [upd1, if_pos ej]; omega
              · simp only [upd1, if_neg ej] at hT ⊢; exact h5 j e hj hT⟩ (by dsimp only; omega)) rfl ⟨rfl, rfl, rfl, rfl, rfl, rfl, trivial⟩ (hpEq_refl _)
    · have h2' : newGo (c.f0.map toAs) 0 (fun _ => none) = some T := by
        rw [h2, List.drop_eq_nil_of_le (by simp; omega)]
        rfl
      repeat' (first | (refine aops_nil ?_) | (show AOps _ _ _ _ _ _; first | (show AOps _ _ _ _ (⟨some _, .move _, _, _, _, none⟩ :: _) _; first | (refine o_y (v_move (v := .ptr _ _) rfl) rfl ?_)) | (show AOps _ _ _ _ (⟨some _, .assign _, _, _, _, none⟩ :: _) _; first | (refine o_y (v_assign (v := .sc _) rfl) rfl ?_) | (refine o_y (v_assign (v := .ptr _ _) rfl) rfl ?_)) | (show AOps _ _ _ _ (⟨some _, .binOp _ _ _ _ _, _, _, _, none⟩ :: _) _; first | (refine o_y (y_bin rfl rfl rfl) rfl ?_))) | (show IW _ _ [.code (.seq _ _)] _ _; first | (show AWP _ _ (.seq (.cond _ _ _) _) _ _; refine awp_seq ?_) | (show AWP _ _ (.seq (.block _ _) _) _ _; refine awp_seq ?_) | (show AWP _ _ (.seq (.region 5 _ _) _) _ _; refine awp_seq ?_) | (show AWP _ _ (.seq (.region 11 _ _) _) _ _; refine awp_seq ?_)) | (show IW _ _ _ _ _; first | (refine awp_region ?_) | (refine awp_block ?_) | (refine awp_exit ?_) | (refine awp_ret ?_) | (refine awp_skip ?_) | (refine awp_if rfl (fun h hp => ?_) (fun h hp => ?_))))
      all_goals first
        | (exfalso; omega)
        | exact retA2 ⟨h4, by rw [hE, h2']; exact ⟨n + 1, P, rfl, Nat.le_succ _, h3, h5⟩⟩
end Go.Proofs.Ytcidoghpacihpaa.Sx
