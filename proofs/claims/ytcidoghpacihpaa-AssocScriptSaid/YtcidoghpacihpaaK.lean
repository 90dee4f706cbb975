/- What a packet is for: the document's answer. A table of a configuration. The document's first examples. What a packet is for: the law. -/
import Derived.Test.YtcidoghpacihpaaI
namespace Go.Proofs.Ytcidoghpacihpaa.Sx
open Go Go.RowKit
attribute [local irreducible] IW AOps AQuiet GQ GY AExec QY Yld ACalls ACallsD
attribute [local irreducible] tvs tcs
theorem disp_if (k m : Int) : disp k m = if k < 0 ∨ k > 9 then 0 else if m = 3 then 1 else if k = 0 ∧ m = 1 then 3 else if k = 0 ∧ m = 4 then 5 else if k = 0 ∧ m = 5 then 4 else if (k = 2 ∧ m = 1) ∨ (k = 2 ∧ m = 2) ∨ (k = 7 ∧ m = 1) ∨ (k = 1 ∧ m = 4) ∨ (k = 9 ∧ m = 4) ∨ (k = 4 ∧ m = 4) ∨ (k = 5 ∧ m = 4) ∨ (k = 8 ∧ m = 5) then 2 else 0 := by
  unfold disp
  by_cases h1 : k < 0 ∨ k > 9
  · rw [if_pos h1, if_pos h1]
  rw [if_neg h1, if_neg h1]
  by_cases h2 : m = 3
  · rw [if_pos h2, if_pos h2]
  rw [if_neg h2, if_neg h2]
  cases ht : tabIdx (k, m) with
  | some j =>
    obtain ⟨hk, hj⟩ := tabIdx_key ht
    dsimp only
    rcases j with _ | _ | _ | _ | _ | _ | _ | _ | _ | _ | _ | j
    all_goals first
      | (exfalso; omega)
      | (simp only [keyAt, Prod.mk.injEq] at hk; obtain ⟨rfl, rfl⟩ := hk; rfl)
  | none =>
    have hn : ∀ j, j < 11 → keyAt j ≠ (k, m) := fun j hj e => by
      rw [← e, tabIdx_at j hj] at ht
      cases ht
    have e0 := hn 0 (by decide)
    have e1 := hn 1 (by decide)
    have e2 := hn 2 (by decide)
    have e3 := hn 3 (by decide)
    have e4 := hn 4 (by decide)
    have e5 := hn 5 (by decide)
    have e6 := hn 6 (by decide)
    have e7 := hn 7 (by decide)
    have e8 := hn 8 (by decide)
    have e9 := hn 9 (by decide)
    have e10 := hn 10 (by decide)
    simp only [keyAt, ne_eq, Prod.mk.injEq] at e0 e1 e2 e3 e4 e5 e6 e7 e8 e9 e10
    rw [if_neg (by omega), if_neg (by omega), if_neg (by omega), if_neg (by omega)]
set_option maxHeartbeats 2000000 in
theorem dispatchR_spec (kind mode : Int) : ACalls Try.prog 9 [.sc (.int .i64 kind), .sc (.int .i64 mode)] ⟨0, []⟩ (fun r _ => r = .sc (.int .i64 (disp kind mode))) := by
  rw [disp_if]
  refine enter2 Try.func9 rfl 43 0 [.tmp 4] rfl rfl rfl ?_
  repeat' (first | (refine aops_nil ?_) | (show AOps _ _ _ _ _ _; first | (show AOps _ _ _ _ (⟨some _, .move _, _, _, _, none⟩ :: _) _; first | (refine o_y (v_move (v := .sc _) rfl) rfl ?_)) | (show AOps _ _ _ _ (⟨some _, .assign _, _, _, _, none⟩ :: _) _; first | (refine o_y (v_assign (v := .sc _) rfl) rfl ?_)) | (show AOps _ _ _ _ (⟨some _, .binOp _ _ _ _ _, _, _, _, none⟩ :: _) _; first | (refine o_y (y_bin rfl rfl rfl) rfl ?_)) | (show AOps _ _ _ _ (⟨some _, .pick _ _ _, _, _, _, none⟩ :: _) _; first | (refine o_y (v_pick_t (v := .sc _) rfl (by first | rfl | assumption | exact beq_self_eq_true _ | exact decide_eq_true rfl) rfl) rfl ?_) | (refine o_y (v_pick_f (v := .sc _) rfl (by first | rfl | assumption) rfl) rfl ?_)) | (show AOps _ _ _ _ (⟨_, _, _, _, _, some (_, _)⟩ :: _) _; first | (refine o_g_t rfl rfl rfl (by first | rfl | assumption | exact beq_self_eq_true _ | exact decide_eq_true rfl) ?_) | (refine o_g_f rfl rfl rfl (by first | rfl | assumption) ?_) | (refine o_un rfl rfl rfl (fun h hp => ?_) (fun h hp => ?_)))) | (show IW _ _ _ _ _; first | (refine awp_seq ?_) | (refine awp_region ?_) | (refine awp_block ?_) | (refine awp_ret ?_) | (refine awp_skip ?_) | (refine awp_if_t rfl (by first | rfl | assumption | exact beq_self_eq_true _ | exact decide_eq_true rfl) ?_) | (refine awp_if rfl (fun h hp => ?_) (fun h hp => ?_))) | (show thenQ _ _ _ _; first | (refine k_r ?_)) | (show blockQ _ _ _ _; first | (refine b_r ?_)))
  all_goals first
    | exact ret1 [] (by decide) rfl (congrArg (fun x => AV.sc (.int .i64 x)) (by (repeat' split) <;> omega))
end Go.Proofs.Ytcidoghpacihpaa.Sx
namespace Go.Proofs.Ytcidoghpacihpaa.Sx
open Go Go.RowKit
attribute [local irreducible] IW AOps AQuiet GQ GY AExec QY Yld ACalls ACallsD
attribute [local irreducible] tvs tcs
def toAs (x : S39) : As := ⟨x.f0, x.f1, x.f2, x.f3, x.f4, x.f5, x.f6, x.f7, x.f8, x.f9, x.f10, x.f11⟩
theorem toAs_cs (x : S39) : (toAs x).cs = x.cs := rfl
def newGo : List As → Nat → Tb → Option Tb
  | [], _, T => some T
  | a :: l, i, T => if taken T a = true then none else newGo l (i + 1) (upd1 T i (some ⟨i + 1, a, 0, 0, 0⟩))
def newT (l : List As) : Except Int Tb := if 16 < l.length then .error 120 else match newGo l 0 (fun _ => none) with | none => .error 53 | some T => .ok T
def NewR (S : Hp) (l : List As) (r : AV) (S' : Hp) : Prop := Fr S S' (fun _ => False) ∧ match newT l with
  | .error e => r = .tup [pnil, .sc (.int .i64 e)]
  | .ok T => ∃ t P, r = .tup [.ptr t 0, .sc (.int .i64 0)] ∧ S.nxt ≤ t ∧ TH t T P S' ∧ ∀ j e, j < 16 → T j = some e → S.nxt ≤ P j
theorem TH.put {t : Nat} {T : Tb} {P : Nat → Nat} {n : Nat} {bs : List (Nat × Option Blk)} (h : TH t T P ⟨n, bs⟩) {i m n' : Nat} {bs' : List (Nat × Option Blk)} {e : Ro} (hm : n ≤ m) (hm' : m < n') (g1 : find t bs' = some ⟨tcs (upd1 T i (some e)) (upd1 P i m), 16, 76⟩) (g2 : find m bs' = some ⟨e.cs, 16, 79⟩) (g3 : ∀ k, k < n → k ≠ t → find k bs' = find k bs) : TH t (upd1 T i (some e)) (upd1 P i m) ⟨n', bs'⟩ := by
  have hlt : t < n := h.lt
  refine ⟨g1, by show t < n'; omega, fun j e' hj hTj => ?_, fun i' j e1 e2 hi hj hTi hTj hij => ?_⟩
  · by_cases ej : j = i
    · subst ej
      simp only [upd1, if_true, Option.some.injEq] at hTj ⊢
      subst hTj
      exact ⟨g2, by omega, hm'⟩
    · simp only [upd1, if_neg ej] at hTj ⊢
      obtain ⟨k1, k2, k3⟩ := h.sl j e' hj hTj
      have k3' : P j < n := k3
      exact ⟨(g3 _ k3' k2).trans k1, k2, by show P j < n'; omega⟩
  · by_cases ei : i' = i <;> by_cases ej : j = i
    · rw [ei, ej]
    · simp only [upd1, if_neg ej] at hTj
      simp only [upd1, if_neg ej, if_pos ei] at hij
      have : P j < n := (h.sl j e2 hj hTj).2.2
      omega
    · simp only [upd1, if_neg ei] at hTi
      simp only [upd1, if_neg ei, if_pos ej] at hij
      have : P i' < n := (h.sl i' e1 hi hTi).2.2
      omega
    · simp only [upd1, if_neg ei] at hTi
      simp only [upd1, if_neg ej] at hTj
      simp only [upd1, if_neg ei, if_neg ej] at hij
      exact h.inj i' j e1 e2 hi hj hTi hTj hij
theorem tcs_nil (P : Nat → Nat) : tcs (fun _ => none) P = List.replicate 16 (.sc (.pointer none)) := by
  refine List.ext_getElem? fun j => ?_
  by_cases hj : j < 16
  · rw [tcs_none hj rfl rfl, List.getElem?_replicate, if_pos hj]
  · rw [List.getElem?_eq_none (by rw [tcs_length]; omega), List.getElem?_eq_none (by simp; omega)]
set_option maxHeartbeats 4000000 in
theorem new_spec (c : S31) (S : Hp) (hlen : c.f0.length ≤ maxLen) : ACalls Try.prog 10 [.agg c.cs] S (NewR S (c.f0.map toAs)) := by
  obtain ⟨n, bs⟩ := S
  refine enterA1 Try.func10 rfl 37 [.tmp 2, .tmp 3] rfl rfl ?_
  by_cases hbig : 16 < c.f0.length
  · have hE : newT (c.f0.map toAs) = .error 120 := by unfold newT; rw [if_pos (by simpa using hbig)]
    repeat' (first | (refine aops_nil ?_) | (show AOps _ _ _ _ _ _; first | (show AOps _ _ _ _ (⟨some _, .load _ _, _, _, _, none⟩ :: _) _; first | (refine o_y (y_load1 (v := .vsl _ _ _ _) rfl (by first | rfl | (repeat (first | assumption | exact find_at _ _ _ | refine find_sk (by omega) ?_))) (by rfl)) rfl ?_)) | (show AOps _ _ _ _ (⟨some _, .fieldAddr _ _ _, _, _, _, none⟩ :: _) _; first | (refine o_y (y_fld_ptr rfl rfl) rfl ?_)) | (show AOps _ _ _ _ (⟨some _, .assign _, _, _, _, none⟩ :: _) _; first | (refine o_y (v_assign (v := .sc _) rfl) rfl ?_)) | (show AOps _ _ _ _ (⟨some _, .binOp .add _ _ _ _, _, _, _, none⟩ :: _) _; first | (refine o_y (y_bin rfl rfl rfl) rfl ?_)) | (show AOps _ _ _ _ (⟨some _, .binOp _ _ _ _ _, _, _, _, none⟩ :: _) _; first | (refine o_y (y_bin rfl rfl rfl) rfl ?_)) | (show AOps _ _ _ _ (⟨some _, .call ⟨.builtin .len, _, _⟩, _, _, _, none⟩ :: _) _; first | (refine o_y (y_lenV rfl) rfl ?_)) | (show AOps _ _ _ _ (⟨_, .box _ _, _, _, _, none⟩ :: _) _; first | (refine o_x (b_agg rfl rfl rfl ?_)))) | (show IW _ _ [.code (.seq _ _)] _ _; first | (show AWP _ _ (.seq (.seq _ _) _) _ _; refine awp_seq ?_) | (show AWP _ _ (.seq (.region 0 _ _) _) _ _; refine awp_seq ?_) | (show AWP _ _ (.seq (.region 1 _ _) _) _ _; refine awp_seq ?_) | (show AWP _ _ (.seq (.region 2 _ _) _) _ _; refine awp_seq ?_)) | (show IW _ _ _ _ _; first | (refine awp_region ?_) | (refine awp_ret ?_) | (refine awp_skip ?_) | (refine awp_if rfl (fun h hp => ?_) (fun h hp => ?_))) | (show thenQ _ _ _ _; first | (refine k_n ?_) | (refine k_r ?_)))
    all_goals first
      | (exfalso; omega)
      | exact retA2 ⟨((Fr.refl _ _).push (k := n) (m := n + 1) (.inr (Nat.le_refl _)) (Nat.le_succ _)), by rw [hE]; rfl⟩
  · have hE : newT (c.f0.map toAs) = match newGo (c.f0.map toAs) 0 (fun _ => none) with | none => .error 53 | some T => .ok T := by unfold newT; rw [if_neg (by simpa using hbig)]
    repeat' (first | (refine aops_nil ?_) | (show AOps _ _ _ _ _ _; first | (show AOps _ _ _ _ (⟨some _, .build _ _, _, _, _, none⟩ :: _) _; first | (refine o_y (y_build (cs := List.replicate 16 (.sc (.pointer none))) rfl rfl) rfl ?_)) | (show AOps _ _ _ _ (⟨some _, .move _, _, _, _, none⟩ :: _) _; first | (refine o_y (v_move (v := .sc _) rfl) rfl ?_)) | (show AOps _ _ _ _ (⟨some _, .load _ _, _, _, _, none⟩ :: _) _; first | (refine o_y (y_load1 (v := .vsl _ _ _ _) rfl (by first | rfl | (repeat (first | assumption | exact find_at _ _ _ | refine find_sk (by omega) ?_))) (by rfl)) rfl ?_)) | (show AOps _ _ _ _ (⟨some _, .fieldAddr _ _ _, _, _, _, none⟩ :: _) _; first | (refine o_y (y_fld_ptr rfl rfl) rfl ?_)) | (show AOps _ _ _ _ (⟨some _, .assign _, _, _, _, none⟩ :: _) _; first | (refine o_y (v_assign (v := .sc _) rfl) rfl ?_) | (refine o_y (v_assign (v := .ptr _ _) rfl) rfl ?_)) | (show AOps _ _ _ _ (⟨some _, .binOp _ _ _ _ _, _, _, _, none⟩ :: _) _; first | (refine o_y (y_bin rfl rfl rfl) rfl ?_)) | (show AOps _ _ _ _ (⟨some _, .call ⟨.builtin .len, _, _⟩, _, _, _, none⟩ :: _) _; first | (refine o_y (y_lenV rfl) rfl ?_)) | (show AOps _ _ _ _ (⟨_, .box _ _, _, _, _, none⟩ :: _) _; first | (refine o_x (b_agg rfl rfl rfl ?_)))) | (show IW _ _ [.code (.seq _ _)] _ _; first | (show AWP _ _ (.seq (.region _ _ _) _) _ _; refine awp_seq ?_) | (show AWP _ _ (.seq (.seq _ _) _) _ _; refine awp_seq ?_)) | (show IW _ _ _ _ _; first | (refine awp_region ?_) | (refine awp_block ?_) | (refine awp_ret ?_) | (refine awp_skip ?_) | (refine awp_if rfl (fun h hp => ?_) (fun h hp => ?_))) | (show thenQ _ _ _ _; first | (refine k_r ?_)))
    all_goals try (exfalso; omega)
    have hl0 : Fr ⟨n, bs⟩ ⟨n + 1 + 1, (n + 1, some ⟨List.replicate 16 (.sc (.pointer none)), 16, 76⟩) :: (n, some ⟨c.cs, c.cs.length, 32⟩) :: bs⟩ (fun _ => False) := ((Fr.refl _ _).push (k := n) (m := n + 1) (.inr (Nat.le_refl _)) (Nat.le_succ _)).push (k := n + 1) (m := n + 1 + 1) (.inr (Nat.le_succ _)) (Nat.le_succ _)
    refine awp_loopA (fun x : Nat × Tb × (Nat → Nat) × Hp => x.1 ≤ c.f0.length ∧ newGo (c.f0.map toAs) 0 (fun _ => none) = newGo ((c.f0.map toAs).drop x.1) x.1 x.2.1 ∧ TH (n + 1) x.2.1 x.2.2.1 x.2.2.2 ∧ Fr ⟨n, bs⟩ x.2.2.2 (fun _ => False) ∧ ∀ j e, j < 16 → x.2.1 j = some e → n ≤ x.2.2.1 j) (fun x => c.f0.length - x.1)
      (fun x => [(2, .sc (.pointer none)), (3, .sc (.int .i64 0)), (4, .ptr (n + 1) 0), (14, .vsl (c.f0.flatMap fun x => x.cs) 12 0 c.f0.length), (15, .sc (.int .i64 c.f0.length)), (16, .sc (.int .i64 x.1))]) (fun x => x.2.2.2)
      (0, (fun _ => none), (fun _ => 0), ⟨n + 1 + 1, (n + 1, some ⟨List.replicate 16 (.sc (.pointer none)), 16, 76⟩) :: (n, some ⟨c.cs, c.cs.length, 32⟩) :: bs⟩) rfl ⟨Nat.zero_le _, rfl, ⟨by rw [tcs_nil]; exact find_at _ _ _, by show n + 1 < n + 1 + 1; omega, fun j e _ h => (by cases h), fun i j e e' _ _ h => (by cases h)⟩, hl0, fun j e _ h => (by cases h)⟩ ⟨rfl, rfl, rfl, rfl, rfl, rfl, trivial⟩ (hpEq_refl _) ?_
    rintro ⟨i, T, P, ⟨m, bs1⟩⟩ ⟨h1, h2, h3, h4, h5⟩ ih
    dsimp only at h1 h2 h3 h4 h5 ih ⊢
    by_cases hi : i < c.f0.length
    · obtain ⟨x, hx⟩ : ∃ x, c.f0[i]? = some x := ⟨_, List.getElem?_eq_getElem hi⟩
      have vx : ((c.f0.flatMap fun x => x.cs).drop ((0 + Int.toNat i) * 12)).take 12 = x.cs := by rw [Nat.zero_add]; exact flat_at (esz := 12) (fun _ => rfl) hx
      repeat' (first | (refine aops_nil ?_) | (show AOps _ _ _ _ _ _; first | (show AOps _ _ _ _ (⟨some _, .move _, _, _, _, none⟩ :: _) _; first | (refine o_y (v_move (v := .sc _) rfl) rfl ?_) | (refine o_y (v_move (v := .ptr _ _) rfl) rfl ?_)) | (show AOps _ _ _ _ (⟨some _, .load _ _, _, _, _, none⟩ :: _) _; first | (refine o_y (y_vloadE rfl (by assumption) (by rfl) rfl) rfl ?_)) | (show AOps _ _ _ _ (⟨some _, .assign _, _, _, _, none⟩ :: _) _; first | (refine o_y (v_assign (v := .sc _) rfl) rfl ?_) | (refine o_y (v_assign (v := .ptr _ _) rfl) rfl ?_)) | (show AOps _ _ _ _ (⟨some _, .binOp _ _ _ _ _, _, _, _, none⟩ :: _) _; first | (refine o_y (y_bin rfl rfl rfl) rfl ?_)) | (show AOps _ _ _ _ (⟨some _, .indexAddr _ _ _, _, _, _, none⟩ :: _) _; first | (refine o_y (y_ix_vsl rfl rfl rfl (by omega) (by omega)) rfl ?_)) | (show AOps _ _ _ _ (⟨_, .store _ _ _, _, _, _, none⟩ :: _) _; first | (refine o_x (s_storeW rfl rfl (by first | rfl | (repeat (first | assumption | exact find_at _ _ _ | refine find_sk (by omega) ?_))) (by rfl) (by rfl) (by first | rfl | assumption) ?_))) | (show AOps _ _ _ _ (⟨_, .alloc _, _, _, _, none⟩ :: _) _; first | (refine o_x (a_new (by first | (simp only [AV.ofV, AV.cells, List.map_cons, List.map_nil]; rfl) | rfl) rfl rfl rfl ?_)))) | (show IW _ _ [.code (.seq _ _)] _ _; first | (show AWP _ _ (.seq (.cond _ _ _) _) _ _; refine awp_seq ?_) | (show AWP _ _ (.seq (.block _ _) _) _ _; refine awp_seq ?_) | (show AWP _ _ (.seq (.seq _ _) _) _ _; refine awp_seq ?_) | (show AWP _ _ (.seq (.region 5 _ _) _) _ _; refine awp_seq ?_) | (show AWP _ _ (.seq (.region 6 _ _) _) _ _; refine awp_seq ?_) | (show AWP _ _ (.seq (.region 11 _ _) _) _ _; refine awp_seq ?_)) | (show IW _ _ _ _ _; first | (refine awp_region ?_) | (refine awp_block ?_) | (refine awp_exit ?_) | (refine awp_ret ?_) | (refine awp_skip ?_) | (refine awp_if rfl (fun h hp => ?_) (fun h hp => ?_))))
      all_goals try (exfalso; omega)
      refine iw_frzP 6 m rfl (find_at _ _ _) rfl ?_
      have hmn : n + 1 < m := h3.lt
      have hf1 : Fr ⟨m, bs1⟩ ⟨m + 1, (m, none) :: (m, some ⟨x.cs, 12, 40⟩) :: (m, some ⟨zAs.cs, 12, 40⟩) :: bs1⟩ (fun _ => False) := (((Fr.refl _ _).push (k := m) (m := m + 1) (.inr (Nat.le_refl _)) (Nat.le_succ _)).push (k := m) (m := m + 1) (.inr (Nat.le_refl _)) (Nat.le_refl _)).push (k := m) (m := m + 1) (.inr (Nat.le_refl _)) (Nat.le_refl _)
      have k1 : TH (n + 1) T P ⟨m + 1, (m, none) :: (m, some ⟨x.cs, 12, 40⟩) :: (m, some ⟨zAs.cs, 12, 40⟩) :: bs1⟩ := h3.keep hf1 (by simp) (fun _ _ _ _ => by simp)
      show IW _ _ _ _ ⟨_, _, ⟨m + 1, (m, none) :: (m, some ⟨x.cs, 12, 40⟩) :: (m, some ⟨zAs.cs, 12, 40⟩) :: bs1⟩⟩
      generalize (m, none) :: (m, some (Blk.mk x.cs 12 40)) :: (m, some (Blk.mk zAs.cs 12 40)) :: bs1 = bs2 at k1 hf1
      have st : ACalls Try.prog 22 [.ptr (n + 1) 0, .agg x.cs] ⟨m + 1, bs2⟩ (fun r S' => r = .sc (.bool (taken T (toAs x))) ∧ S' = ⟨m + 1, bs2⟩) := acalls_frz (taken_spec T (toAs x)) rfl ⟨frzT k1, frzS_of ⟨rfl, rfl⟩, trivial⟩
      have hd : (c.f0.map toAs).drop i = toAs x :: (c.f0.map toAs).drop (i + 1) := by
        rw [List.drop_eq_getElem_cons (by simpa using hi)]
        congr 1
        rw [List.getElem_map]
        exact congrArg toAs (by rw [List.getElem?_eq_getElem hi] at hx; exact Option.some.inj hx)
      rw [hd, newGo] at h2
      by_cases htk : taken T (toAs x) = true
      · rw [if_pos htk] at h2
        rw [htk] at st
        repeat' (first | (refine aops_nil ?_) | (show AOps _ _ _ _ _ _; first | (show AOps _ _ _ _ (⟨some _, .move _, _, _, _, none⟩ :: _) _; first | (refine o_y (v_move (v := .ptr _ _) rfl) rfl ?_)) | (show AOps _ _ _ _ (⟨some _, .load _ _, _, _, _, none⟩ :: _) _; first | (refine o_y (y_vloadW rfl rfl) rfl ?_)) | (show AOps _ _ _ _ (⟨some _, .assign _, _, _, _, none⟩ :: _) _; first | (refine o_y (v_assign (v := .sc _) rfl) rfl ?_)) | (show AOps _ _ _ _ (⟨_, .call ⟨.value (.func 22), _, _⟩, _, _, _, none⟩ :: _) _; refine o_x (x_callA rfl (st) ?_); rintro _ _ ⟨rfl, rfl⟩)) | (show IW _ _ _ _ _; first | (refine awp_seq ?_) | (refine awp_region ?_) | (refine awp_ret ?_) | (refine awp_if_t rfl (by first | rfl | assumption | exact beq_self_eq_true _ | exact decide_eq_true rfl) ?_)) | (show thenQ _ _ _ _; first | (refine k_r ?_)) | (show blockQ _ _ _ _; first | (refine b_r ?_)))
        all_goals first
          | (exfalso; omega)
          | exact retA2 ⟨(h4.trans hf1), by rw [hE, h2]; rfl⟩
      · rw [if_neg htk] at h2
        rw [Bool.eq_false_iff.2 htk] at st
        repeat' (first | (refine aops_nil ?_) | (show AOps _ _ _ _ _ _; first | (show AOps _ _ _ _ (⟨some _, .move _, _, _, _, none⟩ :: _) _; first | (refine o_y (v_move (v := .ptr _ _) rfl) rfl ?_)) | (show AOps _ _ _ _ (⟨some _, .load _ _, _, _, _, none⟩ :: _) _; first | (refine o_y (y_vloadW rfl rfl) rfl ?_)) | (show AOps _ _ _ _ (⟨_, .call ⟨.value (.func 22), _, _⟩, _, _, _, none⟩ :: _) _; refine o_x (x_callA rfl (st) ?_); rintro _ _ ⟨rfl, rfl⟩)) | (show IW _ _ [.code (.seq _ _)] _ _; first | (show AWP _ _ (.seq (.region 7 _ _) _) _ _; refine awp_seq ?_)) | (show IW _ _ _ _ _; first | (refine awp_region ?_) | (refine awp_skip ?_) | (refine awp_if_f rfl (by first | rfl | assumption) ?_)) | (show thenQ _ _ _ _; first | (refine k_n ?_)))
        all_goals try (exfalso; omega)
        have hls : 0 + 0 + Int.toNat i * 1 < (tcs T P).length := by rw [tcs_length]; omega
        have hput := tcs_put (T := T) (P := P) (i := i) (k := 0 + 0 + Int.toNat i * 1) ⟨i + 1, toAs x, 0, 0, 0⟩ (m + 1) (by omega) (by omega)
        refine awp_any ?_
        show AAny _ _ _ _ 12 _ ⟨(23, .sc (.bool false)) :: _, [], ⟨m + 1, bs2⟩⟩
        refine aany_take 0 rfl (p_move (v := .ptr (n + 1) 0) rfl) rfl (by decide +kernel) (fun _ _ h => h) ?_
        refine aany_take 1 rfl (p_move (v := .sc (.int .i64 i)) rfl) rfl (by decide +kernel) (fun _ _ h => h) ?_
        refine aany_take 2 rfl (p_move (v := .sc (.int .i64 i)) rfl) rfl (by decide +kernel) (fun _ _ h => h) ?_
        refine aany_take 3 rfl (p_add rfl rfl (by omega) (by omega)) rfl (by decide +kernel) (fun _ _ h => h) ?_
        refine aany_take 8 rfl (p_nil rfl) rfl (by decide +kernel) (fun _ _ h => h) ?_
        refine aany_take 9 rfl (p_fld rfl rfl) rfl (by decide +kernel) (fun _ _ h => h) ?_
        refine aany_all [4] (by decide +kernel) rfl (aall_cons rfl (o_y (y_vloadW (cs := x.cs) rfl rfl) rfl (aops_nil ?_)) trivial)
        show AAny _ _ _ _ _ _ _
        refine aany_all [5] (by decide +kernel) rfl (aall_cons rfl (o_y (y_build (cs := (Ro.mk (i + 1) (toAs x) 0 0 0).en) rfl rfl) rfl (aops_nil ?_)) trivial)
        show AAny _ _ _ _ _ _ _
        refine aany_all [6] (by decide +kernel) rfl (aall_cons rfl (o_y (y_build (cs := (Ro.mk (i + 1) (toAs x) 0 0 0).cs) rfl rfl) rfl (aops_nil ?_)) trivial)
        show AAny _ _ _ _ _ _ _
        refine aany_all [7] (by decide +kernel) rfl (aall_cons rfl (o_x (x_box (v := .agg (Ro.mk (i + 1) (toAs x) 0 0 0).cs) rfl rfl rfl (aops_nil ?_))) trivial)
        show AAny _ _ _ _ _ _ ⟨(31, .ptr (m + 1) 0) :: _, [], ⟨m + 1 + 1, (m + 1, some ⟨(Ro.mk (i + 1) (toAs x) 0 0 0).cs, 16, 79⟩) :: bs2⟩⟩
        refine aany_all [10] (by decide +kernel) rfl (aall_cons rfl (o_y (y_ix_arr rfl rfl (by omega) (by omega)) rfl (aops_nil ?_)) trivial)
        show AAny _ _ _ _ _ _ ⟨(34, .ptr (n + 1) (0 + 0 + Int.toNat i * 1)) :: _, [], ⟨m + 1 + 1, (m + 1, some ⟨(Ro.mk (i + 1) (toAs x) 0 0 0).cs, 16, 79⟩) :: bs2⟩⟩
        refine aany_all [11] (by decide +kernel) rfl (aall_cons rfl (o_x (s_storeP (v := .ptr (m + 1) 0) rfl rfl (show find (n + 1) ((m + 1, _) :: bs2) = _ from (find_sk (by omega) k1.tb)) rfl hls hput (aops_nil ?_))) trivial)
        show AAny _ _ _ _ _ _ _
        refine aany_done (by decide +kernel) ?_
        have g3 : ∀ k, k < m + 1 → k ≠ n + 1 → find k ((n + 1, some (Blk.mk (tcs (upd1 T i (some ⟨i + 1, toAs x, 0, 0, 0⟩)) (upd1 P i (m + 1))) 16 76)) :: (m + 1, some (Blk.mk (Ro.mk (i + 1) (toAs x) 0 0 0).cs 16 79)) :: bs2) = find k bs2 := fun k e1 e2 => by
          rw [find_sk (Ne.symm e2) rfl, find_sk (by omega) rfl]
        have k2 := k1.put (i := i) (m := m + 1) (n' := m + 1 + 1) (bs' := (n + 1, some (Blk.mk (tcs (upd1 T i (some ⟨i + 1, toAs x, 0, 0, 0⟩)) (upd1 P i (m + 1))) 16 76)) :: (m + 1, some (Blk.mk (Ro.mk (i + 1) (toAs x) 0 0 0).cs 16 79)) :: bs2) (e := ⟨i + 1, toAs x, 0, 0, 0⟩) (Nat.le_refl _) (by omega) (find_at _ _ _) (find_sk (by omega) (find_at _ _ _)) g3
        have hf2 : Fr ⟨n, bs⟩ ⟨m + 1 + 1, (n + 1, some (Blk.mk (tcs (upd1 T i (some ⟨i + 1, toAs x, 0, 0, 0⟩)) (upd1 P i (m + 1))) 16 76)) :: (m + 1, some (Blk.mk (Ro.mk (i + 1) (toAs x) 0 0 0).cs 16 79)) :: bs2⟩ (fun _ => False) := ((h4.trans hf1).push (k := m + 1) (m := m + 1 + 1) (.inr (by show n ≤ m + 1; omega)) (Nat.le_succ _)).push (k := n + 1) (m := m + 1 + 1) (.inr (Nat.le_succ _)) (Nat.le_refl _)
        generalize (n + 1, some (Blk.mk (tcs (upd1 T i (some ⟨i + 1, toAs x, 0, 0, 0⟩)) (upd1 P i (m + 1))) 16 76)) :: (m + 1, some (Blk.mk (Ro.mk (i + 1) (toAs x) 0 0 0).cs 16 79)) :: bs2 = bs3 at k2 hf2
        repeat' (first | (refine aops_nil ?_) | (show AOps _ _ _ _ _ _; first | (show AOps _ _ _ _ (⟨some _, .move _, _, _, _, none⟩ :: _) _; first | (refine o_y (v_move (v := .sc _) rfl) rfl ?_)) | (show AOps _ _ _ _ (⟨some _, .binOp .add _ _ _ _, _, _, _, none⟩ :: _) _; first | (refine o_y (z_add rfl rfl (by omega) (by omega)) rfl ?_))) | (show IW _ _ _ _ _; first | (refine awp_region ?_)) | (show thenQ _ _ _ _; first | (refine k_n ?_)))
        all_goals first
          | (exfalso; omega)
          | exact iw_atA (ih (i + 1, upd1 T i (some ⟨i + 1, toAs x, 0, 0, 0⟩), upd1 P i (m + 1), ⟨m + 1 + 1, bs3⟩) ⟨hi, h2, k2, hf2, fun j e hj hT => by
              by_cases ej : j = i
              · simp only [upd1, if_pos ej]; omega
              · simp only [upd1, if_neg ej] at hT ⊢; exact h5 j e hj hT⟩ (by dsimp only; omega)) rfl ⟨rfl, rfl, rfl, rfl, rfl, rfl, trivial⟩ (hpEq_refl _)
    · have h2' : newGo (c.f0.map toAs) 0 (fun _ => none) = some T := by
        rw [h2, List.drop_eq_nil_of_le (by simp; omega)]
        rfl
      repeat' (first | (refine aops_nil ?_) | (show AOps _ _ _ _ _ _; first | (show AOps _ _ _ _ (⟨some _, .move _, _, _, _, none⟩ :: _) _; first | (refine o_y (v_move (v := .ptr _ _) rfl) rfl ?_)) | (show AOps _ _ _ _ (⟨some _, .assign _, _, _, _, none⟩ :: _) _; first | (refine o_y (v_assign (v := .sc _) rfl) rfl ?_) | (refine o_y (v_assign (v := .ptr _ _) rfl) rfl ?_)) | (show AOps _ _ _ _ (⟨some _, .binOp _ _ _ _ _, _, _, _, none⟩ :: _) _; first | (refine o_y (y_bin rfl rfl rfl) rfl ?_))) | (show IW _ _ [.code (.seq _ _)] _ _; first | (show AWP _ _ (.seq (.cond _ _ _) _) _ _; refine awp_seq ?_) | (show AWP _ _ (.seq (.block _ _) _) _ _; refine awp_seq ?_) | (show AWP _ _ (.seq (.region 5 _ _) _) _ _; refine awp_seq ?_) | (show AWP _ _ (.seq (.region 11 _ _) _) _ _; refine awp_seq ?_)) | (show IW _ _ _ _ _; first | (refine awp_region ?_) | (refine awp_block ?_) | (refine awp_exit ?_) | (refine awp_ret ?_) | (refine awp_skip ?_) | (refine awp_if rfl (fun h hp => ?_) (fun h hp => ?_))))
      all_goals first
        | (exfalso; omega)
        | exact retA2 ⟨h4, by rw [hE, h2']; exact ⟨n + 1, P, rfl, Nat.le_succ _, h3, h5⟩⟩
end Go.Proofs.Ytcidoghpacihpaa.Sx
namespace Go.Proofs.Ytcidoghpacihpaa.Sx
open Go Go.RowKit
/-- Arguments that are views from now on. -/
def Thaw (S S1 : Hp) (ys vals : List AV) : Prop := ys.length = vals.length ∧ S1.nxt = S.nxt ∧ ∀ (ρ : Nat → Option Geo) (Z : Nat → Option Obj) (F : Ctx) (w : World) (us : List Value), HpRel ρ Z F S w → RelP ρ Z ys us → ∃ Z', Le Z Z' ∧ HpRel ρ Z' F S1 w ∧ RelP ρ Z' vals us
theorem acalls_thaw {P : Program} {f : FuncId} {S S1 : Hp} {args vals : List AV} {Q : AV → Hp → Prop} (h : Thaw S S1 args vals) (spec : ACalls P f vals S1 Q) : ACalls P f args S Q := fun ρ Z F w cargs hp hk hl hr => by
  obtain ⟨h1, h2, h3⟩ := h
  obtain ⟨Z', hle, hp', hr'⟩ := h3 ρ Z F w _ hp hr
  exact (spec ρ Z' F w cargs hp' (by rw [h2]; exact hk) (by rw [← h1]; exact hl) hr').mono fun _ _ ⟨u, ρ', Z'', r, S', g1, g2, g3, g4, g5⟩ => ⟨u, ρ', Z'', r, S', g1, ⟨hle.trans g2.Z_le, g2.os, g2.tape, g2.output, g2.size⟩, g3, g4, g5⟩
theorem thaw_conf {n m k ez et : Nat} {bs : List (Nat × Option Blk)} {cs rest rest' : List AV} (hb : find n bs = some ⟨cs, ez, et⟩) (hf : cs.all AV.flat = true) (hl : 0 * ez + k * ez ≤ cs.length) (hlen : rest.length = rest'.length) (hrest : ∀ ρ Z us, RelP ρ Z rest us → RelP ρ Z rest' us) : Thaw ⟨m, bs⟩ ⟨m, (n, none) :: bs⟩ [.agg (.sl n 0 k :: rest)] [.agg (.vsl cs ez 0 k :: rest')] := by
  refine ⟨rfl, rfl, fun ρ Z F w us hp hr => ?_⟩
  cases us with
  | nil => exact hr.elim
  | cons u us =>
    obtain ⟨⟨vs, rfl, hs, hv⟩, _⟩ := hr
    obtain ⟨vl⟩ := vs
    cases vl with
    | nil => exact hv.elim
    | cons v vr =>
      obtain ⟨⟨g, A, hg, ev, hcap, hA⟩, hr'⟩ := hv
      obtain ⟨Z', hle, hrel, hhp⟩ : ∃ Z', Le Z Z' ∧ Rel ρ Z' (.vsl cs ez 0 k) v ∧ HpRel ρ Z' F (Hp.kill ⟨m, bs⟩ n) w := by
        rcases Nat.eq_zero_or_pos g.cap with h0 | h0
        · exact ⟨Z, .refl _, ⟨A, _, ev, by omega, hl, fun h => by omega⟩, hp.kill n⟩
        · obtain ⟨cur, Z', h1, h2, h3, h4, h5, h6⟩ := hp.frz (S := ⟨m, bs⟩) (b := ⟨cs, ez, et⟩) hb hg h0 hf
          refine ⟨Z', h4, ⟨A, _, ev, by omega, hl, fun h => ⟨g.blk, 0, cur, et, (0, 0), ?_, h2, by simpa using h5⟩⟩, h6⟩
          rw [hA (by omega), h3]; simp
      refine ⟨Z', hle, hhp, ⟨_, rfl, by simpa [hlen] using hs, hrel, hrest _ _ _ (RelP.mono (.refl _) hle _ _ hr')⟩, ?_⟩
      trivial
theorem enterA0 {P : Program} {fn : Func} {c : Code} {f : FuncId} {S : Hp} {R : AV → Hp → Prop} (hf : P.funcs[f]? = some fn) (hb : fn.body = some c) (n : Nat) (rs : List ResultVar) (hn : 0 + (fn.ntmps - 0) = n) (hr : fn.results.toList = rs) (h : AWP P ⟨n, S.nxt⟩ c (retA P rs R) ⟨[], [], S⟩) : ACalls P f [] S R := by subst hr; exact acallsA_of hf hb n hn h
attribute [local irreducible] IW AOps AQuiet GQ GY AExec QY Yld ACalls ACallsD
attribute [local irreducible] tvs tcs
def zRest : List AV := [.sc (.slice none 0 0), .sc (.slice none 0 0), .sc (.int .i64 0), .sc (.slice none 0 0), .sc (.string ⟨#[]⟩), .sc (.slice none 0 0), .sc (.int .i64 0), .sc (.bool false), .sc (.bool false), .sc (.int .i64 0), .sc (.int .i64 0), .sc (.int .i64 0), .sc (.int .i64 0), .sc (.int .i64 0)]
def zConf (l : List S39) : S31 := ⟨l, [], [], 0, [], ⟨#[]⟩, [], 0, false, false, 0, 0, 0, 0, 0⟩
def vRest : List AV := [.vsl [] 3 0 0, .vsl [] 1 0 0, .sc (.int .i64 0), .vsl [] 3 0 0, .sc (.string ⟨#[]⟩), .vsl [] 1 0 0, .sc (.int .i64 0), .sc (.bool false), .sc (.bool false), .sc (.int .i64 0), .sc (.int .i64 0), .sc (.int .i64 0), .sc (.int .i64 0), .sc (.int .i64 0)]
theorem zRest_rel (ρ : Nat → Option Geo) (Z : Nat → Option Obj) (us : List Value) (h : RelP ρ Z zRest us) : RelP ρ Z vRest us := by
  unfold zRest at h
  rcases us with _ | ⟨u0, us⟩; · exact h.elim
  rcases us with _ | ⟨u1, us⟩; · exact h.2.elim
  rcases us with _ | ⟨u2, us⟩; · exact h.2.2.elim
  rcases us with _ | ⟨u3, us⟩; · exact h.2.2.2.elim
  rcases us with _ | ⟨u4, us⟩; · exact h.2.2.2.2.elim
  rcases us with _ | ⟨u5, us⟩; · exact h.2.2.2.2.2.elim
  exact ⟨nil_view h.1, nil_view h.2.1, h.2.2.1, nil_view h.2.2.2.1, h.2.2.2.2.1, nil_view h.2.2.2.2.2.1, h.2.2.2.2.2.2⟩
def s1 : S39 := ⟨1, 5, 0, 0, 0, false, false, false, 0, false, 0, 0⟩
def s6 : S39 := ⟨6, 5, 0, 0, 0, false, false, false, 0, false, 0, 0⟩
theorem zConf_cs : (zConf [s1, s6]).cs = .vsl (s1.cs ++ s6.cs) 12 0 2 :: vRest := rfl
def s7 : S39 := ⟨7, 7, 0, 0, 0, false, false, false, 0, false, 0, 0⟩
def T0 : Tb := upd1 (upd1 (fun _ => none) 0 (some ⟨1, toAs s1, 0, 0, 0⟩)) 1 (some ⟨2, toAs s6, 0, 0, 0⟩)
theorem newT0 : newT [toAs s1, toAs s6] = .ok T0 := rfl
def T1 : Tb := upd1 T0 2 (some ⟨3, toAs s7, 0, 4196, 0⟩)
theorem T1_add : addT T0 (toAs s7) 0 100 = T1 ∧ addI T0 (toAs s7) 0 = 3 ∧ addE T0 (toAs s7) 0 = 0 := ⟨rfl, rfl, rfl⟩
theorem T1_ok : ok T1 := fun j e hj h => by
  rcases j with _ | _ | _ | j
  · cases h; rfl
  · cases h; rfl
  · cases h; rfl
  · cases h
theorem T1_get : gE T1 3 = .tup [.agg (Ro.mk 3 (toAs s7) 0 4196 0).en, .sc (.bool true)] := rfl
def zPk : S45 := ⟨0, 0, 4, 0, 0, 0, 0, 0, 0, 0, 0, 0, 0, [], 0, false, []⟩
def pz : List AV := [.sc (.int .i64 0), .sc (.int .i64 0), .sc (.int .i64 4), .sc (.int .i64 0), .sc (.int .i64 0), .sc (.int .i64 0), .sc (.int .i64 0), .sc (.int .i64 0), .sc (.int .u32 0), .sc (.int .u64 0), .sc (.int .u64 0), .sc (.int .u64 0), .sc (.int .u64 0), .sc (.slice none 0 0), .sc (.int .i64 0), .sc (.bool false), .sc (.slice none 0 0)]
theorem pz_frz (S : Hp) : FrzS S (.agg pz) (.agg zPk.cs) := fun ρ Z F w u hp hr => by
  obtain ⟨vs, e, hs, hv⟩ := hr
  refine ⟨vs, e, hs, ?_⟩
  have hv : RelP (fun _ => none) (fun b => w.heap[b]?) pz vs.toList := flat_relP (fun b o hb => hp.fixZ b o hb) rfl hv
  generalize vs.toList = us at hv
  unfold pz at hv
  rcases us with _ | ⟨u0, us⟩; · exact hv.elim
  rcases us with _ | ⟨u1, us⟩; · exact hv.2.elim
  rcases us with _ | ⟨u2, us⟩; · exact hv.2.2.elim
  rcases us with _ | ⟨u3, us⟩; · exact hv.2.2.2.elim
  rcases us with _ | ⟨u4, us⟩; · exact hv.2.2.2.2.elim
  rcases us with _ | ⟨u5, us⟩; · exact hv.2.2.2.2.2.elim
  rcases us with _ | ⟨u6, us⟩; · exact hv.2.2.2.2.2.2.elim
  rcases us with _ | ⟨u7, us⟩; · exact hv.2.2.2.2.2.2.2.elim
  rcases us with _ | ⟨u8, us⟩; · exact hv.2.2.2.2.2.2.2.2.elim
  rcases us with _ | ⟨u9, us⟩; · exact hv.2.2.2.2.2.2.2.2.2.elim
  rcases us with _ | ⟨u10, us⟩; · exact hv.2.2.2.2.2.2.2.2.2.2.elim
  rcases us with _ | ⟨u11, us⟩; · exact hv.2.2.2.2.2.2.2.2.2.2.2.elim
  rcases us with _ | ⟨u12, us⟩; · exact hv.2.2.2.2.2.2.2.2.2.2.2.2.elim
  rcases us with _ | ⟨u13, us⟩; · exact hv.2.2.2.2.2.2.2.2.2.2.2.2.2.elim
  rcases us with _ | ⟨u14, us⟩; · exact hv.2.2.2.2.2.2.2.2.2.2.2.2.2.2.elim
  rcases us with _ | ⟨u15, us⟩; · exact hv.2.2.2.2.2.2.2.2.2.2.2.2.2.2.2.elim
  rcases us with _ | ⟨u16, us⟩; · exact hv.2.2.2.2.2.2.2.2.2.2.2.2.2.2.2.2.elim
  obtain ⟨h0, h1, h2, h3, h4, h5, h6, h7, h8, h9, h10, h11, h12, h13, h14, h15, h16, h17⟩ := hv
  exact ⟨h0, h1, h2, h3, h4, h5, h6, h7, h8, h9, h10, h11, h12, nil_view h13, h14, h15, nil_view h16, h17⟩
theorem zc_frz (S : Hp) : FrzS S (.agg (.sc (.slice none 0 0) :: zRest)) (.agg (zConf []).cs) := fun ρ Z F w u hp hr => by
  obtain ⟨vs, e, hs, hv⟩ := hr
  refine ⟨vs, e, hs, ?_⟩
  have hv : RelP (fun _ => none) (fun b => w.heap[b]?) (.sc (.slice none 0 0) :: zRest) vs.toList := flat_relP (fun b o hb => hp.fixZ b o hb) rfl hv
  generalize vs.toList = us at hv
  rcases us with _ | ⟨u0, us⟩; · exact hv.elim
  exact ⟨nil_view hv.1, zRest_rel _ _ _ hv.2⟩
theorem noPar_rch {T : Tb} {g : Ro → Bool} (h : ∀ j e, j < 16 → T j = some e → e.par = 0) {j : Nat} (hr : Rch T g j) : ∃ e, T j = some e ∧ g e = true := by
  cases hr with
  | base h1 h2 h3 => exact ⟨_, h2, h3⟩
  | step h1 h2 h3 h4 h5 => rw [h _ _ h1 h2] at h3; omega
theorem TH.congr {t : Nat} {T T' : Tb} {P : Nat → Nat} {S : Hp} (h : TH t T P S) (he : ∀ j, j < 16 → T j = T' j) : TH t T' P S := by
  have e : tcs T' P = tcs T P := by
    refine List.ext_getElem? fun j => ?_
    by_cases hj : j < 16
    · rw [tcs_get hj, tcs_get hj, sA, sA, he j hj]
    · rw [List.getElem?_eq_none (by rw [tcs_length]; omega), List.getElem?_eq_none (by rw [tcs_length]; omega)]
  exact ⟨by rw [e]; exact h.tb, h.lt, fun j x hj hT => h.sl j x hj ((he j hj).trans hT), fun i j x y hi hj hx hy => h.inj i j x y hi hj ((he i hi).trans hx) ((he j hj).trans hy)⟩
theorem dids_none {T : Tb} {G : Nat → Bool} : ∀ n, (∀ j e, j < n → T j = some e → G j = false) → dids T G n = []
  | 0, _ => rfl
  | n + 1, h => by
    unfold dids
    rw [dids_none n fun j e hj => h j e (by omega)]
    cases hT : T n with
    | none => rfl
    | some e => simp [h n e (by omega) hT]
theorem T1_par : ∀ j e, j < 16 → T1 j = some e → e.par = 0 := fun j e hj h => by
  rcases j with _ | _ | _ | j
  · cases h; rfl
  · cases h; rfl
  · cases h; rfl
  · cases h
theorem T0_par : ∀ j e, j < 16 → T0 j = some e → e.par = 0 := fun j e hj h => by
  rcases j with _ | _ | j
  · cases h; rfl
  · cases h; rfl
  · cases h
theorem T1_exp {G : Nat → Bool} (h : ∀ j, j < 16 → (G j = true ↔ Rch T1 (gX 4195) j)) : ∀ j e, j < 16 → T1 j = some e → G j = false := fun j e hj hT => by
  cases hG : G j with
  | false => rfl
  | true =>
    obtain ⟨x, hx, hg⟩ := noPar_rch T1_par ((h j hj).1 hG)
    rcases j with _ | _ | _ | j
    · cases hx; cases hg
    · cases hx; cases hg
    · cases hx; cases hg
    · cases hx
theorem T0_drop {G : Nat → Bool} (h : ∀ j, j < 16 → (G j = true ↔ Rch T0 (gD 3) j)) : ∀ j e, j < 16 → T0 j = some e → G j = false := fun j e hj hT => by
  cases hG : G j with
  | false => rfl
  | true =>
    obtain ⟨x, hx, hg⟩ := noPar_rch T0_par ((h j hj).1 hG)
    rcases j with _ | _ | j
    · cases hx; cases hg
    · cases hx; cases hg
    · cases hx
theorem T1_drop {G : Nat → Bool} (h : ∀ j, j < 16 → (G j = true ↔ Rch T1 (gD 3) j)) : ∀ j, j < 16 → (T1 j).isSome = true → (G j = true ↔ j = 2) := fun j hj hs => by
  constructor
  · intro hG
    obtain ⟨x, hx, hg⟩ := noPar_rch T1_par ((h j hj).1 hG)
    rcases j with _ | _ | _ | j
    · cases hx; cases hg
    · cases hx; cases hg
    · rfl
    · cases hx
  · rintro rfl
    exact (h 2 (by decide)).2 (.base (by decide) (show T1 2 = some _ from rfl) rfl)
theorem del_same {T : Tb} {G : Nat → Bool} (h : ∀ j e, j < 16 → T j = some e → G j = false) : ∀ j, j < 16 → delT T G j = T j := fun j hj => by
  unfold delT
  cases hT : T j with
  | none => simp
  | some e => rw [h j e hj hT]; rfl
theorem T1_del {G : Nat → Bool} (h : ∀ j, j < 16 → (T1 j).isSome = true → (G j = true ↔ j = 2)) : (∀ j, j < 16 → delT T1 G j = T0 j) ∧ 0 < (dids T1 G 16).length := by
  have g2 : G 2 = true := (h 2 (by decide) rfl).2 rfl
  have g0 : G 0 = false := Bool.eq_false_iff.2 fun e => absurd ((h 0 (by decide) rfl).1 e) (by decide)
  have g1 : G 1 = false := Bool.eq_false_iff.2 fun e => absurd ((h 1 (by decide) rfl).1 e) (by decide)
  constructor
  · intro j hj
    unfold delT
    rcases j with _ | _ | _ | j
    · rw [g0]; rfl
    · rw [g1]; rfl
    · rw [g2]; rfl
    · show (if G (j + 3) = true then none else none) = none
      split <;> rfl
  · have k : ∀ n, 3 ≤ n → 0 < (dids T1 G n).length := fun n => by
      induction n with
      | zero => intro h; omega
      | succ n ih =>
        intro hn
        unfold dids
        rw [List.length_append]
        by_cases e : n = 2
        · subst e
          show 0 < _ + (if G 2 = true then [(3 : Int)] else []).length
          rw [g2]
          simp
        · have := ih (by omega); omega
    exact k 16 (by decide)
theorem T1_route : routeV T1 false false 4 5 1 0 false = (2, 1) := rfl
theorem Fr.new {S S' S'' : Hp} {x : Nat → Prop} (a : Fr S S' fun _ => False) (b : Fr S' S'' x) (h : ∀ i, x i → S.nxt ≤ i) : Fr S S'' fun _ => False := ⟨Nat.le_trans a.1 b.1, fun i hi _ => (b.2 i (Nat.lt_of_lt_of_le hi a.1) (fun e => by have := h i e; omega)).trans (a.2 i hi (by simp))⟩
theorem shown_spec (S : Hp) : ACalls Try.prog 7 [] S (fun r S' => r = .sc (.bool true) ∧ Fr S S' (fun _ => False)) := by
  obtain ⟨n, bs⟩ := S
  refine enterA0 Try.func7 rfl 82 [.tmp 0] rfl rfl ?_
  have hf0 : Fr ⟨n, bs⟩ ⟨n + 1, (n, none) :: (n, some ⟨s1.cs ++ s6.cs, 12, 40⟩) :: bs⟩ (fun _ => False) := ((Fr.refl _ _).push (k := n) (m := n + 1) (.inr (Nat.le_refl _)) (Nat.le_succ _)).push (k := n) (m := n + 1) (.inr (Nat.le_refl _)) (Nat.le_refl _)
  have sn : ACalls Try.prog 10 [.agg (.sl n 0 2 :: zRest)] ⟨n + 1, (n, some ⟨s1.cs ++ s6.cs, 12, 40⟩) :: bs⟩ (fun r S' => ∃ t P, r = .tup [.ptr t 0, .sc (.int .i64 0)] ∧ Fr ⟨n, bs⟩ S' (fun _ => False) ∧ n ≤ t ∧ TH t T0 P S' ∧ ∀ j e, j < 16 → T0 j = some e → n ≤ P j) := by
    have s0 := new_spec (zConf [s1, s6]) ⟨n + 1, (n, none) :: (n, some ⟨s1.cs ++ s6.cs, 12, 40⟩) :: bs⟩ (by decide)
    rw [zConf_cs] at s0
    refine (acalls_thaw (thaw_conf (cs := s1.cs ++ s6.cs) (rest := zRest) (rest' := vRest) (find_at _ _ _) rfl (by decide) rfl zRest_rel) s0).imp ?_
    rintro r S' ⟨h1, h2⟩
    rw [show (zConf [s1, s6]).f0.map toAs = [toAs s1, toAs s6] from rfl, newT0] at h2
    obtain ⟨t, P, h3, h4, h5, h6⟩ := h2
    have h4' : n + 1 ≤ t := h4
    exact ⟨t, P, h3, hf0.trans h1, by omega, h5, fun j e hj hT => by have : n + 1 ≤ P j := h6 j e hj hT; omega⟩
  repeat' (first | (refine aops_nil ?_) | (show AOps _ _ _ _ _ _; first | (show AOps _ _ _ _ (⟨some _, .build _ _, _, _, _, none⟩ :: _) _; first | (refine o_y (y_build (cs := s1.cs) rfl rfl) rfl ?_)) | (show AOps _ _ _ _ (⟨some _, .build _ _, _, _, _, none⟩ :: _) _; first | (refine o_y (y_build (cs := s6.cs) rfl rfl) rfl ?_)) | (show AOps _ _ _ _ (⟨some _, .build _ _, _, _, _, none⟩ :: _) _; first | (refine o_y (y_build (cs := .sl n 0 2 :: zRest) rfl rfl) rfl ?_)) | (show AOps _ _ _ _ (⟨some _, .move _, _, _, _, none⟩ :: _) _; first | (refine o_y (v_move (v := .sc _) rfl) rfl ?_) | (refine o_y (v_move (v := .ptr _ _) rfl) rfl ?_) | (refine o_y (v_move (v := .tup _) rfl) rfl ?_)) | (show AOps _ _ _ _ (⟨some _, .assign _, _, _, _, none⟩ :: _) _; first | (refine o_y (v_assign (v := .sc _) rfl) rfl ?_) | (refine o_y (v_assign (v := .ptr _ _) rfl) rfl ?_)) | (show AOps _ _ _ _ (⟨some _, .binOp _ _ _ _ _, _, _, _, none⟩ :: _) _; first | (refine o_y (y_bin rfl rfl rfl) rfl ?_) | (refine o_y (y_eqNil rfl rfl) rfl ?_)) | (show AOps _ _ _ _ (⟨some _, .pick _ _ _, _, _, _, none⟩ :: _) _; first | (refine o_y (v_pick_f (v := .sc _) rfl (by first | rfl | assumption) rfl) rfl ?_)) | (show AOps _ _ _ _ (⟨some _, .extract _ _, _, _, _, none⟩ :: _) _; first | (refine o_y (y_extract (v := .sc _) rfl rfl) rfl ?_) | (refine o_y (y_extract (v := .ptr _ _) rfl rfl) rfl ?_)) | (show AOps _ _ _ _ (⟨_, .call ⟨.value (.func 10), _, _⟩, _, _, _, none⟩ :: _) _; refine o_x (x_callA rfl (sn) ?_); rintro _ ⟨m1, b1⟩ ⟨t, P, rfl, hf1, ht1, hT1, hP1⟩) | (show AOps _ _ _ _ (⟨_, .buildSlice _ _ _, _, _, _, none⟩ :: _) _; first | (refine o_x (x_buildSlice (cs := s1.cs ++ s6.cs) (by rfl) (by rfl) (by rfl) (by rfl) (by rfl) (by rfl) rfl ?_))) | (show AOps _ _ _ _ (⟨_, _, _, _, _, some (_, _)⟩ :: _) _; first | (refine o_g_t rfl rfl rfl (by first | rfl | assumption | exact beq_self_eq_true _ | exact decide_eq_true rfl) ?_))) | (show IW _ _ [.code (.seq _ _)] _ _; first | (show AWP _ _ (.seq (.seq _ _) _) _ _; refine awp_seq ?_) | (show AWP _ _ (.seq (.region 0 _ _) _) _ _; refine awp_seq ?_) | (show AWP _ _ (.seq (.region 1 _ _) _) _ _; refine awp_seq ?_) | (show AWP _ _ (.seq (.region 2 _ _) _) _ _; refine awp_seq ?_)) | (show IW _ _ _ _ _; first | (refine awp_region ?_) | (refine awp_skip ?_) | (refine awp_if_f rfl (by first | rfl | assumption) ?_)) | (show thenQ _ _ _ _; first | (refine k_n ?_)))
  have sa : ACalls Try.prog 12 [.ptr t 0, .agg s7.cs, .sc (.int .i64 0), .sc (.int .i64 100)] ⟨m1, b1⟩ (fun r S' => ∃ P', r = .tup [.sc (.int .i64 3), .sc (.int .i64 0)] ∧ Fr ⟨m1, b1⟩ S' (fun i => i = t) ∧ TH t T1 P' S') := (add_spec hT1 (toAs s7) 0 100 (by decide)).imp fun r S' ⟨h1, h2, P', h3, h4⟩ => ⟨P', by rw [h1, T1_add.2.1, T1_add.2.2], h2, T1_add.1 ▸ h3⟩
  repeat' (first | (refine aops_nil ?_) | (show AOps _ _ _ _ _ _; first | (show AOps _ _ _ _ (⟨some _, .build _ _, _, _, _, none⟩ :: _) _; first | (refine o_y (y_build (cs := s7.cs) rfl rfl) rfl ?_)) | (show AOps _ _ _ _ (⟨some _, .move _, _, _, _, none⟩ :: _) _; first | (refine o_y (v_move (v := .ptr _ _) rfl) rfl ?_) | (refine o_y (v_move (v := .tup _) rfl) rfl ?_)) | (show AOps _ _ _ _ (⟨some _, .assign _, _, _, _, none⟩ :: _) _; first | (refine o_y (v_assign (v := .sc _) rfl) rfl ?_)) | (show AOps _ _ _ _ (⟨some _, .extract _ _, _, _, _, none⟩ :: _) _; first | (refine o_y (y_extract (v := .sc _) rfl rfl) rfl ?_)) | (show AOps _ _ _ _ (⟨_, .call ⟨.value (.func 12), _, _⟩, _, _, _, none⟩ :: _) _; refine o_x (x_callA rfl (sa) ?_); rintro _ ⟨m2, b2⟩ ⟨P2, rfl, hf2, hT2⟩)) | (show IW _ _ [.code (.seq _ _)] _ _; first | (show AWP _ _ (.seq (.region 4 _ _) _) _ _; refine awp_seq ?_)) | (show IW _ _ _ _ _; first | (refine awp_region ?_)) | (show thenQ _ _ _ _; first | (refine k_n ?_)))
  have sg : ACalls Try.prog 15 [.ptr t 0, .sc (.int .i64 3)] ⟨m2, b2⟩ (fun r S' => r = .tup [.agg (Ro.mk 3 (toAs s7) 0 4196 0).en, .sc (.bool true)] ∧ S' = ⟨m2, b2⟩) := by
    have h := getE_spec T1 3
    rw [T1_get] at h
    exact acalls_frz h rfl ⟨frzT hT2, frzS_of rfl, trivial⟩
  repeat' (first | (refine aops_nil ?_) | (show AOps _ _ _ _ _ _; first | (show AOps _ _ _ _ (⟨some _, .move _, _, _, _, none⟩ :: _) _; first | (refine o_y (v_move (v := .ptr _ _) rfl) rfl ?_) | (refine o_y (v_move (v := .tup _) rfl) rfl ?_)) | (show AOps _ _ _ _ (⟨some _, .assign _, _, _, _, none⟩ :: _) _; first | (refine o_y (v_assign (v := .sc _) rfl) rfl ?_)) | (show AOps _ _ _ _ (⟨some _, .extract _ _, _, _, _, none⟩ :: _) _; first | (refine o_y (y_extract (v := .sc _) rfl rfl) rfl ?_) | (refine o_y (y_extract (v := .agg _) rfl rfl) rfl ?_)) | (show AOps _ _ _ _ (⟨_, .call ⟨.value (.func 15), _, _⟩, _, _, _, none⟩ :: _) _; refine o_x (x_callA rfl (sg) ?_); rintro _ _ ⟨rfl, rfl⟩) | (show AOps _ _ _ _ (⟨_, .store _ _ _, _, _, _, none⟩ :: _) _; first | (refine o_x (s_storeW rfl rfl (by first | rfl | (repeat (first | assumption | exact find_at _ _ _ | refine find_sk (by omega) ?_))) (by rfl) (by rfl) (by first | rfl | assumption) ?_))) | (show AOps _ _ _ _ (⟨_, .alloc _, _, _, _, none⟩ :: _) _; first | (refine o_x (a_new (by first | (simp only [AV.ofV, AV.cells, List.map_cons, List.map_nil]; rfl) | rfl) rfl rfl rfl ?_)))) | (show IW _ _ [.code (.seq _ _)] _ _; first | (show AWP _ _ (.seq (.region 5 _ _) _) _ _; refine awp_seq ?_)) | (show IW _ _ _ _ _; first | (refine awp_region ?_)) | (show thenQ _ _ _ _; first | (refine k_n ?_)))
  refine iw_atA (e := [(1, .ptr t 0), (3, .sc (.int .i64 3)), (4, .sc (.int .i64 0)), (5, .ptr m2 0), (6, .sc (.bool true))]) (S := ⟨m2 + 1, (m2, some ⟨(Ro.mk 3 (toAs s7) 0 4196 0).en, 15, 56⟩) :: b2⟩) ?_ rfl ⟨rfl, rfl, rfl, rfl, rfl, trivial⟩ hpEq_dup
  have hlt2 : t < m2 := hT2.lt
  have hf3 : Fr ⟨m2, b2⟩ ⟨m2 + 1, (m2, some ⟨(Ro.mk 3 (toAs s7) 0 4196 0).en, 15, 56⟩) :: b2⟩ (fun _ => False) := (Fr.refl _ _).push (k := m2) (m := m2 + 1) (.inr (Nat.le_refl _)) (Nat.le_succ _)
  have hT3 := hT2.keep hf3 (by simp) (fun _ _ _ _ => by simp)
  have hb3 : find m2 ((m2, some (Blk.mk (Ro.mk 3 (toAs s7) 0 4196 0).en 15 56)) :: b2) = some ⟨(Ro.mk 3 (toAs s7) 0 4196 0).en, 15, 56⟩ := find_at _ _ _
  generalize (m2, some (Blk.mk (Ro.mk 3 (toAs s7) 0 4196 0).en 15 56)) :: b2 = b3 at hT3 hf3 hb3
  have sr : ACalls Try.prog 16 [.ptr t 0, .agg (.sc (.slice none 0 0) :: zRest), .agg pz, .sc (.int .u32 5), .sc (.int .u32 1), .sc (.int .i64 0), .sc (.bool false)] ⟨m2 + 1, b3⟩ (fun r S' => r = .tup [.sc (.int .i64 2), .sc (.int .i64 1)] ∧ S' = ⟨m2 + 1, b3⟩) := by
    have h := route_spec T1 T1_ok (zConf []) zPk 5 1 0 false
    rw [show routeV T1 (zConf []).f8 (zConf []).f9 zPk.f2 5 1 0 false = (2, 1) from T1_route] at h
    exact acalls_frz h rfl ⟨frzT hT3, zc_frz _, pz_frz _, frzS_of rfl, frzS_of rfl, frzS_of rfl, frzS_of rfl, trivial⟩
  repeat' (first | (refine aops_nil ?_) | (show AOps _ _ _ _ _ _; first | (show AOps _ _ _ _ (⟨some _, .build _ _, _, _, _, none⟩ :: _) _; first | (refine o_y (y_build (cs := .sc (.slice none 0 0) :: zRest) rfl rfl) rfl ?_)) | (show AOps _ _ _ _ (⟨some _, .build _ _, _, _, _, none⟩ :: _) _; first | (refine o_y (y_build (cs := pz) rfl rfl) rfl ?_)) | (show AOps _ _ _ _ (⟨some _, .move _, _, _, _, none⟩ :: _) _; first | (refine o_y (v_move (v := .ptr _ _) rfl) rfl ?_) | (refine o_y (v_move (v := .tup _) rfl) rfl ?_)) | (show AOps _ _ _ _ (⟨some _, .assign _, _, _, _, none⟩ :: _) _; first | (refine o_y (v_assign (v := .sc _) rfl) rfl ?_)) | (show AOps _ _ _ _ (⟨some _, .extract _ _, _, _, _, none⟩ :: _) _; first | (refine o_y (y_extract (v := .sc _) rfl rfl) rfl ?_)) | (show AOps _ _ _ _ (⟨_, .call ⟨.value (.func 16), _, _⟩, _, _, _, none⟩ :: _) _; refine o_x (x_callA rfl (sr) ?_); rintro _ _ ⟨rfl, rfl⟩)) | (show IW _ _ [.code (.seq _ _)] _ _; first | (show AWP _ _ (.seq (.region 6 _ _) _) _ _; refine awp_seq ?_)) | (show IW _ _ _ _ _; first | (refine awp_region ?_)) | (show thenQ _ _ _ _; first | (refine k_n ?_)))
  refine iw_atA (e := [(1, .ptr t 0), (3, .sc (.int .i64 3)), (4, .sc (.int .i64 0)), (5, .ptr m2 0), (6, .sc (.bool true)), (7, .sc (.int .i64 2)), (8, .sc (.int .i64 1))]) (S := ⟨m2 + 1, b3⟩) ?_ rfl ⟨rfl, rfl, rfl, rfl, rfl, rfl, rfl, trivial⟩ (hpEq_refl _)
  have se : ∀ m b, TH t T1 P2 ⟨m, b⟩ → ACalls Try.prog 13 [.ptr t 0, .sc (.int .i64 4195)] ⟨m, b⟩ (fun r S' => ∃ k, r = .sl k 0 0 ∧ Fr ⟨m, b⟩ S' (fun i => i = t) ∧ TH t T1 P2 S') := fun m b h => (expire_spec h T1_ok 4195).imp fun r S' ⟨G, g1, g2, g3, k, _, _, g6, _⟩ => ⟨k, by rw [g6, dids_none 16 (T1_exp g1)]; rfl, g2, g3.congr (del_same (T1_exp g1))⟩
  have sd1 : ∀ m b, TH t T1 P2 ⟨m, b⟩ → ACalls Try.prog 21 [.ptr t 0, .sc (.int .i64 3)] ⟨m, b⟩ (fun r S' => r = .sc (.bool true) ∧ Fr ⟨m, b⟩ S' (fun i => i = t) ∧ TH t T0 P2 S') := fun m b h => (dropB_spec h T1_ok 3).imp fun r S' ⟨G, g1, g2, g3, g4⟩ => ⟨by rw [g4, decide_eq_true (T1_del (T1_drop g1)).2], g2, g3.congr (T1_del (T1_drop g1)).1⟩
  have T0_ok : ok T0 := fun j e hj h => by
    rcases j with _ | _ | j
    · cases h; rfl
    · cases h; rfl
    · cases h
  have sd2 : ∀ m b, TH t T0 P2 ⟨m, b⟩ → ACalls Try.prog 21 [.ptr t 0, .sc (.int .i64 3)] ⟨m, b⟩ (fun r S' => r = .sc (.bool false) ∧ Fr ⟨m, b⟩ S' (fun i => i = t)) := fun m b h => (dropB_spec h T0_ok 3).imp fun r S' ⟨G, g1, g2, g3, g4⟩ => ⟨by rw [g4, dids_none 16 (T0_drop g1)]; rfl, g2⟩
  repeat' (first | (refine aops_nil ?_) | (show AOps _ _ _ _ _ _; first | (show AOps _ _ _ _ (⟨some _, .move _, _, _, _, none⟩ :: _) _; first | (refine o_y (v_move (v := .sc _) rfl) rfl ?_) | (refine o_y (v_move (v := .ptr _ _) rfl) rfl ?_)) | (show AOps _ _ _ _ (⟨some _, .load _ _, _, _, _, none⟩ :: _) _; first | (refine o_y (y_load1 (v := .sc _) rfl (by first | rfl | (repeat (first | assumption | exact find_at _ _ _ | refine find_sk (by omega) ?_))) (by rfl)) rfl ?_)) | (show AOps _ _ _ _ (⟨some _, .fieldAddr _ _ _, _, _, _, none⟩ :: _) _; first | (refine o_y (y_fld_ptr rfl rfl) rfl ?_)) | (show AOps _ _ _ _ (⟨some _, .assign _, _, _, _, none⟩ :: _) _; first | (refine o_y (v_assign (v := .sc _) rfl) rfl ?_)) | (show AOps _ _ _ _ (⟨some _, .binOp _ _ _ _ _, _, _, _, none⟩ :: _) _; first | (refine o_y (y_bin rfl rfl rfl) rfl ?_)) | (show AOps _ _ _ _ (⟨some _, .pick _ _ _, _, _, _, none⟩ :: _) _; first | (refine o_y (v_pick_t (v := .sc _) rfl (by first | rfl | assumption | exact beq_self_eq_true _ | exact decide_eq_true rfl) rfl) rfl ?_)) | (show AOps _ _ _ _ (⟨some _, .call ⟨.builtin .len, _, _⟩, _, _, _, none⟩ :: _) _; first | (refine o_y (y_lenL rfl) rfl ?_)) | (show AOps _ _ _ _ (⟨some _, .unOp _ _ _, _, _, _, none⟩ :: _) _; first | (refine o_y (y_not rfl) rfl ?_)) | (show AOps _ _ _ _ (⟨some _, .call ⟨.value (.func 8), _, _⟩, _, _, _, none⟩ :: _) _; first | (refine o_q (q_call (dispatch_spec 0 3)) rfl ?_)) | (show AOps _ _ _ _ (⟨_, .call ⟨.value (.func 13), _, _⟩, _, _, _, none⟩ :: _) _; refine o_x (x_callA rfl (se _ _ hT3) ?_); rintro _ ⟨m4, b4⟩ ⟨k, rfl, hf4, hT4⟩) | (show AOps _ _ _ _ (⟨_, .call ⟨.value (.func 21), _, _⟩, _, _, _, none⟩ :: _) _; refine o_x (x_callA rfl (sd1 _ _ hT4) ?_); rintro _ ⟨m5, b5⟩ ⟨rfl, hf5, hT5⟩) | (show AOps _ _ _ _ (⟨_, .call ⟨.value (.func 21), _, _⟩, _, _, _, none⟩ :: _) _; refine o_x (x_callA rfl (sd2 _ _ hT5) ?_); rintro _ ⟨m6, b6⟩ ⟨rfl, hf6⟩) | (show AOps _ _ _ _ (⟨_, _, _, _, _, some (_, _)⟩ :: _) _; first | (refine o_g_t rfl rfl rfl (by first | rfl | assumption | exact beq_self_eq_true _ | exact decide_eq_true rfl) ?_))) | (show IW _ _ _ _ _; first | (refine awp_seq ?_) | (refine awp_region ?_) | (refine awp_ret ?_)))
  have ht : ∀ i, i = t → (⟨n, bs⟩ : Hp).nxt ≤ i := fun i e => by rw [e]; exact ht1
  exact retA1 ⟨rfl, (((((hf1.new hf2 ht).trans hf3).new hf4 ht).new hf5 ht).new hf6 ht)⟩
end Go.Proofs.Ytcidoghpacihpaa.Sx
namespace Go.Proofs.Ytcidoghpacihpaa.Sx
open Go Go.RowKit
attribute [local irreducible] IW AOps AQuiet GQ GY AExec QY Yld ACalls ACallsD
set_option maxRecDepth 20000
theorem opn3 {n : Nat} {a : AV} (h : TypA Try.prog n 3 a) : ∃ x : Int, a = .sc (.int .i64 x) ∧ (-9223372036854775808 ≤ x ∧ x ≤ 9223372036854775807) := by
  obtain ⟨x, e, o⟩ := typ_rng Try.underlying3 (typA_of Try.underlying3 trivial h)
  exact ⟨x, (List.cons.inj e).1, o⟩
theorem opn4 {n : Nat} {a : AV} (h : TypA Try.prog n 4 a) : ∃ x : Bool, a = .sc (.bool x) ∧ True := by
  obtain ⟨x, e, o⟩ := typ_bool1 Try.underlying4 (typA_of Try.underlying4 trivial h)
  exact ⟨x, (List.cons.inj e).1, o⟩
theorem opn38 {n : Nat} {a : AV} (h : TypA Try.prog n 38 a) : ∃ x : Int, a = .sc (.int .u32 x) ∧ (0 ≤ x ∧ x ≤ 4294967295) := by
  obtain ⟨x, e, o⟩ := typ_rng Try.underlying38 (typA_of Try.underlying38 trivial h)
  exact ⟨x, (List.cons.inj e).1, o⟩
theorem dispatch_law (kind mode : Int) : ACalls Try.prog 3 [.sc (.int .i64 kind), .sc (.int .i64 mode)] ⟨0, []⟩ (fun r _ => r = .sc (.bool true)) := by
  have ss := shown_spec ⟨0, []⟩
  refine ACalls.imp (Q := fun r S' => r = .sc (.bool true) ∧ True) ?_ (fun _ _ h => h.1)
  refine enterA2 Try.func3 rfl 15 [.tmp 4] rfl rfl ?_
  repeat' (first | (refine aops_nil ?_) | (show AOps _ _ _ _ _ _; first | (show AOps _ _ _ _ (⟨some _, .move _, _, _, _, none⟩ :: _) _; first | (refine o_y (v_move (v := .sc _) rfl) rfl ?_)) | (show AOps _ _ _ _ (⟨some _, .assign _, _, _, _, none⟩ :: _) _; first | (refine o_y (v_assign (v := .sc _) rfl) rfl ?_)) | (show AOps _ _ _ _ (⟨some _, .binOp _ _ _ _ _, _, _, _, none⟩ :: _) _; first | (refine o_y (y_bin rfl rfl rfl) rfl ?_)) | (show AOps _ _ _ _ (⟨some _, .pick _ _ _, _, _, _, none⟩ :: _) _; first | (refine o_y (v_pick_t (v := .sc _) rfl (by first | rfl | assumption | exact beq_self_eq_true _ | exact decide_eq_true rfl) rfl) rfl ?_)) | (show AOps _ _ _ _ (⟨some _, .call ⟨.value (.func 8), _, _⟩, _, _, _, none⟩ :: _) _; first | (refine o_q (q_call (dispatch_spec kind mode)) rfl ?_)) | (show AOps _ _ _ _ (⟨some _, .call ⟨.value (.func 9), _, _⟩, _, _, _, none⟩ :: _) _; first | (refine o_q (q_call (dispatchR_spec kind mode)) rfl ?_)) | (show AOps _ _ _ _ (⟨_, .call ⟨.value (.func 7), _, _⟩, _, _, _, none⟩ :: _) _; refine o_x (x_callA rfl (ss) ?_); rintro _ ⟨m1, b1⟩ ⟨rfl, hf1⟩) | (show AOps _ _ _ _ (⟨_, _, _, _, _, some (_, _)⟩ :: _) _; first | (refine o_g_t rfl rfl rfl (by first | rfl | assumption | exact beq_self_eq_true _ | exact decide_eq_true rfl) ?_))) | (show IW _ _ _ _ _; first | (refine awp_seq ?_) | (refine awp_region ?_) | (refine awp_ret ?_)))
  exact retA1 ⟨congrArg (fun b => AV.sc (.bool b)) (by simp), trivial⟩
end Go.Proofs.Ytcidoghpacihpaa.Sx
