/- Names and values: which may be, by the program and by the document. A variable that may be, by the program and by the document; is a value written in quotes? Texts joined, by strings.Builder. Texts joined. -/
import Derived.Test.YtdcnpkbflelpfaaDoorD
namespace Go.Proofs.YtdcnpkbflelpfaaDoor.Sx
open Go Go.RowKit
attribute [local irreducible] IW AOps AQuiet GQ GY AExec QY Yld ACalls ACallsD
def nmC (x : Int) : Bool := decide (97 ≤ x ∧ x ≤ 122 ∨ 48 ≤ x ∧ x ≤ 57 ∨ x = 46 ∨ x = 95)
def plC (x : Int) : Bool := decide (32 ≤ x ∧ x ≤ 126 ∧ x ≠ 34)
def nn (p : Int → Bool) : Int → Bool := fun x => !p x
def allB (p : Int → Bool) (s : ByteArray) : Bool := decide (ix (nn p) s = s.size)
theorem ixI_neg {p : Int → Bool} {s : ByteArray} : decide (ixI (nn p) s < 0) = allB p s := by
  have := ix_le (nn p) s
  unfold ixI allB
  rw [decide_eq_decide]
  split <;> omega
theorem plain_fn (c : Int) : ACalls Tryd.prog 30 [.sc (.int .i32 c)] ⟨0, []⟩ (fun r _ => r = .sc (.bool (plC c))) := by
  refine enter1 Tryd.func30 rfl 13 0 [.tmp 2] rfl rfl rfl ?_
  repeat' (first | (refine aops_nil ?_) | (show AOps _ _ _ _ _ _; first | (show AOps _ _ _ _ (⟨some _, .move _, _, _, _, none⟩ :: _) _; first | (refine o_y (v_move (v := .sc _) rfl) rfl ?_)) | (show AOps _ _ _ _ (⟨some _, .assign _, _, _, _, none⟩ :: _) _; first | (refine o_y (v_assign (v := .sc _) rfl) rfl ?_)) | (show AOps _ _ _ _ (⟨some _, .binOp _ _ _ _ _, _, _, _, none⟩ :: _) _; first | (refine o_y (y_bin rfl rfl rfl) rfl ?_)) | (show AOps _ _ _ _ (⟨some _, .pick _ _ _, _, _, _, none⟩ :: _) _; first | (refine o_y (v_pick_t (v := .sc _) rfl (by first | rfl | assumption | exact beq_self_eq_true _ | exact decide_eq_true rfl) rfl) rfl ?_) | (refine o_y (v_pick_f (v := .sc _) rfl (by first | rfl | assumption) rfl) rfl ?_)) | (show AOps _ _ _ _ (⟨_, _, _, _, _, some (_, _)⟩ :: _) _; first | (refine o_g_t rfl rfl rfl (by first | rfl | assumption | exact beq_self_eq_true _ | exact decide_eq_true rfl) ?_) | (refine o_g_f rfl rfl rfl (by first | rfl | assumption) ?_) | (refine o_if rfl rfl rfl (fun h hp => ?_) (fun h hp => ?_)))) | (show IW _ _ _ _ _; first | (refine awp_seq ?_) | (refine awp_region ?_) | (refine awp_ret ?_)))
  all_goals exact ret1 [] (by decide) rfl (congrArg (fun b => AV.sc (.bool b)) (by unfold plC; rw [Bool.eq_iff_iff]; simp only [decide_eq_true_eq, Bool.false_eq_true, false_iff, true_iff, bne_iff_ne]; omega))
theorem named_fn (c : Int) : ACalls Tryd.prog 31 [.sc (.int .i32 c)] ⟨0, []⟩ (fun r _ => r = .sc (.bool (nmC c))) := by
  refine enter1 Tryd.func31 rfl 25 0 [.tmp 2] rfl rfl rfl ?_
  repeat' (first | (refine aops_nil ?_) | (show AOps _ _ _ _ _ _; first | (show AOps _ _ _ _ (⟨some _, .move _, _, _, _, none⟩ :: _) _; first | (refine o_y (v_move (v := .sc _) rfl) rfl ?_)) | (show AOps _ _ _ _ (⟨some _, .assign _, _, _, _, none⟩ :: _) _; first | (refine o_y (v_assign (v := .sc _) rfl) rfl ?_)) | (show AOps _ _ _ _ (⟨some _, .binOp _ _ _ _ _, _, _, _, none⟩ :: _) _; first | (refine o_y (y_bin rfl rfl rfl) rfl ?_)) | (show AOps _ _ _ _ (⟨some _, .pick _ _ _, _, _, _, none⟩ :: _) _; first | (refine o_y (v_pick_t (v := .sc _) rfl (by first | rfl | assumption | exact beq_self_eq_true _ | exact decide_eq_true rfl) rfl) rfl ?_) | (refine o_y (v_pick_f (v := .sc _) rfl (by first | rfl | assumption) rfl) rfl ?_)) | (show AOps _ _ _ _ (⟨_, _, _, _, _, some (_, _)⟩ :: _) _; first | (refine o_off rfl rfl rfl ?_) | (refine o_g_t rfl rfl rfl (by first | rfl | assumption | exact beq_self_eq_true _ | exact decide_eq_true rfl) ?_) | (refine o_g_f rfl rfl rfl (by first | rfl | assumption) ?_) | (refine o_if rfl rfl rfl (fun h hp => ?_) (fun h hp => ?_)) | (refine o_un rfl rfl rfl (fun h hp => ?_) (fun h hp => ?_)))) | (show IW _ _ _ _ _; first | (refine awp_seq ?_) | (refine awp_region ?_) | (refine awp_ret ?_)))
  all_goals exact ret1 [] (by decide) rfl (congrArg (fun b => AV.sc (.bool b)) (by unfold nmC; rw [Bool.eq_iff_iff]; simp only [decide_eq_true_eq, Bool.false_eq_true, false_iff, true_iff, beq_iff_eq]; omega))
theorem not_spec (f : FuncId) : ACalls Tryd.prog 32 [.fn f []] ⟨0, []⟩ (fun r _ => r = .fn 33 [.vptr [.fn f []] 0]) := by
  refine enter1 Tryd.func32 rfl 4 0 [.tmp 2] rfl rfl rfl ?_
  repeat' (first | (refine aops_nil ?_) | (show AOps _ _ _ _ _ _; first | (show AOps _ _ _ _ (⟨some _, .assign _, _, _, _, none⟩ :: _) _; first | (refine o_y (v_assign (v := .sc _) rfl) rfl ?_)) | (show AOps _ _ _ _ (⟨_, .box _ _, _, _, _, none⟩ :: _) _; first | (refine o_x (b_fn rfl rfl ?_)))) | (show IW _ _ [.code (.seq _ _)] _ _; first | (show AWP _ _ (.seq (.region 0 _ _) _) _ _; refine awp_seq ?_)) | (show IW _ _ _ _ _; first | (refine awp_region ?_)) | (show thenQ _ _ _ _; first | (refine k_n ?_)))
  refine iw_frzD 1 0 rfl rfl rfl ?_
  repeat' (first | (refine aops_nil ?_) | (show AOps _ _ _ _ _ _; first | (show AOps _ _ _ _ (⟨some _, .assign _, _, _, _, none⟩ :: _) _; first | (refine o_y (v_assign (v := .fn _ _) rfl) rfl ?_)) | (show AOps _ _ _ _ (⟨some _, .makeFunc _ _ _, _, _, _, none⟩ :: _) _; first | (refine o_y (v_f1 (a := .vptr _ _) rfl) rfl ?_))) | (show IW _ _ _ _ _; first | (refine awp_seq ?_) | (refine awp_region ?_) | (refine awp_ret ?_)))
  exact ret1 [] (by decide) rfl rfl
theorem notN_fn (c : Int) : ACalls Tryd.prog 33 [.sc (.int .i32 c), .vptr [.fn 31 []] 0] ⟨0, []⟩ (fun r _ => r = .sc (.bool (nn nmC c))) := by
  refine enter2 Tryd.func33 rfl 8 0 [.tmp 3] rfl rfl rfl ?_
  repeat' (first | (refine aops_nil ?_) | (show AOps _ _ _ _ _ _; first | (show AOps _ _ _ _ (⟨some _, .load _ _, _, _, _, none⟩ :: _) _; first | (refine o_y (y_vload1 (v := .fn _ _) rfl rfl) rfl ?_)) | (show AOps _ _ _ _ (⟨some _, .move _, _, _, _, none⟩ :: _) _; first | (refine o_y (v_move (v := .sc _) rfl) rfl ?_)) | (show AOps _ _ _ _ (⟨some _, .assign _, _, _, _, none⟩ :: _) _; first | (refine o_y (v_assign (v := .sc _) rfl) rfl ?_)) | (show AOps _ _ _ _ (⟨some _, .unOp _ _ _, _, _, _, none⟩ :: _) _; first | (refine o_y (y_not rfl) rfl ?_)) | (show AOps _ _ _ _ (⟨some _, .call ⟨.value (.tmp _), _, _⟩, _, _, _, none⟩ :: _) _; refine o_q (q_callV rfl (named_fn _)) rfl ?_)) | (show IW _ _ _ _ _; first | (refine awp_seq ?_) | (refine awp_region ?_) | (refine awp_ret ?_)))
  exact ret1 [] (by decide) rfl rfl
theorem notP_fn (c : Int) : ACalls Tryd.prog 33 [.sc (.int .i32 c), .vptr [.fn 30 []] 0] ⟨0, []⟩ (fun r _ => r = .sc (.bool (nn plC c))) := by
  refine enter2 Tryd.func33 rfl 8 0 [.tmp 3] rfl rfl rfl ?_
  repeat' (first | (refine aops_nil ?_) | (show AOps _ _ _ _ _ _; first | (show AOps _ _ _ _ (⟨some _, .load _ _, _, _, _, none⟩ :: _) _; first | (refine o_y (y_vload1 (v := .fn _ _) rfl rfl) rfl ?_)) | (show AOps _ _ _ _ (⟨some _, .move _, _, _, _, none⟩ :: _) _; first | (refine o_y (v_move (v := .sc _) rfl) rfl ?_)) | (show AOps _ _ _ _ (⟨some _, .assign _, _, _, _, none⟩ :: _) _; first | (refine o_y (v_assign (v := .sc _) rfl) rfl ?_)) | (show AOps _ _ _ _ (⟨some _, .unOp _ _ _, _, _, _, none⟩ :: _) _; first | (refine o_y (y_not rfl) rfl ?_)) | (show AOps _ _ _ _ (⟨some _, .call ⟨.value (.tmp _), _, _⟩, _, _, _, none⟩ :: _) _; refine o_q (q_callV rfl (plain_fn _)) rfl ?_)) | (show IW _ _ _ _ _; first | (refine awp_seq ?_) | (refine awp_region ?_) | (refine awp_ret ?_)))
  exact ret1 [] (by decide) rfl rfl
theorem nn_hi {p : Int → Bool} (hp : ∀ x, 128 ≤ x → p x = false) {x : Int} (h : 128 ≤ x) : nn p x = true := by
  unfold nn
  rw [hp x h]
  rfl
theorem ixI_at {p : Int → Bool} {s : ByteArray} {i : Nat} (h : i < s.size) (hb : ∀ j, j < i → p (bt s (j : Nat)) = false) (ha : p (bt s (i : Nat)) = true) : ixI p s = i := by
  have e := ix_is (p := p) (Nat.le_of_lt h) hb (fun _ => ha)
  unfold ixI
  rw [e, if_pos h]
theorem ixI_off {p : Int → Bool} {s : ByteArray} {i : Nat} (h : s.size ≤ i) (hb : ∀ j, j < i → p (bt s (j : Nat)) = false) : ixI p s = -1 := by
  have e := ix_is (p := p) (Nat.le_refl s.size) (fun j hj => hb j (by omega)) (fun h => absurd h (Nat.lt_irrefl _))
  unfold ixI
  rw [e, if_neg (Nat.lt_irrefl _)]
set_option maxRecDepth 8000 in
theorem ixF_spec (s : ByteArray) (hs : s.size ≤ 1099511627776) (f : FuncId) (p : Int → Bool) (hpl : ∀ x, 128 ≤ x → p x = false) (hq : ∀ c : Int, ACalls Tryd.prog 33 [.sc (.int .i32 c), .vptr [.fn f []] 0] ⟨0, []⟩ (fun r _ => r = .sc (.bool (nn p c)))) :
    ACalls Tryd.prog 44 [.sc (.string s), .fn 33 [.vptr [.fn f []] 0], .sc (.bool true)] ⟨0, []⟩ (fun r _ => r = .sc (.int .i64 (ixI (nn p) s))) := by
  refine enter3 Tryd.func44 rfl 21 0 [.tmp 6] rfl rfl rfl ?_
  repeat' (first | (refine aops_nil ?_) | (show AOps _ _ _ _ _ _; first | (show AOps _ _ _ _ (⟨some _, .move _, _, _, _, none⟩ :: _) _; first | (refine o_y (v_move (v := .sc _) rfl) rfl ?_)) | (show AOps _ _ _ _ (⟨some _, .assign _, _, _, _, none⟩ :: _) _; first | (refine o_y (v_assign (v := .sc _) rfl) rfl ?_)) | (show AOps _ _ _ _ (⟨_, .range _ _, _, _, _, none⟩ :: _) _; first | (refine o_x (x_rangeS rfl rfl ?_)))) | (show IW _ _ [.code (.seq _ _)] _ _; first | (show AWP _ _ (.seq (.region _ _ _) _) _ _; refine awp_seq ?_) | (show AWP _ _ (.seq (.seq _ _) _) _ _; refine awp_seq ?_)) | (show IW _ _ _ _ _; first | (refine awp_region ?_) | (refine awp_block ?_)))
  refine awp_loopI (fun i : Nat => i ≤ s.size ∧ ∀ j, j < i → nn p (bt s (j : Nat)) = false) (fun i => s.size - i) (fun i => [(0, .sc (.string s)), (1, .fn 33 [.vptr [.fn f []] 0]), (2, .sc (.bool true)), (10, .it 0)]) 1 (fun i => [(0, some (itc s i))]) 0 [0] (by decide) rfl rfl rfl ⟨Nat.zero_le _, fun j h => absurd h (Nat.not_lt_zero _)⟩ ⟨rfl, rfl, rfl, rfl, trivial⟩ ⟨rfl, rfl, trivial⟩ ?_
  rintro i ⟨h1, h2⟩ ih
  by_cases hi : i < s.size
  · by_cases hc : bt s i < 128
    · obtain ⟨c, hd, he⟩ := dec_lo hi hc
      repeat' (first | (refine aops_nil ?_) | (show AOps _ _ _ _ _ _; first | (show AOps _ _ _ _ (⟨some _, .move _, _, _, _, none⟩ :: _) _; first | (refine o_y (v_move (v := .sc _) rfl) rfl ?_) | (refine o_y (v_move (v := .fn _ _) rfl) rfl ?_)) | (show AOps _ _ _ _ (⟨some _, .assign _, _, _, _, none⟩ :: _) _; first | (refine o_y (v_assign (v := .sc _) rfl) rfl ?_)) | (show AOps _ _ _ _ (⟨some _, .binOp _ _ _ _ _, _, _, _, none⟩ :: _) _; first | (refine o_y (y_eqB rfl rfl) rfl ?_)) | (show AOps _ _ _ _ (⟨some _, .extract _ _, _, _, _, none⟩ :: _) _; first | (refine o_y (y_extract (v := .sc _) rfl rfl) rfl ?_)) | (show AOps _ _ _ _ (⟨some _, .call ⟨.value (.tmp _), _, _⟩, _, _, _, none⟩ :: _) _; refine o_q (q_callV rfl (hq _)) rfl ?_) | (show AOps _ _ _ _ (⟨_, .next _ _, _, _, _, none⟩ :: _) _; first | (refine o_x (x_nextS rfl rfl (by assumption) (by assumption) rfl ?_)))) | (show IW _ _ _ _ _; first | (refine awp_seq ?_) | (refine awp_region ?_) | (refine awp_block ?_) | (refine awp_ret ?_) | (refine awp_skip ?_) | (refine awp_if_t rfl (by first | rfl | assumption | exact beq_self_eq_true _ | exact decide_eq_true rfl) ?_) | (refine awp_if rfl (fun h hp => ?_) (fun h hp => ?_))) | (show thenQ _ _ _ _; first | (refine k_n ?_) | (refine k_r ?_)) | (show blockQ _ _ _ _; first | (refine k_n' ?_) | (refine b_r ?_)))
      · exact ret1 [] (by decide) rfl (congrArg (fun x => AV.sc (.int .i64 x)) (ixI_at hi h2 (by rw [← he]; simpa using hp)).symm)
      · exact iw_at [0] (ih (i + 1) ⟨hi, fun j hj => by
          rcases (by omega : j < i ∨ j = i) with h | rfl
          · exact h2 j h
          · rw [← he]; simpa using hp⟩ (by omega)) (by decide) rfl rfl rfl ⟨rfl, rfl, rfl, rfl, trivial⟩ ⟨rfl, rfl, trivial⟩
    · obtain ⟨⟨c, wd⟩, hd⟩ : ∃ x, Utf8.decode s i = x := ⟨_, rfl⟩
      have hh := dec_hi hi (by omega)
      rw [hd] at hh
      obtain ⟨g1, g2, g3, g4, g5⟩ := hh
      dsimp only at g1 g2 g3 g4 g5
      have hn := nn_hi hpl (x := (c : Int)) (by omega)
      repeat' (first | (refine aops_nil ?_) | (show AOps _ _ _ _ _ _; first | (show AOps _ _ _ _ (⟨some _, .move _, _, _, _, none⟩ :: _) _; first | (refine o_y (v_move (v := .sc _) rfl) rfl ?_) | (refine o_y (v_move (v := .fn _ _) rfl) rfl ?_)) | (show AOps _ _ _ _ (⟨some _, .assign _, _, _, _, none⟩ :: _) _; first | (refine o_y (v_assign (v := .sc _) rfl) rfl ?_)) | (show AOps _ _ _ _ (⟨some _, .binOp _ _ _ _ _, _, _, _, none⟩ :: _) _; first | (refine o_y (y_eqB rfl rfl) rfl ?_)) | (show AOps _ _ _ _ (⟨some _, .extract _ _, _, _, _, none⟩ :: _) _; first | (refine o_y (y_extract (v := .sc _) rfl rfl) rfl ?_)) | (show AOps _ _ _ _ (⟨some _, .call ⟨.value (.tmp _), _, _⟩, _, _, _, none⟩ :: _) _; refine o_q (q_callV rfl (hq _)) rfl ?_) | (show AOps _ _ _ _ (⟨_, .next _ _, _, _, _, none⟩ :: _) _; first | (refine o_x (x_nextS rfl rfl (by assumption) (by assumption) rfl ?_)))) | (show IW _ _ _ _ _; first | (refine awp_seq ?_) | (refine awp_region ?_) | (refine awp_block ?_) | (refine awp_ret ?_) | (refine awp_skip ?_) | (refine awp_if_t rfl (by first | rfl | assumption | exact beq_self_eq_true _ | exact decide_eq_true rfl) ?_) | (refine awp_if rfl (fun h hp => ?_) (fun h hp => ?_))) | (show thenQ _ _ _ _; first | (refine k_n ?_) | (refine k_r ?_)) | (show blockQ _ _ _ _; first | (refine k_n' ?_) | (refine b_r ?_)))
      · exact ret1 [] (by decide) rfl (congrArg (fun x => AV.sc (.int .i64 x)) (ixI_at hi h2 (nn_hi hpl (by omega))).symm)
      · rw [hn] at hp; exact absurd rfl hp
  · repeat' (first | (refine aops_nil ?_) | (show AOps _ _ _ _ _ _; first | (show AOps _ _ _ _ (⟨some _, .assign _, _, _, _, none⟩ :: _) _; first | (refine o_y (v_assign (v := .sc _) rfl) rfl ?_)) | (show AOps _ _ _ _ (⟨some _, .extract _ _, _, _, _, none⟩ :: _) _; first | (refine o_y (y_extract (v := .sc _) rfl rfl) rfl ?_)) | (show AOps _ _ _ _ (⟨_, .next _ _, _, _, _, none⟩ :: _) _; first | (refine o_x (x_nextE rfl rfl (by omega) rfl ?_)))) | (show IW _ _ _ _ _; first | (refine awp_seq ?_) | (refine awp_region ?_) | (refine awp_exit ?_) | (refine awp_ret ?_) | (refine awp_if_f rfl (by first | rfl | assumption) ?_)))
    exact ret1 [0] (by decide) rfl (congrArg (fun x => AV.sc (.int .i64 x)) (ixI_off (by omega) h2).symm)
theorem ixFS_spec (s : ByteArray) (hs : s.size ≤ 1099511627776) (f : FuncId) (p : Int → Bool) (hpl : ∀ x, 128 ≤ x → p x = false) (hq : ∀ c : Int, ACalls Tryd.prog 33 [.sc (.int .i32 c), .vptr [.fn f []] 0] ⟨0, []⟩ (fun r _ => r = .sc (.bool (nn p c)))) :
    ACalls Tryd.prog 34 [.sc (.string s), .fn 33 [.vptr [.fn f []] 0]] ⟨0, []⟩ (fun r _ => r = .sc (.int .i64 (ixI (nn p) s))) := by
  refine enter2 Tryd.func34 rfl 8 0 [.tmp 4] rfl rfl rfl ?_
  repeat' (first | (refine aops_nil ?_) | (show AOps _ _ _ _ _ _; first | (show AOps _ _ _ _ (⟨some _, .move _, _, _, _, none⟩ :: _) _; first | (refine o_y (v_move (v := .sc _) rfl) rfl ?_) | (refine o_y (v_move (v := .fn _ _) rfl) rfl ?_)) | (show AOps _ _ _ _ (⟨some _, .assign _, _, _, _, none⟩ :: _) _; first | (refine o_y (v_assign (v := .sc _) rfl) rfl ?_)) | (show AOps _ _ _ _ (⟨some _, .call ⟨.value (.func 44), _, _⟩, _, _, _, none⟩ :: _) _; first | (refine o_q (q_call (ixF_spec s hs f p hpl hq)) rfl ?_))) | (show IW _ _ _ _ _; first | (refine awp_seq ?_) | (refine awp_region ?_) | (refine awp_ret ?_)))
  exact ret1 [] (by decide) rfl rfl
theorem nmC_hi (x : Int) (h : 128 ≤ x) : nmC x = false := decide_eq_false (by omega)
theorem plC_hi (x : Int) (h : 128 ≤ x) : plC x = false := decide_eq_false (by omega)
end Go.Proofs.YtdcnpkbflelpfaaDoor.Sx
namespace Go.Proofs.YtdcnpkbflelpfaaDoor.Sx
open Go Go.RowKit
attribute [local irreducible] IW AOps AQuiet GQ GY AExec QY Yld ACalls ACallsD
def nameB (s : ByteArray) : Bool := decide (0 < s.size ∧ s.size ≤ 24) && allB nmC s
def valB (s : ByteArray) : Bool := decide (s.size ≤ 64) && allB plC s
def good (v : Pr) : Bool := nameB v.1 && valB v.2
theorem good_spec (a b : ByteArray) (ha : a.size ≤ 1099511627776) (hb : b.size ≤ 1099511627776) : ACalls Tryd.prog 24 [.agg [.sc (.string a), .sc (.string b)]] ⟨0, []⟩ (fun r _ => r = .sc (.bool (good (a, b)))) := by
  refine enter1 Tryd.func24 rfl 40 0 [.tmp 2] rfl rfl rfl ?_
  repeat' (first | (show AWP _ _ (.region 4 _ true) _ _; refine awp_gdraw 35 [] (by kernel_rfl) ?_) | (refine aops_nil ?_) | (show AOps _ _ _ _ _ _; first | (show AOps _ _ _ _ (⟨some _, .assign _, _, _, _, none⟩ :: _) _; first | (refine o_y (v_assign (v := .sc _) rfl) rfl ?_) | (refine o_y (v_assign (v := .fn _ _) rfl) rfl ?_)) | (show AOps _ _ _ _ (⟨_, .box _ _, _, _, _, none⟩ :: _) _; first | (refine o_x (b_agg rfl rfl rfl ?_)))) | (refine gq_nil ?_) | (show GQ _ _ _ _ _ _ _ _ _ _ _; first | (show GQ _ _ _ _ _ _ _ (⟨some _, .move _, _, _, _, none⟩ :: _) _ _ _; first | (refine g_y (v_move (v := .sc _) rfl) rfl ?_) | (refine g_y (v_move (v := .fn _ _) rfl) rfl ?_)) | (show GQ _ _ _ _ _ _ _ (⟨some _, .load _ _, _, _, _, none⟩ :: _) _ _ _; first | (refine g_y (y_load1 (v := .sc _) rfl rfl rfl) rfl ?_)) | (show GQ _ _ _ _ _ _ _ (⟨some _, .fieldAddr _ _ _, _, _, _, none⟩ :: _) _ _ _; first | (refine g_y (y_fld_ptr rfl rfl) rfl ?_)) | (show GQ _ _ _ _ _ _ _ (⟨some _, .assign _, _, _, _, none⟩ :: _) _ _ _; first | (refine g_y (v_assign (v := .sc _) rfl) rfl ?_)) | (show GQ _ _ _ _ _ _ _ (⟨some _, .binOp _ _ _ _ _, _, _, _, none⟩ :: _) _ _ _; first | (refine g_y (y_bin rfl rfl rfl) rfl ?_)) | (show GQ _ _ _ _ _ _ _ (⟨some _, .pick _ _ _, _, _, _, none⟩ :: _) _ _ _; first | (refine g_y (v_pick_t (v := .sc _) rfl (by first | rfl | assumption | exact beq_self_eq_true _ | exact decide_eq_true rfl) rfl) rfl ?_) | (refine g_y (v_pick_f (v := .sc _) rfl (by first | rfl | assumption) rfl) rfl ?_)) | (show GQ _ _ _ _ _ _ _ (⟨some _, .call ⟨.builtin .len, _, _⟩, _, _, _, none⟩ :: _) _ _ _; first | (refine g_y (y_lenS rfl) rfl ?_)) | (show GQ _ _ _ _ _ _ _ (⟨some _, .call ⟨.value (.tmp _), _, _⟩, _, _, _, none⟩ :: _) _ _ _; refine g_g (g_callV rfl (not_spec _) rfl) rfl ?_) | (show GQ _ _ _ _ _ _ _ (⟨some _, .call ⟨.value (.func 34), _, _⟩, _, _, _, none⟩ :: _) _ _ _; first | (refine g_c (q_call (ixFS_spec _ ha 31 nmC nmC_hi notN_fn)) rfl ?_)) | (show GQ _ _ _ _ _ _ _ (⟨some _, .call ⟨.value (.func 34), _, _⟩, _, _, _, none⟩ :: _) _ _ _; first | (refine g_c (q_call (ixFS_spec _ hb 30 plC plC_hi notP_fn)) rfl ?_)) | (show GQ _ _ _ _ _ _ _ (⟨_, _, _, _, _, some (_, _)⟩ :: _) _ _ _; first | (refine g_g_t rfl rfl rfl (by first | rfl | assumption | exact beq_self_eq_true _ | exact decide_eq_true rfl) ?_) | (refine g_g_f rfl rfl rfl (by first | rfl | assumption) ?_) | (refine g_if rfl rfl rfl (fun h hp => ?_) (fun h hp => ?_)))) | (show IW _ _ _ _ _; first | (refine awp_seq ?_) | (refine awp_region ?_) | (refine awp_ret ?_)))
  all_goals exact ret1 [] (by decide) rfl (congrArg (fun b => AV.sc (.bool b)) (by unfold good nameB valB; rw [← ixI_neg, ← ixI_neg, Bool.eq_iff_iff]; simp only [Bool.and_eq_true, decide_eq_true_eq, Bool.false_eq_true, false_iff]; omega))
/-- Is a value written in quotes? -/
def quB (s : ByteArray) : Bool := decide (ix pS s < s.size)
theorem has_spec2 (s : ByteArray) (hs : s.size ≤ 1099511627776) : ACalls Tryd.prog 25 [.sc (.string s), .sc (.string ⟨#[32, 44]⟩)] ⟨0, []⟩ (fun r _ => r = .sc (.bool (quB s))) := by
  refine enter2 Tryd.func25 rfl 9 0 [.tmp 4] rfl rfl rfl ?_
  repeat' (first | (refine aops_nil ?_) | (show AOps _ _ _ _ _ _; first | (show AOps _ _ _ _ (⟨some _, .move _, _, _, _, none⟩ :: _) _; first | (refine o_y (v_move (v := .sc _) rfl) rfl ?_)) | (show AOps _ _ _ _ (⟨some _, .assign _, _, _, _, none⟩ :: _) _; first | (refine o_y (v_assign (v := .sc _) rfl) rfl ?_)) | (show AOps _ _ _ _ (⟨some _, .binOp _ _ _ _ _, _, _, _, none⟩ :: _) _; first | (refine o_y (y_bin rfl rfl rfl) rfl ?_)) | (show AOps _ _ _ _ (⟨some _, .call ⟨.value (.func 35), _, _⟩, _, _, _, none⟩ :: _) _; first | (refine o_q (q_call (anyS_spec s hs)) rfl ?_))) | (show IW _ _ _ _ _; first | (refine awp_seq ?_) | (refine awp_region ?_) | (refine awp_ret ?_)))
  exact ret1 [] (by decide) rfl (congrArg (fun b => AV.sc (.bool b)) (by unfold quB ixI; rw [decide_eq_decide]; split <;> omega))
theorem allB_all {p : Int → Bool} {s : ByteArray} (h : ∀ j, j < s.size → p (bt s (j : Nat)) = true) : allB p s = true := by
  unfold allB
  rw [ix_is (p := nn p) (Nat.le_refl s.size) (fun j hj => by unfold nn; rw [h j hj]; rfl) (fun h => absurd h (Nat.lt_irrefl _))]
  exact decide_eq_true rfl
theorem allB_not {p : Int → Bool} {s : ByteArray} {i : Nat} (h : i < s.size) (hp : p (bt s (i : Nat)) = false) : allB p s = false := by
  refine decide_eq_false fun e => ?_
  have := ix_before (p := nn p) (s := s) (i := i) (by omega)
  unfold nn at this
  rw [hp] at this
  cases this
end Go.Proofs.YtdcnpkbflelpfaaDoor.Sx
namespace Go.Proofs.YtdcnpkbflelpfaaDoor.Sx
open Go Go.RowKit
attribute [local irreducible] IW AOps AQuiet GQ GY AExec QY Yld ACalls ACallsD
instance ext60 : Extn Tryd.prog 60 Extern.AbiNoEscape.same := extn_of Tryd.func60 (by kernel_rfl) (by kernel_rfl) (by kernel_rfl) (by kernel_rfl)
instance ext61 : Extn Tryd.prog 61 (Extern.BytealgMakeNoZero.makeNoZero #[3] #[68]) := extn_of Tryd.func61 (by kernel_rfl) (by kernel_rfl) (by kernel_rfl) (by kernel_rfl)
theorem copy0 : ACalls Tryd.prog 49 [.ptr 0 0] ⟨1, [(0, some ⟨[.sc (.pointer none), .sc (.slice none 0 0)], 2, 70⟩)]⟩ (fun r S => r = .tup [] ∧ S = ⟨1, [(0, some ⟨[.ptr 0 0, .sc (.slice none 0 0)], 2, 70⟩)]⟩) := by
  refine enter1 Tryd.func49 rfl 20 1 [] rfl rfl rfl ?_
  repeat' (first | (refine aops_nil ?_) | (show AOps _ _ _ _ _ _; first | (show AOps _ _ _ _ (⟨some _, .convert _ _ _, _, _, _, none⟩ :: _) _; first | (refine o_y (y_toUns rfl rfl rfl rfl) rfl ?_)) | (show AOps _ _ _ _ (⟨some _, .convert _ _ _, _, _, _, none⟩ :: _) _; first | (refine o_y (y_ofUns rfl rfl rfl rfl (by kernel_rfl)) rfl ?_)) | (show AOps _ _ _ _ (⟨some _, .call ⟨.value (.func 60), _, _⟩, _, _, _, none⟩ :: _) _; first | (refine o_y (y_noEsc (v := .ptr _ _) rfl) rfl ?_)) | (show AOps _ _ _ _ (⟨some _, .move _, _, _, _, none⟩ :: _) _; first | (refine o_y (v_move (v := .ptr _ _) rfl) rfl ?_)) | (show AOps _ _ _ _ (⟨some _, .load _ _, _, _, _, none⟩ :: _) _; first | (refine o_y (y_load1 (v := .sc _) rfl rfl rfl) rfl ?_)) | (show AOps _ _ _ _ (⟨some _, .fieldAddr _ _ _, _, _, _, none⟩ :: _) _; first | (refine o_y (y_fld_ptr rfl rfl) rfl ?_)) | (show AOps _ _ _ _ (⟨some _, .nilCheck _, _, _, _, none⟩ :: _) _; first | (refine o_y (y_nil_ptr rfl) rfl ?_)) | (show AOps _ _ _ _ (⟨some _, .binOp _ _ _ _ _, _, _, _, none⟩ :: _) _; first | (refine o_y (y_eqNil0 rfl rfl) rfl ?_)) | (show AOps _ _ _ _ (⟨_, .store _ _ _, _, _, _, none⟩ :: _) _; first | (refine o_x (s_storeN (v := .ptr _ _) rfl rfl rfl rfl rfl (by first | (simp only [List.set_cons_zero, List.set_cons_succ]; rfl) | rfl) ?_)))) | (show IW _ _ _ _ _; first | (refine awp_seq ?_) | (refine awp_region ?_) | (refine awp_if_t rfl (by first | rfl | assumption | exact beq_self_eq_true _ | exact decide_eq_true rfl) ?_)))
  exact ret0n [0] (by decide) rfl ⟨rfl, rfl⟩
theorem copy1 (b : List Int) : ACalls Tryd.prog 49 [.ptr 0 0] ⟨2, [(0, some ⟨[.ptr 0 0, .sl 1 0 b.length], 2, 70⟩), (1, some ⟨byts b, 1, 5⟩)]⟩ (fun r S => r = .tup [] ∧ S = ⟨2, [(0, some ⟨[.ptr 0 0, .sl 1 0 b.length], 2, 70⟩), (1, some ⟨byts b, 1, 5⟩)]⟩) := by
  refine enter1 Tryd.func49 rfl 20 2 [] rfl rfl rfl ?_
  repeat' (first | (refine aops_nil ?_) | (show AOps _ _ _ _ _ _; first | (show AOps _ _ _ _ (⟨some _, .binOp .neq _ _ _ _, _, _, _, none⟩ :: _) _; first | (refine o_y (y_neSelf rfl rfl) rfl ?_)) | (show AOps _ _ _ _ (⟨some _, .move _, _, _, _, none⟩ :: _) _; first | (refine o_y (v_move (v := .ptr _ _) rfl) rfl ?_)) | (show AOps _ _ _ _ (⟨some _, .load _ _, _, _, _, none⟩ :: _) _; first | (refine o_y (y_load1 (v := .ptr _ _) rfl rfl rfl) rfl ?_)) | (show AOps _ _ _ _ (⟨some _, .fieldAddr _ _ _, _, _, _, none⟩ :: _) _; first | (refine o_y (y_fld_ptr rfl rfl) rfl ?_)) | (show AOps _ _ _ _ (⟨some _, .nilCheck _, _, _, _, none⟩ :: _) _; first | (refine o_y (y_nil_ptr rfl) rfl ?_)) | (show AOps _ _ _ _ (⟨some _, .binOp _ _ _ _ _, _, _, _, none⟩ :: _) _; first | (refine o_y (y_eqNil rfl rfl) rfl ?_))) | (show IW _ _ _ _ _; first | (refine awp_seq ?_) | (refine awp_region ?_) | (refine awp_skip ?_) | (refine awp_if_f rfl (by first | rfl | assumption) ?_)))
  exact ret0n [0, 1] (by decide) rfl ⟨rfl, hp_is ⟨rfl, rfl, rfl, (by first | rfl | exact blk_fl rfl (byts_flat _)), trivial⟩⟩
theorem grow_spec (n : Int) (hn : 0 < n ∧ n ≤ 281474976710656) : ACalls Tryd.prog 50 [.ptr 0 0, .sc (.int .i64 n)] ⟨1, [(0, some ⟨[.ptr 0 0, .sc (.slice none 0 0)], 2, 70⟩)]⟩ (fun r S => r = .tup [] ∧ S = ⟨2, [(0, some ⟨[.ptr 0 0, .sl 1 0 0], 2, 70⟩), (1, some ⟨[], 1, 5⟩)]⟩) := by
  refine enter2 Tryd.func50 rfl 30 1 [] rfl rfl rfl ?_
  refine awp_seq (awp_any ?_)
  show AAny _ _ _ _ _ _ _
  refine aany_take 0 rfl (p_move (v := .ptr 0 0) rfl) rfl (by decide +kernel) (fun _ _ h => h) ?_
  refine aany_take 1 rfl (p_nil rfl) rfl (by decide +kernel) (fun _ _ h => h) ?_
  refine aany_take 2 rfl (p_fld rfl rfl) rfl (by decide +kernel) (fun _ _ h => h) ?_
  refine aany_take 6 rfl (p_move (v := .sc (.int .i64 n)) rfl) rfl (by decide +kernel) (fun _ _ h => h) ?_
  refine aany_take 9 rfl (p_move (v := .ptr 0 0) rfl) rfl (by decide +kernel) (fun _ _ h => h) ?_
  refine aany_take 10 rfl (p_nil rfl) rfl (by decide +kernel) (fun _ _ h => h) ?_
  refine aany_take 11 rfl (p_fld rfl rfl) rfl (by decide +kernel) (fun _ _ h => h) ?_
  refine aany_all [3, 12] (by decide +kernel) rfl (aall_cons rfl (o_y (y_load1 (v := .sc (.slice none 0 0)) rfl rfl rfl) rfl (aops_nil ?_)) (aall_cons rfl (o_y (y_load1 (v := .sc (.slice none 0 0)) rfl rfl rfl) rfl (aops_nil ?_)) trivial))
  · show AAny _ _ _ _ _ _ _
    refine aany_take 4 rfl (p_cap0 (t := 68) (e := 5) rfl) rfl (by decide +kernel) (fun _ _ h => h) ?_
    refine aany_take 5 rfl (p_bin (u := .int .i64 0) rfl rfl rfl) rfl (by decide +kernel) (fun _ _ h => h) ?_
    refine aany_take 7 rfl (p_add rfl rfl (by omega) (by omega)) rfl (by decide +kernel) (fun _ _ h => h) ?_
    refine aany_all [8, 12] (by decide +kernel) rfl (aall_cons rfl (o_x (x_noZero (t := 68) (e := 5) (ps := #[3]) (m := n.toNat) rfl (by omega) (by omega) rfl (aops_nil ?_))) (aall_cons rfl (o_y (y_load1 (v := .sc (.slice none 0 0)) rfl rfl rfl) rfl (aops_nil ?_)) trivial))
    · show AAny _ _ _ _ _ _ _
      refine aany_all [12] (by decide +kernel) rfl (aall_cons rfl (o_y (y_load1 (v := .sc (.slice none 0 0)) rfl rfl rfl) rfl (aops_nil ?_)) trivial)
      show AAny _ _ _ _ _ _ _
      refine aany_take 13 rfl (p_len0 (t := 68) (e := 5) rfl) rfl (by decide +kernel) (fun _ _ h => h) ?_
      refine aany_all [14] (by decide +kernel) rfl (aall_cons rfl (o_y (y_slice_sl_h rfl rfl rfl rfl (by omega) (by omega)) rfl (aops_nil ?_)) trivial)
      show AAny _ _ _ _ _ _ _
      refine aany_all [15] (by decide +kernel) rfl (aall_cons rfl (o_y (v_assign (v := .sl _ _ _) rfl) rfl (aops_nil ?_)) trivial)
      show AAny _ _ _ _ _ _ _
      refine aany_done (by decide +kernel) ?_
      repeat' (first | (refine aops_nil ?_) | (show AOps _ _ _ _ _ _; first | (show AOps _ _ _ _ (⟨some _, .call ⟨.builtin .copy, _, _⟩, _, _, _, none⟩ :: _) _; first | (refine o_y (y_copy0 rfl rfl) rfl ?_)) | (show AOps _ _ _ _ (⟨some _, .move _, _, _, _, none⟩ :: _) _; first | (refine o_y (v_move (v := .ptr _ _) rfl) rfl ?_) | (refine o_y (v_move (v := .sl _ _ _) rfl) rfl ?_)) | (show AOps _ _ _ _ (⟨some _, .load _ _, _, _, _, none⟩ :: _) _; first | (refine o_y (y_load1 (v := .sc _) rfl rfl rfl) rfl ?_)) | (show AOps _ _ _ _ (⟨some _, .fieldAddr _ _ _, _, _, _, none⟩ :: _) _; first | (refine o_y (y_fld_ptr rfl rfl) rfl ?_)) | (show AOps _ _ _ _ (⟨some _, .nilCheck _, _, _, _, none⟩ :: _) _; first | (refine o_y (y_nil_ptr rfl) rfl ?_)) | (show AOps _ _ _ _ (⟨_, .store _ _ _, _, _, _, none⟩ :: _) _; first | (refine o_x (s_storeN (v := .sl _ _ _) rfl rfl rfl rfl rfl (by first | (simp only [List.set_cons_zero, List.set_cons_succ]; rfl) | rfl) ?_)))) | (show IW _ _ _ _ _; first | (refine awp_seq ?_) | (refine awp_region ?_)))
      exact ret0n [0, 1] (by decide) rfl ⟨rfl, rfl⟩
    · show AAny _ _ _ _ _ _ _
      refine aany_take 13 rfl (p_len0 (t := 68) (e := 5) rfl) rfl (by decide +kernel) (fun _ _ h => h) ?_
      refine aany_all [8] (by decide +kernel) rfl (aall_cons rfl (o_x (x_noZero (t := 68) (e := 5) (ps := #[3]) (m := n.toNat) rfl (by omega) (by omega) rfl (aops_nil ?_))) trivial)
      show AAny _ _ _ _ _ _ _
      refine aany_all [14] (by decide +kernel) rfl (aall_cons rfl (o_y (y_slice_sl_h rfl rfl rfl rfl (by omega) (by omega)) rfl (aops_nil ?_)) trivial)
      show AAny _ _ _ _ _ _ _
      refine aany_all [15] (by decide +kernel) rfl (aall_cons rfl (o_y (v_assign (v := .sl _ _ _) rfl) rfl (aops_nil ?_)) trivial)
      show AAny _ _ _ _ _ _ _
      refine aany_done (by decide +kernel) ?_
      repeat' (first | (refine aops_nil ?_) | (show AOps _ _ _ _ _ _; first | (show AOps _ _ _ _ (⟨some _, .call ⟨.builtin .copy, _, _⟩, _, _, _, none⟩ :: _) _; first | (refine o_y (y_copy0 rfl rfl) rfl ?_)) | (show AOps _ _ _ _ (⟨some _, .move _, _, _, _, none⟩ :: _) _; first | (refine o_y (v_move (v := .ptr _ _) rfl) rfl ?_) | (refine o_y (v_move (v := .sl _ _ _) rfl) rfl ?_)) | (show AOps _ _ _ _ (⟨some _, .load _ _, _, _, _, none⟩ :: _) _; first | (refine o_y (y_load1 (v := .sc _) rfl rfl rfl) rfl ?_)) | (show AOps _ _ _ _ (⟨some _, .fieldAddr _ _ _, _, _, _, none⟩ :: _) _; first | (refine o_y (y_fld_ptr rfl rfl) rfl ?_)) | (show AOps _ _ _ _ (⟨some _, .nilCheck _, _, _, _, none⟩ :: _) _; first | (refine o_y (y_nil_ptr rfl) rfl ?_)) | (show AOps _ _ _ _ (⟨_, .store _ _ _, _, _, _, none⟩ :: _) _; first | (refine o_x (s_storeN (v := .sl _ _ _) rfl rfl rfl rfl rfl (by first | (simp only [List.set_cons_zero, List.set_cons_succ]; rfl) | rfl) ?_)))) | (show IW _ _ _ _ _; first | (refine awp_seq ?_) | (refine awp_region ?_)))
      exact ret0n [0, 1] (by decide) rfl ⟨rfl, rfl⟩
  · show AAny _ _ _ _ _ _ _
    refine aany_take 13 rfl (p_len0 (t := 68) (e := 5) rfl) rfl (by decide +kernel) (fun _ _ h => h) ?_
    refine aany_all [3] (by decide +kernel) rfl (aall_cons rfl (o_y (y_load1 (v := .sc (.slice none 0 0)) rfl rfl rfl) rfl (aops_nil ?_)) trivial)
    show AAny _ _ _ _ _ _ _
    refine aany_take 4 rfl (p_cap0 (t := 68) (e := 5) rfl) rfl (by decide +kernel) (fun _ _ h => h) ?_
    refine aany_take 5 rfl (p_bin (u := .int .i64 0) rfl rfl rfl) rfl (by decide +kernel) (fun _ _ h => h) ?_
    refine aany_take 7 rfl (p_add rfl rfl (by omega) (by omega)) rfl (by decide +kernel) (fun _ _ h => h) ?_
    refine aany_all [8] (by decide +kernel) rfl (aall_cons rfl (o_x (x_noZero (t := 68) (e := 5) (ps := #[3]) (m := n.toNat) rfl (by omega) (by omega) rfl (aops_nil ?_))) trivial)
    show AAny _ _ _ _ _ _ _
    refine aany_all [14] (by decide +kernel) rfl (aall_cons rfl (o_y (y_slice_sl_h rfl rfl rfl rfl (by omega) (by omega)) rfl (aops_nil ?_)) trivial)
    show AAny _ _ _ _ _ _ _
    refine aany_all [15] (by decide +kernel) rfl (aall_cons rfl (o_y (v_assign (v := .sl _ _ _) rfl) rfl (aops_nil ?_)) trivial)
    show AAny _ _ _ _ _ _ _
    refine aany_done (by decide +kernel) ?_
    repeat' (first | (refine aops_nil ?_) | (show AOps _ _ _ _ _ _; first | (show AOps _ _ _ _ (⟨some _, .call ⟨.builtin .copy, _, _⟩, _, _, _, none⟩ :: _) _; first | (refine o_y (y_copy0 rfl rfl) rfl ?_)) | (show AOps _ _ _ _ (⟨some _, .move _, _, _, _, none⟩ :: _) _; first | (refine o_y (v_move (v := .ptr _ _) rfl) rfl ?_) | (refine o_y (v_move (v := .sl _ _ _) rfl) rfl ?_)) | (show AOps _ _ _ _ (⟨some _, .load _ _, _, _, _, none⟩ :: _) _; first | (refine o_y (y_load1 (v := .sc _) rfl rfl rfl) rfl ?_)) | (show AOps _ _ _ _ (⟨some _, .fieldAddr _ _ _, _, _, _, none⟩ :: _) _; first | (refine o_y (y_fld_ptr rfl rfl) rfl ?_)) | (show AOps _ _ _ _ (⟨some _, .nilCheck _, _, _, _, none⟩ :: _) _; first | (refine o_y (y_nil_ptr rfl) rfl ?_)) | (show AOps _ _ _ _ (⟨_, .store _ _ _, _, _, _, none⟩ :: _) _; first | (refine o_x (s_storeN (v := .sl _ _ _) rfl rfl rfl rfl rfl (by first | (simp only [List.set_cons_zero, List.set_cons_succ]; rfl) | rfl) ?_)))) | (show IW _ _ _ _ _; first | (refine awp_seq ?_) | (refine awp_region ?_)))
    exact ret0n [0, 1] (by decide) rfl ⟨rfl, rfl⟩
theorem growS_spec (n : Int) (hn : 0 < n ∧ n ≤ 281474976710656) : ACalls Tryd.prog 36 [.ptr 0 0, .sc (.int .i64 n)] ⟨1, [(0, some ⟨[.sc (.pointer none), .sc (.slice none 0 0)], 2, 70⟩)]⟩ (fun r S => r = .tup [] ∧ S = ⟨2, [(0, some ⟨[.ptr 0 0, .sl 1 0 0], 2, 70⟩), (1, some ⟨[], 1, 5⟩)]⟩) := by
  refine enter2 Tryd.func36 rfl 25 1 [] rfl rfl rfl ?_
  repeat' (first | (show AWP _ _ (.region 3 _ true) _ _; refine awp_draw 13 (by kernel_rfl) ?_) | (refine aops_nil ?_) | (show AOps _ _ _ _ _ _; first | (show AOps _ _ _ _ (⟨some _, .move _, _, _, _, none⟩ :: _) _; first | (refine o_y (v_move (v := .sc _) rfl) rfl ?_) | (refine o_y (v_move (v := .ptr _ _) rfl) rfl ?_)) | (show AOps _ _ _ _ (⟨some _, .binOp .sub _ _ _ _, _, _, _, none⟩ :: _) _; first | (refine o_y (y_bin rfl rfl rfl) rfl ?_)) | (show AOps _ _ _ _ (⟨some _, .binOp _ _ _ _ _, _, _, _, none⟩ :: _) _; first | (refine o_y (y_bin rfl rfl rfl) rfl ?_)) | (show AOps _ _ _ _ (⟨_, .call ⟨.value (.func 49), _, _⟩, _, _, _, none⟩ :: _) _; refine o_x (s_callH [0] (by decide) rfl rfl (copy0) rfl ⟨rfl, (by first | rfl | exact blk_fl rfl (byts_flat _) | exact blk_fl rfl (strs_flat _) | exact blk_fl rfl (nums_flat _) | exact blk_fl rfl (prs_flat _)), trivial⟩ ?_); rintro _ _ ⟨rfl, rfl⟩; refine o_norm ⟨_, [(0, some ⟨[.ptr 0 0, .sc (.slice none 0 0)], 2, 70⟩)]⟩ rfl ⟨rfl, trivial⟩ ?_) | (show AOps _ _ _ _ (⟨_, .call ⟨.value (.func 50), _, _⟩, _, _, _, none⟩ :: _) _; refine o_x (s_callH [0] (by decide) rfl rfl (grow_spec n hn) rfl ⟨rfl, (by first | rfl | exact blk_fl rfl (byts_flat _) | exact blk_fl rfl (strs_flat _) | exact blk_fl rfl (nums_flat _) | exact blk_fl rfl (prs_flat _)), trivial⟩ ?_); rintro _ _ ⟨rfl, rfl⟩; refine o_norm ⟨_, [(0, some ⟨[.ptr 0 0, .sl 1 0 0], 2, 70⟩), (1, some ⟨[], 1, 5⟩)]⟩ rfl ⟨rfl, rfl, trivial⟩ ?_)) | (refine aq_nil ?_) | (show AQuiet _ _ _ _ _ _; first | (show AQuiet _ _ _ (⟨some _, .call ⟨.builtin .cap, _, _⟩, _, _, _, none⟩ :: _) _ _; first | (refine q_y (y_cap0 rfl) rfl ?_)) | (show AQuiet _ _ _ (⟨some _, .move _, _, _, _, none⟩ :: _) _ _; first | (refine q_y (v_move (v := .sc _) rfl) rfl ?_) | (refine q_y (v_move (v := .ptr _ _) rfl) rfl ?_)) | (show AQuiet _ _ _ (⟨some _, .load _ _, _, _, _, none⟩ :: _) _ _; first | (refine q_y (y_load1 (v := .sc _) rfl rfl rfl) rfl ?_)) | (show AQuiet _ _ _ (⟨some _, .fieldAddr _ _ _, _, _, _, none⟩ :: _) _ _; first | (refine q_y (y_fld_ptr rfl rfl) rfl ?_)) | (show AQuiet _ _ _ (⟨some _, .nilCheck _, _, _, _, none⟩ :: _) _ _; first | (refine q_y (y_nil_ptr rfl) rfl ?_)) | (show AQuiet _ _ _ (⟨some _, .binOp .sub _ _ _ _, _, _, _, none⟩ :: _) _ _; first | (refine q_y (z_sub rfl rfl (by omega) (by omega)) rfl ?_) | (refine q_y (y_bin rfl rfl rfl) rfl ?_)) | (show AQuiet _ _ _ (⟨some _, .binOp _ _ _ _ _, _, _, _, none⟩ :: _) _ _; first | (refine q_y (y_bin rfl rfl rfl) rfl ?_)) | (show AQuiet _ _ _ (⟨some _, .call ⟨.builtin .len, _, _⟩, _, _, _, none⟩ :: _) _ _; first | (refine q_y (y_lenN rfl) rfl ?_))) | (show IW _ _ _ _ _; first | (refine awp_seq ?_) | (refine awp_region ?_) | (refine awp_skip ?_) | (refine awp_if rfl (fun h hp => ?_) (fun h hp => ?_))))
  all_goals first
    | (exfalso; omega)
    | exact ret0n [0, 1] (by decide) rfl ⟨rfl, rfl⟩
    | trace_state
theorem write_spec (b : List Int) (d : ByteArray) (hb : b.length ≤ 4294967296) (h : d.size ≤ 4096) : ACalls Tryd.prog 37 [.ptr 0 0, .sc (.string d)] ⟨2, [(0, some ⟨[.ptr 0 0, .sl 1 0 b.length], 2, 70⟩), (1, some ⟨byts b, 1, 5⟩)]⟩ (fun r S => ∃ n, n = (b ++ ints d).length ∧ S = ⟨3, [(0, some ⟨[.ptr 0 0, .sl 2 0 n], 2, 70⟩), (1, none), (2, some ⟨byts (b ++ ints d), 1, 5⟩)]⟩) := by
  refine enter2 Tryd.func37 rfl 19 2 [.tmp 4, .tmp 5] rfl rfl rfl ?_
  repeat' (first | (refine aops_nil ?_) | (show AOps _ _ _ _ _ _; first | (show AOps _ _ _ _ (⟨some _, .move _, _, _, _, none⟩ :: _) _; first | (refine o_y (v_move (v := .sc _) rfl) rfl ?_) | (refine o_y (v_move (v := .ptr _ _) rfl) rfl ?_)) | (show AOps _ _ _ _ (⟨some _, .load _ _, _, _, _, none⟩ :: _) _; first | (refine o_y (y_load1 (v := .sl _ _ _) rfl rfl rfl) rfl ?_)) | (show AOps _ _ _ _ (⟨some _, .fieldAddr _ _ _, _, _, _, none⟩ :: _) _; first | (refine o_y (y_fld_ptr rfl rfl) rfl ?_)) | (show AOps _ _ _ _ (⟨some _, .nilCheck _, _, _, _, none⟩ :: _) _; first | (refine o_y (y_nil_ptr rfl) rfl ?_)) | (show AOps _ _ _ _ (⟨some _, .assign _, _, _, _, none⟩ :: _) _; first | (refine o_y (v_assign (v := .sc _) rfl) rfl ?_)) | (show AOps _ _ _ _ (⟨some _, .call ⟨.builtin .len, _, _⟩, _, _, _, none⟩ :: _) _; first | (refine o_y (y_lenS rfl) rfl ?_)) | (show AOps _ _ _ _ (⟨_, .call ⟨.value (.func 49), _, _⟩, _, _, _, none⟩ :: _) _; refine o_x (s_callH [0, 1] (by decide) rfl rfl (copy1 b) rfl ⟨rfl, (by first | rfl | exact blk_fl rfl (byts_flat _) | exact blk_fl rfl (strs_flat _) | exact blk_fl rfl (nums_flat _) | exact blk_fl rfl (prs_flat _)),rfl, (by first | rfl | exact blk_fl rfl (byts_flat _) | exact blk_fl rfl (strs_flat _) | exact blk_fl rfl (nums_flat _) | exact blk_fl rfl (prs_flat _)), trivial⟩ ?_); rintro _ _ ⟨rfl, rfl⟩; refine o_norm ⟨_, [(0, some ⟨[.ptr 0 0, .sl 1 0 b.length], 2, 70⟩), (1, some ⟨byts b, 1, 5⟩)]⟩ rfl ⟨rfl, (by first | rfl | exact blk_back rfl (byts_flat _)), trivial⟩ ?_) | (show AOps _ _ _ _ (⟨_, .store _ _ _, _, _, _, none⟩ :: _) _; first | (refine o_x (s_storeN (v := .sl _ _ _) rfl rfl rfl rfl rfl (by first | (simp only [List.set_cons_zero, List.set_cons_succ]; rfl) | rfl) ?_))) | (show AOps _ _ _ _ (⟨_, .call ⟨.builtin .append, _, _⟩, _, _, _, none⟩ :: _) _; first | (refine o_x (x_append (X := .sc _) rfl rfl rfl (by first | rfl | assumption | exact prs_length _ | exact strs_len1 _ | exact byts_len1 _ | exact nums_len1 _ | (simp only [byts_length, strs_length, ints_length, prs_length, List.length_append, List.length_cons, List.length_nil]; omega)) (src_strB) rfl rfl (by omega) (by omega) (by first | exact prs_snoc _ _ _ | exact strs_snoc _ _ | exact byts_snoc _ _ | exact nums_snoc _ _ | exact strs_append _ _ | exact byts_append _ _ | exact byts_snoc [] _ | exact strs_snoc [] _ | exact byts_append [] _ | exact strs_append [] _ | exact byts_append _ [_, _] | rfl) (by first | exact Nat.zero_add _ | rfl) ?_)))) | (show IW _ _ _ _ _; first | (refine awp_seq ?_) | (refine awp_region ?_) | (refine awp_ret ?_)))
  all_goals first
    | exact ret2 [0, 1, 2] (by decide) rfl ⟨b.length + d.size, by simp [ints_length], hp_is ⟨rfl, rfl, rfl, rfl, rfl, (by first | rfl | exact blk_fl rfl (byts_flat _)), trivial⟩⟩
    | trace_state
theorem str_spec (b : List Int) (h0 : b ≠ []) (hl : b.length ≤ 4294967296) (hr : ∀ z ∈ b, 0 ≤ z ∧ z ≤ 255) : ACalls Tryd.prog 38 [.ptr 0 0] ⟨2, [(0, some ⟨[.ptr 0 0, .sl 1 0 b.length], 2, 70⟩), (1, some ⟨byts b, 1, 5⟩)]⟩ (fun r S => r = .sc (.string (strOf b)) ∧ S = ⟨2, [(0, some ⟨[.ptr 0 0, .sl 1 0 b.length], 2, 70⟩), (1, none)]⟩) := by
  have hp0 : 0 < b.length := List.length_pos_iff.2 h0
  refine enter1 Tryd.func38 rfl 14 2 [.tmp 2] rfl rfl rfl ?_
  repeat' (first | (show AWP _ _ (.region 1 _ true) _ _; refine awp_draw 10 (by kernel_rfl) ?_) | (refine aops_nil ?_) | (show AOps _ _ _ _ _ _; first | (show AOps _ _ _ _ (⟨some _, .assign _, _, _, _, none⟩ :: _) _; first | (refine o_y (v_assign (v := .sc _) rfl) rfl ?_))) | (refine aq_nil ?_) | (show AQuiet _ _ _ _ _ _; first | (show AQuiet _ _ _ (⟨some _, .call ⟨.builtin .unsafeSliceData, _, _⟩, _, _, _, none⟩ :: _) _ _; first | (refine q_y (y_sdata rfl hp0) rfl ?_)) | (show AQuiet _ _ _ (⟨some _, .move _, _, _, _, none⟩ :: _) _ _; first | (refine q_y (v_move (v := .ptr _ _) rfl) rfl ?_)) | (show AQuiet _ _ _ (⟨some _, .load _ _, _, _, _, none⟩ :: _) _ _; first | (refine q_y (y_load1 (v := .sl _ _ _) rfl rfl rfl) rfl ?_)) | (show AQuiet _ _ _ (⟨some _, .fieldAddr _ _ _, _, _, _, none⟩ :: _) _ _; first | (refine q_y (y_fld_ptr rfl rfl) rfl ?_)) | (show AQuiet _ _ _ (⟨some _, .nilCheck _, _, _, _, none⟩ :: _) _ _; first | (refine q_y (y_nil_ptr rfl) rfl ?_)) | (show AQuiet _ _ _ (⟨some _, .call ⟨.builtin .len, _, _⟩, _, _, _, none⟩ :: _) _ _; first | (refine q_y (y_lenL rfl) rfl ?_))) | (show IW _ _ _ _ _; first | (refine awp_seq ?_) | (refine awp_region ?_)))
  refine o_x (x_ustr (by kernel_rfl) rfl rfl rfl rfl h0 (by omega) hr rfl ?_)
  repeat' (first | (refine aops_nil ?_) | (show AOps _ _ _ _ _ _; first | (show AOps _ _ _ _ (⟨some _, .assign _, _, _, _, none⟩ :: _) _; first | (refine o_y (v_assign (v := .sc _) rfl) rfl ?_))) | (show IW _ _ _ _ _; first | (refine awp_ret ?_)))
  exact ret1 [0, 1] (by decide) rfl ⟨rfl, hp_is ⟨rfl, rfl, rfl, rfl, trivial⟩⟩
end Go.Proofs.YtdcnpkbflelpfaaDoor.Sx
namespace Go.Proofs.YtdcnpkbflelpfaaDoor.Sx
open Go Go.RowKit
attribute [local irreducible] IW AOps AQuiet GQ GY AExec QY Yld ACalls ACallsD
@[reducible] def SEP : ByteArray := ⟨#[44, 32]⟩
def jnS (q : ByteArray) : List ByteArray → ByteArray
  | [] => ⟨#[]⟩
  | x :: l => l.foldl (fun a y => a ++ q ++ y) x
@[reducible] def jn : List ByteArray → ByteArray := jnS SEP
theorem jn_cons (q x : ByteArray) (l : List ByteArray) : jnS q (x :: l) = l.foldl (fun a y => a ++ q ++ y) x := rfl
theorem jn_snoc {q : ByteArray} {l : List ByteArray} {i : Nat} {x : ByteArray} (h : l[i]? = some x) (hi : 0 < i) : jnS q (l.take (i + 1)) = jnS q (l.take i) ++ q ++ x := by
  rw [List.take_add_one, h]
  cases l with
  | nil => cases h
  | cons a r =>
    cases i with
    | zero => omega
    | succ i =>
      rw [List.take_succ_cons, List.cons_append, jn_cons, jn_cons, List.foldl_append]
      rfl
theorem jn_one (q : ByteArray) (l : List ByteArray) {x : ByteArray} (h : l[0]? = some x) : jnS q (l.take 1) = x := by
  cases l with
  | nil => cases h
  | cons a r => simp at h; subst h; rfl
theorem jn_size (q : ByteArray) (hq : q.size ≤ 2) (l : List ByteArray) (hl : ∀ x ∈ l, x.size ≤ 256) : (jnS q l).size ≤ l.length * 258 := by
  cases l with
  | nil => exact Nat.le_refl _
  | cons a r =>
    rw [jn_cons]
    have key : ∀ (r : List ByteArray) (a : ByteArray), (∀ x ∈ r, x.size ≤ 256) → (r.foldl (fun a y => a ++ q ++ y) a).size ≤ a.size + r.length * 258 := by
      intro r
      induction r with
      | nil => intro a _; exact Nat.le_refl _
      | cons b r ih =>
        intro a h
        have h1 := ih (a ++ q ++ b) (fun x hx => h x (List.mem_cons_of_mem _ hx))
        have h2 := h b List.mem_cons_self
        rw [ByteArray.size_append, ByteArray.size_append] at h1
        rw [List.foldl_cons, List.length_cons]
        omega
    have h1 := key r a (fun x hx => hl x (List.mem_cons_of_mem _ hx))
    have h2 := hl a List.mem_cons_self
    rw [List.length_cons]
    omega
theorem ints_rng (s : ByteArray) : ∀ z ∈ ints s, 0 ≤ z ∧ z ≤ 255 := fun z hz => by
  unfold ints at hz
  obtain ⟨b, _, rfl⟩ := List.mem_map.1 hz
  have := b.toNat_lt
  omega
set_option maxHeartbeats 4000000 in
theorem joinS_spec (q : ByteArray) (hq0 : 0 < q.size) (hq2 : q.size ≤ 2) (l : List ByteArray) (hl : l.length ≤ 2097152) (hx : ∀ x ∈ l, x.size ≤ 256) : ACalls Tryd.prog 26 [.vsl (strs l) 1 0 l.length, .sc (.string q)] ⟨0, []⟩ (fun r _ => r = .sc (.string (jnS q l))) := by
  have kq : decide ((q.size : Int) > 0) = true := decide_eq_true (by omega)
  have hsl := strs_length l
  by_cases h0 : l.length = 0
  · refine enter2 Tryd.func26 rfl 75 0 [.tmp 4] rfl rfl rfl ?_
    repeat' (first | (refine aops_nil ?_) | (show AOps _ _ _ _ _ _; first | (show AOps _ _ _ _ (⟨some _, .move _, _, _, _, none⟩ :: _) _; first | (refine o_y (v_move (v := .sc _) rfl) rfl ?_) | (refine o_y (v_move (v := .vsl _ _ _ _) rfl) rfl ?_)) | (show AOps _ _ _ _ (⟨some _, .assign _, _, _, _, none⟩ :: _) _; first | (refine o_y (v_assign (v := .sc _) rfl) rfl ?_)) | (show AOps _ _ _ _ (⟨some _, .binOp .add _ _ _ _, _, _, _, none⟩ :: _) _; first | (refine o_y (z_add rfl rfl (by omega) (by omega)) rfl ?_) | (refine o_y (y_bin rfl rfl rfl) rfl ?_)) | (show AOps _ _ _ _ (⟨some _, .binOp .sub _ _ _ _, _, _, _, none⟩ :: _) _; first | (refine o_y (z_sub rfl rfl (by omega) (by omega)) rfl ?_) | (refine o_y (y_bin rfl rfl rfl) rfl ?_)) | (show AOps _ _ _ _ (⟨some _, .binOp .mul _ _ _ _, _, _, _, none⟩ :: _) _; first | (refine o_y (z_mul rfl rfl (by omega) (by omega)) rfl ?_) | (refine o_y (y_bin rfl rfl rfl) rfl ?_)) | (show AOps _ _ _ _ (⟨some _, .binOp .quo _ _ _ _, _, _, _, none⟩ :: _) _; first | (refine o_y (z_quo rfl rfl (by omega) (by omega) (by omega)) rfl ?_)) | (show AOps _ _ _ _ (⟨some _, .binOp _ _ _ _ _, _, _, _, none⟩ :: _) _; first | (refine o_y (y_bin rfl rfl rfl) rfl ?_)) | (show AOps _ _ _ _ (⟨some _, .call ⟨.builtin .len, _, _⟩, _, _, _, none⟩ :: _) _; first | (refine o_y (y_lenS rfl) rfl ?_) | (refine o_y (y_lenV rfl) rfl ?_)) | (show AOps _ _ _ _ (⟨some _, .indexAddr _ _ _, _, _, _, none⟩ :: _) _; first | (refine o_y (y_ix_vsl rfl rfl rfl (by omega) (by omega)) rfl ?_))) | (show IW _ _ _ _ _; first | (refine awp_seq ?_) | (refine awp_region ?_) | (refine awp_block ?_) | (refine awp_ret ?_) | (refine awp_skip ?_) | (refine awp_if_t rfl (by first | rfl | assumption | exact beq_self_eq_true _ | exact decide_eq_true rfl) ?_) | (refine awp_if rfl (fun h hp => ?_) (fun h hp => ?_))) | (show thenQ _ _ _ _; first | (refine k_r ?_)) | (show blockQ _ _ _ _; first | (refine b_r ?_)))
    · exact ret1 [] (by decide) rfl (congrArg (fun x => AV.sc (.string x)) (by rw [List.eq_nil_of_length_eq_zero h0]; rfl))
    all_goals (exfalso; omega)
  obtain ⟨x, hx0⟩ : ∃ x, l[0]? = some x := ⟨_, List.getElem?_eq_getElem (by omega)⟩
  have hxs := hx x (List.mem_of_getElem? hx0)
  have v0 : (strs l)[(0 + Int.toNat 0) * 1]? = some (.sc (.string x)) := by simp [strs, hx0]
  have hq : 2 ≤ l.length → 4096 < (9223372036854775807 : Int) / ((l.length : Int) - 1) := fun h2 => by
    have : (4097 : Int) ≤ 9223372036854775807 / ((l.length : Int) - 1) := (Int.le_ediv_iff_mul_le (by omega)).2 (by omega)
    omega
  refine enter2 Tryd.func26 rfl 75 0 [.tmp 4] rfl rfl rfl ?_
  repeat' (first | (refine aops_nil ?_) | (show AOps _ _ _ _ _ _; first | (show AOps _ _ _ _ (⟨some _, .move _, _, _, _, none⟩ :: _) _; first | (refine o_y (v_move (v := .sc _) rfl) rfl ?_) | (refine o_y (v_move (v := .vsl _ _ _ _) rfl) rfl ?_)) | (show AOps _ _ _ _ (⟨some _, .load _ _, _, _, _, none⟩ :: _) _; first | (refine o_y (y_vload rfl (by assumption)) rfl ?_)) | (show AOps _ _ _ _ (⟨some _, .assign _, _, _, _, none⟩ :: _) _; first | (refine o_y (v_assign (v := .sc _) rfl) rfl ?_)) | (show AOps _ _ _ _ (⟨some _, .binOp .add _ _ _ _, _, _, _, none⟩ :: _) _; first | (refine o_y (y_bin rfl rfl rfl) rfl ?_)) | (show AOps _ _ _ _ (⟨some _, .binOp .sub _ _ _ _, _, _, _, none⟩ :: _) _; first | (refine o_y (z_sub rfl rfl (by omega) (by omega)) rfl ?_) | (refine o_y (y_bin rfl rfl rfl) rfl ?_)) | (show AOps _ _ _ _ (⟨some _, .binOp .mul _ _ _ _, _, _, _, none⟩ :: _) _; first | (refine o_y (y_bin rfl rfl rfl) rfl ?_)) | (show AOps _ _ _ _ (⟨some _, .binOp .quo _ _ _ _, _, _, _, none⟩ :: _) _; first | (refine o_y (z_quo rfl rfl (by omega) (by omega) (by omega)) rfl ?_)) | (show AOps _ _ _ _ (⟨some _, .binOp _ _ _ _ _, _, _, _, none⟩ :: _) _; first | (refine o_y (y_bin rfl rfl rfl) rfl ?_)) | (show AOps _ _ _ _ (⟨some _, .call ⟨.builtin .len, _, _⟩, _, _, _, none⟩ :: _) _; first | (refine o_y (y_lenS rfl) rfl ?_) | (refine o_y (y_lenV rfl) rfl ?_)) | (show AOps _ _ _ _ (⟨some _, .indexAddr _ _ _, _, _, _, none⟩ :: _) _; first | (refine o_y (y_ix_vsl rfl rfl rfl (by omega) (by omega)) rfl ?_))) | (show IW _ _ [.code (.seq _ _)] _ _; first | (show AWP _ _ (.seq (.region _ _ _) _) _ _; refine awp_seq ?_) | (show AWP _ _ (.seq (.seq _ _) _) _ _; refine awp_seq ?_)) | (show IW _ _ _ _ _; first | (refine awp_region ?_) | (refine awp_block ?_) | (refine awp_ret ?_) | (refine awp_skip ?_) | (refine awp_if_t rfl (by first | rfl | assumption | exact beq_self_eq_true _ | exact decide_eq_true rfl) ?_) | (refine awp_if rfl (fun h hp => ?_) (fun h hp => ?_))) | (show thenQ _ _ _ _; first | (refine k_r ?_)) | (show blockQ _ _ _ _; first | (refine b_r ?_)))
  · exfalso; omega
  · exact ret1 [] (by decide) rfl (congrArg (fun x => AV.sc (.string x)) (by rw [← jn_one q l hx0, List.take_of_length_le (by omega)]))
  · have := hq (by omega); exfalso; omega
  have h2 : 2 ≤ l.length := by omega
  have hmul0 : q.size * (l.length - 1) ≤ 2 * (l.length - 1) := Nat.mul_le_mul_right _ hq2
  have hw : IntKind.i64.wrap (0 + IntKind.i64.wrap ((q.size : Int) * ((l.length : Int) - 1))) = ((q.size * (l.length - 1) : Nat) : Int) := by
    have hm : q.size * (l.length - 1) ≤ 2 * (l.length - 1) := Nat.mul_le_mul_right _ hq2
    have e : (q.size : Int) * ((l.length : Int) - 1) = ((q.size * (l.length - 1) : Nat) : Int) := by
      rw [Int.natCast_mul]
      congr 1
      omega
    have hi : IntKind.i64.wrap ((q.size * (l.length - 1) : Nat) : Int) = ((q.size * (l.length - 1) : Nat) : Int) := wrap_i64 (by omega) (by omega)
    rw [e, hi, Int.zero_add, hi]
  have hmul : q.size * (l.length - 1) ≤ 2 * (l.length - 1) := Nat.mul_le_mul_right _ hq2
  have hmul1 : 1 * (l.length - 1) ≤ q.size * (l.length - 1) := Nat.mul_le_mul_right _ hq0
  refine awp_loopI (fun x : Nat × Nat => x.1 ≤ l.length ∧ l.length - 1 ≤ x.2 ∧ x.2 ≤ 4194304 + 256 * x.1) (fun x => l.length - x.1) (fun x => [(0, .vsl (strs l) 1 0 l.length), (1, .sc (.string q)), (5, .sc (.int .i64 x.2)), (39, .vsl (strs l) 1 0 l.length), (40, .sc (.int .i64 l.length)), (41, .sc (.int .i64 x.1))]) 0 (fun _ => []) (0, q.size * (l.length - 1)) [] (by decide) rfl rfl rfl ⟨Nat.zero_le _, by dsimp only; omega, by dsimp only; omega⟩ ⟨rfl, rfl, congrArg (fun x => AV.sc (.int .i64 x)) hw, rfl, rfl, rfl, trivial⟩ trivial ?_
  rintro ⟨i, m⟩ ⟨h3, h4, h5⟩ ih
  dsimp only at h3 h4 h5 ih ⊢
  by_cases hi : i < l.length
  · obtain ⟨y, hy⟩ : ∃ y, l[i]? = some y := ⟨_, List.getElem?_eq_getElem hi⟩
    have hys := hx y (List.mem_of_getElem? hy)
    have vi : (strs l)[(0 + Int.toNat i) * 1]? = some (.sc (.string y)) := by simp [strs, hy]
    repeat' (first | (refine aops_nil ?_) | (show AOps _ _ _ _ _ _; first | (show AOps _ _ _ _ (⟨some _, .move _, _, _, _, none⟩ :: _) _; first | (refine o_y (v_move (v := .sc _) rfl) rfl ?_)) | (show AOps _ _ _ _ (⟨some _, .load _ _, _, _, _, none⟩ :: _) _; first | (refine o_y (y_vload rfl (by assumption)) rfl ?_)) | (show AOps _ _ _ _ (⟨some _, .assign _, _, _, _, none⟩ :: _) _; first | (refine o_y (v_assign (v := .sc _) rfl) rfl ?_)) | (show AOps _ _ _ _ (⟨some _, .binOp .add _ _ _ _, _, _, _, none⟩ :: _) _; first | (refine o_y (z_add rfl rfl (by omega) (by omega)) rfl ?_) | (refine o_y (y_bin rfl rfl rfl) rfl ?_)) | (show AOps _ _ _ _ (⟨some _, .binOp .sub _ _ _ _, _, _, _, none⟩ :: _) _; first | (refine o_y (z_sub rfl rfl (by omega) (by omega)) rfl ?_) | (refine o_y (y_bin rfl rfl rfl) rfl ?_)) | (show AOps _ _ _ _ (⟨some _, .binOp .mul _ _ _ _, _, _, _, none⟩ :: _) _; first | (refine o_y (y_bin rfl rfl rfl) rfl ?_)) | (show AOps _ _ _ _ (⟨some _, .binOp _ _ _ _ _, _, _, _, none⟩ :: _) _; first | (refine o_y (y_bin rfl rfl rfl) rfl ?_)) | (show AOps _ _ _ _ (⟨some _, .call ⟨.builtin .len, _, _⟩, _, _, _, none⟩ :: _) _; first | (refine o_y (y_lenS rfl) rfl ?_)) | (show AOps _ _ _ _ (⟨some _, .indexAddr _ _ _, _, _, _, none⟩ :: _) _; first | (refine o_y (y_ix_vsl rfl rfl rfl (by omega) (by omega)) rfl ?_)) | (show AOps _ _ _ _ (⟨_, .alloc _, _, _, _, none⟩ :: _) _; first | (refine o_x (a_new (by first | (simp only [AV.ofV, AV.cells, List.map_cons, List.map_nil]; rfl) | rfl) rfl rfl rfl ?_)))) | (show IW _ _ [.code (.seq _ _)] _ _; first | (show AWP _ _ (.seq (.region _ _ _) _) _ _; refine awp_seq ?_) | (show AWP _ _ (.seq (.cond _ _ _) _) _ _; refine awp_seq ?_) | (show AWP _ _ (.seq (.block _ _) _) _ _; refine awp_seq ?_) | (show AWP _ _ (.seq (.seq _ _) _) _ _; refine awp_seq ?_)) | (show IW _ _ _ _ _; first | (refine awp_region ?_) | (refine awp_block ?_) | (refine awp_exit ?_) | (refine awp_skip ?_) | (refine awp_if rfl (fun h hp => ?_) (fun h hp => ?_))) | (show thenQ _ _ _ _; first | (refine k_n ?_)))
    · exfalso; omega
    · exact iw_at [] (ih (i + 1, m + y.size) ⟨hi, by dsimp only; omega, by dsimp only; omega⟩ (by omega)) (by decide) rfl rfl rfl ⟨rfl, rfl, rfl, rfl, rfl, rfl, trivial⟩ trivial
    · exfalso; omega
  · obtain rfl : i = l.length := by omega
    clear ih
    repeat' (first | (refine aops_nil ?_) | (show AOps _ _ _ _ _ _; first | (show AOps _ _ _ _ (⟨some _, .slice _ _ _ _ _, _, _, _, none⟩ :: _) _; first | (refine o_y (y_slice_vsl_l rfl rfl (by omega) (by omega)) rfl ?_)) | (show AOps _ _ _ _ (⟨some _, .move _, _, _, _, none⟩ :: _) _; first | (refine o_y (v_move (v := .sc _) rfl) rfl ?_) | (refine o_y (v_move (v := .vsl _ _ _ _) rfl) rfl ?_)) | (show AOps _ _ _ _ (⟨some _, .load _ _, _, _, _, none⟩ :: _) _; first | (refine o_y (y_vload rfl (by assumption)) rfl ?_)) | (show AOps _ _ _ _ (⟨some _, .binOp .add _ _ _ _, _, _, _, none⟩ :: _) _; first | (refine o_y (y_bin rfl rfl rfl) rfl ?_)) | (show AOps _ _ _ _ (⟨some _, .binOp .sub _ _ _ _, _, _, _, none⟩ :: _) _; first | (refine o_y (y_bin rfl rfl rfl) rfl ?_)) | (show AOps _ _ _ _ (⟨some _, .binOp .mul _ _ _ _, _, _, _, none⟩ :: _) _; first | (refine o_y (y_bin rfl rfl rfl) rfl ?_)) | (show AOps _ _ _ _ (⟨some _, .binOp _ _ _ _ _, _, _, _, none⟩ :: _) _; first | (refine o_y (y_bin rfl rfl rfl) rfl ?_)) | (show AOps _ _ _ _ (⟨some _, .call ⟨.builtin .len, _, _⟩, _, _, _, none⟩ :: _) _; first | (refine o_y (y_lenV rfl) rfl ?_)) | (show AOps _ _ _ _ (⟨some _, .indexAddr _ _ _, _, _, _, none⟩ :: _) _; first | (refine o_y (y_ix_vsl rfl rfl rfl (by omega) (by omega)) rfl ?_)) | (show AOps _ _ _ _ (⟨_, .call ⟨.value (.func 36), _, _⟩, _, _, _, none⟩ :: _) _; refine o_x (s_callH [0] (by decide) rfl rfl (growS_spec _ (by omega)) rfl ⟨rfl, (by first | rfl | exact blk_fl rfl (byts_flat _) | exact blk_fl rfl (strs_flat _) | exact blk_fl rfl (nums_flat _) | exact blk_fl rfl (prs_flat _)), trivial⟩ ?_); rintro _ _ ⟨rfl, rfl⟩; refine o_norm ⟨_, [(0, some ⟨[.ptr 0 0, .sl 1 0 ([] : List Int).length], 2, 70⟩), (1, some ⟨byts [], 1, 5⟩)]⟩ rfl ⟨rfl, (by first | rfl | exact blk_back rfl (byts_flat _)), trivial⟩ ?_) | (show AOps _ _ _ _ (⟨_, .call ⟨.value (.func 37), _, _⟩, _, _, _, none⟩ :: _) _; refine o_x (s_callH [0, 1] (by decide) rfl rfl (write_spec [] x (Nat.zero_le _) (by omega)) rfl ⟨rfl, (by first | rfl | exact blk_fl rfl (byts_flat _) | exact blk_fl rfl (strs_flat _) | exact blk_fl rfl (nums_flat _) | exact blk_fl rfl (prs_flat _)),rfl, (by first | rfl | exact blk_fl rfl (byts_flat _) | exact blk_fl rfl (strs_flat _) | exact blk_fl rfl (nums_flat _) | exact blk_fl rfl (prs_flat _)), trivial⟩ ?_); rintro _ _ ⟨n1, rfl, rfl⟩; refine o_norm ⟨_, [(0, some ⟨[.ptr 0 0, .sl 2 0 ([] ++ ints x).length], 2, 70⟩), (2, some ⟨byts ([] ++ ints x), 1, 5⟩)]⟩ rfl ⟨rfl, (by first | rfl | exact blk_back rfl (byts_flat _)), trivial⟩ ?_) | (show AOps _ _ _ _ (⟨_, .alloc _, _, _, _, none⟩ :: _) _; first | (refine o_x (a_new (by first | (simp only [AV.ofV, AV.cells, List.map_cons, List.map_nil]; rfl) | rfl) rfl rfl rfl ?_)))) | (show IW _ _ [.code (.seq _ _)] _ _; first | (show AWP _ _ (.seq (.region _ _ _) _) _ _; refine awp_seq ?_) | (show AWP _ _ (.seq (.cond _ _ _) _) _ _; refine awp_seq ?_) | (show AWP _ _ (.seq (.block _ _) _) _ _; refine awp_seq ?_) | (show AWP _ _ (.seq (.seq _ _) _) _ _; refine awp_seq ?_)) | (show IW _ _ _ _ _; first | (refine awp_region ?_) | (refine awp_block ?_) | (refine awp_exit ?_) | (refine awp_skip ?_) | (refine awp_if rfl (fun h hp => ?_) (fun h hp => ?_))))
    · exfalso; omega
    refine awp_loopI (fun k : Nat => k + 1 ≤ l.length) (fun k => l.length - k) (fun k => [(1, .sc (.string q)), (8, .ptr 0 0), (63, .vsl (strs l) 1 1 (l.length - 1)), (64, .sc (.int .i64 ((l.length - 1 : Nat) : Int))), (65, .sc (.int .i64 k))]) 2 (fun k => [(0, some ⟨[.ptr 0 0, .sl 1 0 (ints (jnS q (l.take (k + 1)))).length], 2, 70⟩), (1, some ⟨byts (ints (jnS q (l.take (k + 1)))), 1, 5⟩)]) 0 [0, 2] (by decide) rfl rfl rfl (by omega) ⟨rfl, rfl, rfl, rfl, rfl, trivial⟩ ⟨rfl, ?_, rfl, ?_, trivial⟩ ?_
    · rw [jn_one q l hx0]; rfl
    · rw [jn_one q l hx0]; exact blk_fl rfl (byts_flat _)
    intro k hk ih
    have hjs := jn_size q hq2 (l.take (k + 1)) (fun y hy => hx y (List.mem_of_mem_take hy))
    have hjl : (l.take (k + 1)).length = k + 1 := by rw [List.length_take]; omega
    have hil := ints_length (jnS q (l.take (k + 1)))
    rw [hjl] at hjs
    by_cases hkl : k + 1 < l.length
    · obtain ⟨y, hy⟩ : ∃ y, l[k + 1]? = some y := ⟨_, List.getElem?_eq_getElem hkl⟩
      have hys := hx y (List.mem_of_getElem? hy)
      have vi : (strs l)[(1 + Int.toNat k) * 1]? = some (.sc (.string y)) := by
        rw [Nat.mul_one, Int.toNat_natCast, Nat.add_comm]; simp [strs, hy]
      have hn := jn_snoc (q := q) hy (by omega)
      have he : ints (jnS q (l.take (k + 1 + 1))) = ints (jnS q (l.take (k + 1))) ++ ints q ++ ints y := by rw [hn, ints_append, ints_append]
      have hl2 : (ints (jnS q (l.take (k + 1))) ++ ints q).length ≤ 4294967296 := by rw [List.length_append, ints_length, ints_length]; omega
      repeat' (first | (refine aops_nil ?_) | (show AOps _ _ _ _ _ _; first | (show AOps _ _ _ _ (⟨some _, .move _, _, _, _, none⟩ :: _) _; first | (refine o_y (v_move (v := .sc _) rfl) rfl ?_)) | (show AOps _ _ _ _ (⟨some _, .load _ _, _, _, _, none⟩ :: _) _; first | (refine o_y (y_vload rfl (by assumption)) rfl ?_)) | (show AOps _ _ _ _ (⟨some _, .assign _, _, _, _, none⟩ :: _) _; first | (refine o_y (v_assign (v := .sc _) rfl) rfl ?_)) | (show AOps _ _ _ _ (⟨some _, .binOp .add _ _ _ _, _, _, _, none⟩ :: _) _; first | (refine o_y (y_bin rfl rfl rfl) rfl ?_)) | (show AOps _ _ _ _ (⟨some _, .binOp .sub _ _ _ _, _, _, _, none⟩ :: _) _; first | (refine o_y (y_bin rfl rfl rfl) rfl ?_)) | (show AOps _ _ _ _ (⟨some _, .binOp .mul _ _ _ _, _, _, _, none⟩ :: _) _; first | (refine o_y (y_bin rfl rfl rfl) rfl ?_)) | (show AOps _ _ _ _ (⟨some _, .binOp _ _ _ _ _, _, _, _, none⟩ :: _) _; first | (refine o_y (y_bin rfl rfl rfl) rfl ?_)) | (show AOps _ _ _ _ (⟨some _, .indexAddr _ _ _, _, _, _, none⟩ :: _) _; first | (refine o_y (y_ix_vsl rfl rfl rfl (by omega) (by omega)) rfl ?_)) | (show AOps _ _ _ _ (⟨_, .call ⟨.value (.func 37), _, _⟩, _, _, _, none⟩ :: _) _; refine o_x (s_callH [0, 1] (by decide) rfl rfl (write_spec (ints (jnS q (l.take (k + 1)))) q (by omega) (by omega)) rfl ⟨rfl, (by first | rfl | exact blk_fl rfl (byts_flat _) | exact blk_fl rfl (strs_flat _) | exact blk_fl rfl (nums_flat _) | exact blk_fl rfl (prs_flat _)),rfl, (by first | rfl | exact blk_fl rfl (byts_flat _) | exact blk_fl rfl (strs_flat _) | exact blk_fl rfl (nums_flat _) | exact blk_fl rfl (prs_flat _)), trivial⟩ ?_); rintro _ _ ⟨n1, rfl, rfl⟩; refine o_norm ⟨_, [(0, some ⟨[.ptr 0 0, .sl 2 0 (ints (jnS q (l.take (k + 1))) ++ ints q).length], 2, 70⟩), (2, some ⟨byts (ints (jnS q (l.take (k + 1))) ++ ints q), 1, 5⟩)]⟩ rfl ⟨rfl, (by first | rfl | exact blk_back rfl (byts_flat _)), trivial⟩ ?_)) | (show IW _ _ [.code (.seq _ _)] _ _; first | (show AWP _ _ (.seq (.cond _ _ _) _) _ _; refine awp_seq ?_) | (show AWP _ _ (.seq (.block _ _) _) _ _; refine awp_seq ?_) | (show AWP _ _ (.seq (.region 22 _ _) _) _ _; refine awp_seq ?_) | (show AWP _ _ (.seq (.region 23 _ _) _) _ _; refine awp_seq ?_) | (show AWP _ _ (.seq (.region 24 _ _) _) _ _; refine awp_seq ?_) | (show AWP _ _ (.seq (.region 27 _ _) _) _ _; refine awp_seq ?_)) | (show IW _ _ _ _ _; first | (refine awp_region ?_) | (refine awp_block ?_) | (refine awp_exit ?_) | (refine awp_skip ?_) | (refine awp_if rfl (fun h hp => ?_) (fun h hp => ?_))))
      · repeat' (first | (refine aops_nil ?_) | (show AOps _ _ _ _ _ _; first | (show AOps _ _ _ _ (⟨some _, .move _, _, _, _, none⟩ :: _) _; first | (refine o_y (v_move (v := .sc _) rfl) rfl ?_)) | (show AOps _ _ _ _ (⟨some _, .binOp .add _ _ _ _, _, _, _, none⟩ :: _) _; first | (refine o_y (z_add rfl rfl (by omega) (by omega)) rfl ?_)) | (show AOps _ _ _ _ (⟨_, .call ⟨.value (.func 37), _, _⟩, _, _, _, none⟩ :: _) _; refine o_x (s_callH [0, 2] (by decide) rfl rfl (write_spec (ints (jnS q (l.take (k + 1))) ++ ints q) y hl2 (by omega)) rfl ⟨rfl, (by first | rfl | exact blk_fl rfl (byts_flat _) | exact blk_fl rfl (strs_flat _) | exact blk_fl rfl (nums_flat _) | exact blk_fl rfl (prs_flat _)),rfl, (by first | rfl | exact blk_fl rfl (byts_flat _) | exact blk_fl rfl (strs_flat _) | exact blk_fl rfl (nums_flat _) | exact blk_fl rfl (prs_flat _)), trivial⟩ ?_); rintro _ _ ⟨n1, rfl, rfl⟩; refine o_norm ⟨_, [(0, some ⟨[.ptr 0 0, .sl 3 0 (ints (jnS q (l.take (k + 1))) ++ ints q ++ ints y).length], 2, 70⟩), (3, some ⟨byts (ints (jnS q (l.take (k + 1))) ++ ints q ++ ints y), 1, 5⟩)]⟩ rfl ⟨rfl, (by first | rfl | exact blk_back rfl (byts_flat _)), trivial⟩ ?_)) | (show IW _ _ _ _ _; first | (refine awp_region ?_)) | (show thenQ _ _ _ _; first | (refine k_n ?_)))
        exact iw_at [0, 3] (ih (k + 1) (by omega) (by omega)) (by decide) rfl rfl rfl ⟨rfl, rfl, rfl, rfl, rfl, trivial⟩ ⟨rfl, (by rw [he]; rfl), rfl, (by rw [he]; exact blk_fl rfl (byts_flat _)), trivial⟩
      · exfalso; omega
    · have hkk : k + 1 = l.length := by omega
      rw [hkk, List.take_of_length_le (Nat.le_refl _)] at hil hjs ⊢
      have hne : ints (jnS q l) ≠ [] := fun e => by
        have h1 := ints_length (jnS q l)
        rw [e] at h1
        have h2 : (jnS q l).size = 0 := h1.symm
        have h3 := jn_snoc (q := q) (l := l) (i := k) (x := l[k]) (List.getElem?_eq_getElem (by omega)) (by omega)
        rw [hkk, List.take_of_length_le (Nat.le_refl _)] at h3
        rw [h3, ByteArray.size_append, ByteArray.size_append] at h2
        omega
      repeat' (first | (refine aops_nil ?_) | (show AOps _ _ _ _ _ _; first | (show AOps _ _ _ _ (⟨some _, .assign _, _, _, _, none⟩ :: _) _; first | (refine o_y (v_assign (v := .sc _) rfl) rfl ?_)) | (show AOps _ _ _ _ (⟨some _, .binOp .add _ _ _ _, _, _, _, none⟩ :: _) _; first | (refine o_y (y_bin rfl rfl rfl) rfl ?_)) | (show AOps _ _ _ _ (⟨some _, .binOp .sub _ _ _ _, _, _, _, none⟩ :: _) _; first | (refine o_y (y_bin rfl rfl rfl) rfl ?_)) | (show AOps _ _ _ _ (⟨some _, .binOp .mul _ _ _ _, _, _, _, none⟩ :: _) _; first | (refine o_y (y_bin rfl rfl rfl) rfl ?_)) | (show AOps _ _ _ _ (⟨some _, .binOp _ _ _ _ _, _, _, _, none⟩ :: _) _; first | (refine o_y (y_bin rfl rfl rfl) rfl ?_)) | (show AOps _ _ _ _ (⟨some _, .indexAddr _ _ _, _, _, _, none⟩ :: _) _; first | (refine o_y (y_ix_vsl rfl rfl rfl (by omega) (by omega)) rfl ?_)) | (show AOps _ _ _ _ (⟨_, .call ⟨.value (.func 38), _, _⟩, _, _, _, none⟩ :: _) _; refine o_x (s_callH [0, 1] (by decide) rfl rfl (str_spec (ints (jnS q l)) hne (by omega) (ints_rng _)) rfl ⟨rfl, (by first | rfl | exact blk_fl rfl (byts_flat _) | exact blk_fl rfl (strs_flat _) | exact blk_fl rfl (nums_flat _) | exact blk_fl rfl (prs_flat _)),rfl, (by first | rfl | exact blk_fl rfl (byts_flat _) | exact blk_fl rfl (strs_flat _) | exact blk_fl rfl (nums_flat _) | exact blk_fl rfl (prs_flat _)), trivial⟩ ?_); rintro _ _ ⟨rfl, rfl⟩; refine o_norm ⟨_, [(0, some ⟨[.ptr 0 0, .sl 1 0 (ints (jnS q l)).length], 2, 70⟩)]⟩ rfl ⟨rfl, trivial⟩ ?_)) | (show IW _ _ _ _ _; first | (refine awp_seq ?_) | (refine awp_region ?_) | (refine awp_block ?_) | (refine awp_exit ?_) | (refine awp_ret ?_) | (refine awp_skip ?_) | (refine awp_if rfl (fun h hp => ?_) (fun h hp => ?_))))
      · exfalso; omega
      · exact ret1 [] (by decide) rfl (congrArg (fun x => AV.sc (.string x)) (strOf_ints _))
end Go.Proofs.YtdcnpkbflelpfaaDoor.Sx
