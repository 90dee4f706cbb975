/- Numbers in digits, by the program and by the document. -/
import Derived.Test.YtdcnpkbflelpfaaDoorV0
import Derived.Test.YtdcnpkbflelpfaaDoorT
import Derived.Test.YtdcnpkbflelpfaaDoorSx43
import Derived.Test.YtdcnpkbflelpfaaDoorSx35
import Derived.Test.YtdcnpkbflelpfaaDoorSx41
import Derived.KernelRfl
import Derived.Lib.ItoaLen
namespace Go.Proofs.YtdcnpkbflelpfaaDoor.Sx
open Go Go.RowKit
attribute [local irreducible] IW AOps AQuiet GQ GY AExec QY Yld ACalls ACallsD
theorem tab_pin {w : World} (h : Pinned w) : Lib.TabIs Tryd.prog w "internal/strconv.uint64pow10" .u64 Lib.pow10Tab :=
  tab_of (g := 0) (by kernel_rfl) (by kernel_rfl) h
/-- A number in digits. -/
def dgs (n : Nat) : ByteArray := ⟨(Lib.decDigits n).toArray⟩
def num (n : Int) : ByteArray := ⟨(Lib.itoa n).toArray⟩
theorem num_nat (n : Nat) : num n = dgs n := by unfold num dgs; rw [Lib.itoa_nonneg]
theorem num_neg {n : Nat} (h : 1 ≤ n) : num (-(n : Int)) = ⟨#[45]⟩ ++ dgs n := by
  unfold num dgs
  rw [Lib.itoa_neg n h]
  apply ByteArray.ext
  simp
theorem dgs_small {n : Nat} (h : n < 10) : dgs n = (⟨#[48, 49, 50, 51, 52, 53, 54, 55, 56, 57]⟩ : ByteArray).extract n (n + 1) := by
  unfold dgs
  rw [Lib.decDigits, dif_pos h]
  have : ∀ k, k < 10 → (⟨([UInt8.ofNat (48 + k)] : List UInt8).toArray⟩ : ByteArray) = (⟨#[48, 49, 50, 51, 52, 53, 54, 55, 56, 57]⟩ : ByteArray).extract k (k + 1) := by decide
  exact this n h
theorem dgs_big {n : Nat} (h : ¬ n < 10) : dgs n = dgs (n / 10) ++ (⟨#[48, 49, 50, 51, 52, 53, 54, 55, 56, 57]⟩ : ByteArray).extract (n % 10) (n % 10 + 1) := by
  rw [← dgs_small (Nat.mod_lt n (by decide))]
  unfold dgs
  rw [Lib.decDigits, dif_neg h]
  apply ByteArray.ext
  rw [Lib.decDigits_one (Nat.mod_lt n (by decide))]
  simp
theorem dgs_size {n : Nat} (h : n < 18446744073709551616) : (dgs n).size ≤ 20 := by
  have := Lib.nDigits_le20 n h
  show (Lib.decDigits n).length ≤ 20
  rw [Lib.decDigits_length]
  exact this
theorem itoa_spec (n : Int) (h0 : -9223372036854775808 ≤ n) (h1 : n ≤ 9223372036854775807) : ACalls Tryd.prog 22 [.sc (.int .i64 n)] ⟨0, []⟩ (fun r _ => r = .sc (.string (num n))) :=
  (acalls_calls (us := [.int .i64 n]) (u := .string (num n)) (S := ⟨0, []⟩) fun w hp => (Tryd.strconv_Itoa n h0 h1 w (tab_pin hp)).mono fun e w' ⟨he, k, os, hw⟩ => ⟨he, by rw [hw]; exact Lib.below_grow _ w (Nat.le_refl _) k os⟩).imp fun _ _ h => h.1
theorem fmtU_spec (n : Nat) (h : n < 18446744073709551616) : ACalls Tryd.prog 18 [.sc (.int .u64 n), .sc (.int .i64 10)] ⟨0, []⟩ (fun r _ => r = .sc (.string (dgs n))) :=
  (acalls_calls (us := [.int .u64 n, .int .i64 10]) (u := .string (dgs n)) (S := ⟨0, []⟩) fun w hp => (fmtUS_calls n h w (tab_pin hp)).mono fun e w' ⟨he, k, os, hw⟩ => ⟨he, by rw [hw]; exact Lib.below_grow _ w (Nat.le_refl _) k os⟩).imp fun _ _ h => h.1
theorem number_spec (n : Int) (h0 : -9223372036854775808 ≤ n) (h1 : n ≤ 9223372036854775807) : ACalls Tryd.prog 10 [.sc (.int .i64 n)] ⟨0, []⟩ (fun r _ => r = .sc (.string (num n))) := by
  refine enter1 Tryd.func10 rfl 5 0 [.tmp 2] rfl rfl rfl ?_
  repeat' (first | (refine aops_nil ?_) | (show AOps _ _ _ _ _ _; first | (show AOps _ _ _ _ (⟨some _, .move _, _, _, _, none⟩ :: _) _; first | (refine o_y (v_move (v := .sc _) rfl) rfl ?_)) | (show AOps _ _ _ _ (⟨some _, .assign _, _, _, _, none⟩ :: _) _; first | (refine o_y (v_assign (v := .sc _) rfl) rfl ?_)) | (show AOps _ _ _ _ (⟨some _, .call ⟨.value (.func 22), _, _⟩, _, _, _, none⟩ :: _) _; first | (refine o_q (q_call (itoa_spec n h0 h1)) rfl ?_))) | (show IW _ _ _ _ _; first | (refine awp_seq ?_) | (refine awp_region ?_) | (refine awp_ret ?_)))
  exact ret1 [] (by decide) rfl rfl
theorem digs_lt {n : Nat} (h : n < 10) : n + 1 ≤ (⟨#[48, 49, 50, 51, 52, 53, 54, 55, 56, 57]⟩ : ByteArray).size := by
  show n + 1 ≤ 10
  omega
theorem natural_spec : ∀ (m n : Nat), n ≤ m → n < 18446744073709551616 → ACalls Tryd.prog 21 [.sc (.int .u64 n)] ⟨0, []⟩ (fun r _ => r = .sc (.string (dgs n)))
  | m, n, hm, h => by
    have z : (⟨#[48, 49, 50, 51, 52, 53, 54, 55, 56, 57]⟩ : ByteArray).size = 10 := rfl
    by_cases h10 : n < 10
    · refine enter1 Tryd.func21 rfl 19 0 [.tmp 2] rfl rfl rfl ?_
      repeat' (first | (show AWP _ _ (.region 3 _ true) _ _; refine awp_draw 11 (by kernel_rfl) ?_) | (refine aops_nil ?_) | (show AOps _ _ _ _ _ _; first | (show AOps _ _ _ _ (⟨some _, .binOp .add _ _ _ _, _, _, _, none⟩ :: _) _; first | (refine o_y (u_add rfl rfl (by omega) (by omega)) rfl ?_)) | (show AOps _ _ _ _ (⟨some _, .move _, _, _, _, none⟩ :: _) _; first | (refine o_y (v_move (v := .sc _) rfl) rfl ?_)) | (show AOps _ _ _ _ (⟨some _, .assign _, _, _, _, none⟩ :: _) _; first | (refine o_y (v_assign (v := .sc _) rfl) rfl ?_)) | (show AOps _ _ _ _ (⟨some _, .binOp .add _ _ _ _, _, _, _, none⟩ :: _) _; first | (refine o_y (y_bin rfl rfl rfl) rfl ?_)) | (show AOps _ _ _ _ (⟨some _, .binOp _ _ _ _ _, _, _, _, none⟩ :: _) _; first | (refine o_y (y_bin rfl rfl rfl) rfl ?_)) | (show AOps _ _ _ _ (⟨some _, .slice _ _ _ _ _, _, _, _, none⟩ :: _) _; first | (refine o_y (y_sliceS rfl rfl rfl (by omega) (by omega) (by omega)) rfl ?_))) | (show AQuiet _ _ _ _ _ _; first | (show AQuiet _ _ _ (⟨some _, .binOp .quo _ _ _ _, _, _, _, none⟩ :: _) _ _; first | (refine q_y (u_quo rfl rfl (by omega) (by omega) (by omega)) rfl ?_)) | (show AQuiet _ _ _ (⟨some _, .move _, _, _, _, none⟩ :: _) _ _; first | (refine q_y (v_move (v := .sc _) rfl) rfl ?_))) | (show IW _ _ _ _ _; first | (refine awp_seq ?_) | (refine awp_region ?_) | (refine awp_ret ?_) | (refine awp_skip ?_) | (refine awp_if rfl (fun h hp => ?_) (fun h hp => ?_))) | (show thenQ _ _ _ _; first | (refine k_r ?_)))
      all_goals first
        | (exfalso; omega)
        | exact ret1 [] (by decide) rfl (congrArg (fun x => AV.sc (.string x)) (dgs_small h10).symm)
        | trace_state
    · cases m with
      | zero => omega
      | succ m =>
        have ih := natural_spec m (n / 10) (by omega) (by omega)
        have hz := dgs_size (n := n / 10) (by omega)
        have he : ((⟨#[48, 49, 50, 51, 52, 53, 54, 55, 56, 57]⟩ : ByteArray).extract (Int.toNat ((n : Int) % 10)) (Int.toNat ((n : Int) % 10 + 1))).size ≤ 10 := by
          rw [ByteArray.size_extract]
          show min _ 10 - _ ≤ 10
          omega
        refine enter1 Tryd.func21 rfl 19 0 [.tmp 2] rfl rfl rfl ?_
        repeat' (first | (show AWP _ _ (.region 3 _ true) _ _; refine awp_draw 11 (by kernel_rfl) ?_) | (refine aops_nil ?_) | (show AOps _ _ _ _ _ _; first | (show AOps _ _ _ _ (⟨some _, .binOp .add _ _ _ _, _, _, _, none⟩ :: _) _; first | (refine o_y (u_add rfl rfl (by omega) (by omega)) rfl ?_)) | (show AOps _ _ _ _ (⟨some _, .move _, _, _, _, none⟩ :: _) _; first | (refine o_y (v_move (v := .sc _) rfl) rfl ?_)) | (show AOps _ _ _ _ (⟨some _, .assign _, _, _, _, none⟩ :: _) _; first | (refine o_y (v_assign (v := .sc _) rfl) rfl ?_)) | (show AOps _ _ _ _ (⟨some _, .binOp .add _ _ _ _, _, _, _, none⟩ :: _) _; first | (refine o_y (y_bin rfl rfl rfl) rfl ?_)) | (show AOps _ _ _ _ (⟨some _, .binOp _ _ _ _ _, _, _, _, none⟩ :: _) _; first | (refine o_y (y_bin rfl rfl rfl) rfl ?_)) | (show AOps _ _ _ _ (⟨some _, .slice _ _ _ _ _, _, _, _, none⟩ :: _) _; first | (refine o_y (y_sliceS rfl rfl rfl (by omega) (by omega) (by omega)) rfl ?_))) | (refine aq_nil ?_) | (show AQuiet _ _ _ _ _ _; first | (show AQuiet _ _ _ (⟨some _, .binOp .add _ _ _ _, _, _, _, none⟩ :: _) _ _; first | (refine q_y (u_add rfl rfl (by omega) (by omega)) rfl ?_)) | (show AQuiet _ _ _ (⟨some _, .binOp .quo _ _ _ _, _, _, _, none⟩ :: _) _ _; first | (refine q_y (u_quo rfl rfl (by omega) (by omega) (by omega)) rfl ?_)) | (show AQuiet _ _ _ (⟨some _, .move _, _, _, _, none⟩ :: _) _ _; first | (refine q_y (v_move (v := .sc _) rfl) rfl ?_)) | (show AQuiet _ _ _ (⟨some _, .assign _, _, _, _, none⟩ :: _) _ _; first | (refine q_y (v_assign (v := .sc _) rfl) rfl ?_)) | (show AQuiet _ _ _ (⟨some _, .binOp .add _ _ _ _, _, _, _, none⟩ :: _) _ _; first | (refine q_y (y_cat rfl rfl (by omega)) rfl ?_)) | (show AQuiet _ _ _ (⟨some _, .binOp .rem _ _ _ _, _, _, _, none⟩ :: _) _ _; first | (refine q_y (z_rem rfl rfl (by omega) (by omega)) rfl ?_)) | (show AQuiet _ _ _ (⟨some _, .slice _ _ _ _ _, _, _, _, none⟩ :: _) _ _; first | (refine q_y (y_sliceS rfl rfl rfl (by omega) (by omega) (by omega)) rfl ?_)) | (show AQuiet _ _ _ (⟨some _, .call ⟨.value (.func 21), _, _⟩, _, _, _, none⟩ :: _) _ _; first | (refine q_c (q_call (ih)) rfl ?_))) | (show IW _ _ _ _ _; first | (refine awp_seq ?_) | (refine awp_region ?_) | (refine awp_ret ?_) | (refine awp_skip ?_) | (refine awp_if rfl (fun h hp => ?_) (fun h hp => ?_))) | (show thenQ _ _ _ _; first | (refine k_r ?_)))
        all_goals first
          | (exfalso; omega)
          | exact ret1 [] (by decide) rfl (congrArg (fun x => AV.sc (.string x)) (dgs_big h10).symm)
          | trace_state
theorem numberR_spec (n : Int) (h0 : -9223372036854775808 ≤ n) (h1 : n ≤ 9223372036854775807) : ACalls Tryd.prog 11 [.sc (.int .i64 n)] ⟨0, []⟩ (fun r _ => r = .sc (.string (num n))) := by
  by_cases hn : n < 0
  · obtain ⟨u, rfl⟩ : ∃ u : Nat, n = -(u : Int) := ⟨n.natAbs, by omega⟩
    have hu : 1 ≤ u := by omega
    have sn := natural_spec u u (Nat.le_refl _) (by omega)
    have hz := dgs_size (n := u) (by omega)
    have z1 : (⟨#[45]⟩ : ByteArray).size = 1 := rfl
    have sn2 : ACalls Tryd.prog 21 [.sc (.int .u64 (0 - (-(u : Int) + 1) + 1))] ⟨0, []⟩ (fun r _ => r = .sc (.string (dgs u))) := by rw [show 0 - (-(u : Int) + 1) + 1 = (u : Int) from by omega]; exact sn
    refine enter1 Tryd.func11 rfl 15 0 [.tmp 2] rfl rfl rfl ?_
    repeat' (first | (refine aops_nil ?_) | (show AOps _ _ _ _ _ _; first | (show AOps _ _ _ _ (⟨some _, .unOp .neg _ _, _, _, _, none⟩ :: _) _; first | (refine o_y (z_neg rfl (by omega) (by omega)) rfl ?_)) | (show AOps _ _ _ _ (⟨some _, .binOp .add _ _ _ _, _, _, _, none⟩ :: _) _; first | (refine o_y (u_add rfl rfl (by omega) (by omega)) rfl ?_)) | (show AOps _ _ _ _ (⟨some _, .move _, _, _, _, none⟩ :: _) _; first | (refine o_y (v_move (v := .sc _) rfl) rfl ?_)) | (show AOps _ _ _ _ (⟨some _, .assign _, _, _, _, none⟩ :: _) _; first | (refine o_y (v_assign (v := .sc _) rfl) rfl ?_)) | (show AOps _ _ _ _ (⟨some _, .binOp .add _ _ _ _, _, _, _, none⟩ :: _) _; first | (refine o_y (z_add rfl rfl (by omega) (by omega)) rfl ?_) | (refine o_y (y_cat rfl rfl (by omega)) rfl ?_) | (refine o_y (y_bin rfl rfl rfl) rfl ?_)) | (show AOps _ _ _ _ (⟨some _, .binOp _ _ _ _ _, _, _, _, none⟩ :: _) _; first | (refine o_y (y_bin rfl rfl rfl) rfl ?_)) | (show AOps _ _ _ _ (⟨some _, .convert _ _ _, _, _, _, none⟩ :: _) _; first | (refine o_y (z_convu64 rfl (by omega) (by omega)) rfl ?_)) | (show AOps _ _ _ _ (⟨some _, .call ⟨.value (.func 21), _, _⟩, _, _, _, none⟩ :: _) _; first | (refine o_q (q_call (sn2)) rfl ?_))) | (show IW _ _ _ _ _; first | (refine awp_seq ?_) | (refine awp_region ?_) | (refine awp_ret ?_) | (refine awp_skip ?_) | (refine awp_if rfl (fun h hp => ?_) (fun h hp => ?_))) | (show thenQ _ _ _ _; first | (refine k_r ?_)))
    all_goals first
      | (exfalso; omega)
      | exact ret1 [] (by decide) rfl (congrArg (fun x => AV.sc (.string x)) (num_neg hu).symm)
      | trace_state
  · obtain ⟨u, rfl⟩ : ∃ u : Nat, n = u := ⟨n.toNat, by omega⟩
    have sn := natural_spec u u (Nat.le_refl _) (by omega)
    rw [num_nat]
    refine enter1 Tryd.func11 rfl 15 0 [.tmp 2] rfl rfl rfl ?_
    repeat' (first | (refine aops_nil ?_) | (show AOps _ _ _ _ _ _; first | (show AOps _ _ _ _ (⟨some _, .move _, _, _, _, none⟩ :: _) _; first | (refine o_y (v_move (v := .sc _) rfl) rfl ?_)) | (show AOps _ _ _ _ (⟨some _, .assign _, _, _, _, none⟩ :: _) _; first | (refine o_y (v_assign (v := .sc _) rfl) rfl ?_)) | (show AOps _ _ _ _ (⟨some _, .binOp .add _ _ _ _, _, _, _, none⟩ :: _) _; first | (refine o_y (y_bin rfl rfl rfl) rfl ?_)) | (show AOps _ _ _ _ (⟨some _, .binOp _ _ _ _ _, _, _, _, none⟩ :: _) _; first | (refine o_y (y_bin rfl rfl rfl) rfl ?_)) | (show AOps _ _ _ _ (⟨some _, .convert _ _ _, _, _, _, none⟩ :: _) _; first | (refine o_y (z_convu64 rfl (by omega) (by omega)) rfl ?_)) | (show AOps _ _ _ _ (⟨some _, .call ⟨.value (.func 21), _, _⟩, _, _, _, none⟩ :: _) _; first | (refine o_q (q_call (sn)) rfl ?_))) | (show IW _ _ _ _ _; first | (refine awp_seq ?_) | (refine awp_region ?_) | (refine awp_ret ?_) | (refine awp_skip ?_) | (refine awp_if_f rfl (by first | rfl | assumption) ?_)))
    all_goals first
      | (exfalso; omega)
      | exact ret1 [] (by decide) rfl rfl
      | trace_state
end Go.Proofs.YtdcnpkbflelpfaaDoor.Sx
