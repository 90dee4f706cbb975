/- Statuses; rows of variables compared and taken over; what is told may be written. All that is told may be written; the law, walked. -/
import Derived.Test.YtdcnpkbflelpfaaDoorW
import Derived.Test.YtdcnpkbflelpfaaDoorI
namespace Go.Proofs.YtdcnpkbflelpfaaDoor.Sx
open Go Go.RowKit
section
variable {P : Program} {N : Sg} {σ : St} {d : Option Tmp} {ty : TypeId} {pos : String} {af : Array Edge} {gd : Option (Nat × Bool)} {xt yt : TypeId} {x y : Operand} {m f : Int}
theorem mask3_eq (m : Int) : IntKind.i64.wrap (((BitVec.ofInt IntKind.i64.bits m &&& BitVec.ofInt IntKind.i64.bits 3).toNat : Nat) : Int) = m % 4 := by
  have e : (BitVec.ofInt IntKind.i64.bits m &&& BitVec.ofInt IntKind.i64.bits 3).toNat = (m % 18446744073709551616).toNat % 4 := by
    rw [BitVec.toNat_and, BitVec.toNat_ofInt, BitVec.toNat_ofInt]
    show (m % 18446744073709551616).toNat &&& 3 = _
    exact Nat.and_two_pow_sub_one_eq_mod _ 2
  rw [e, IntKind.wrap_i64]
  omega
theorem z_mask3 (hx : σ.ev x = .sc (.int .i64 m)) (hy : σ.ev y = .sc (.int .i64 3)) : Yld P N ⟨d, .binOp .and xt x y yt, ty, pos, af, gd⟩ σ (.sc (.int .i64 (m % 4))) :=
  y_bin hx hy (by rw [← mask3_eq m]; rfl)
theorem or_nat {a b c : Nat} (h : a ||| b = c) (ha : a < 9223372036854775808) (hb : b < 9223372036854775808) (hc : c < 9223372036854775808) : IntKind.i64.wrap (((BitVec.ofInt IntKind.i64.bits (a : Int) ||| BitVec.ofInt IntKind.i64.bits (b : Int)).toNat : Nat) : Int) = c := by
  have e : (BitVec.ofInt IntKind.i64.bits (a : Int) ||| BitVec.ofInt IntKind.i64.bits (b : Int)).toNat = c := by
    rw [BitVec.toNat_or, BitVec.toNat_ofInt, BitVec.toNat_ofInt]
    show ((a : Int) % 18446744073709551616).toNat ||| ((b : Int) % 18446744073709551616).toNat = _
    rw [show ((a : Int) % 18446744073709551616).toNat = a by omega, show ((b : Int) % 18446744073709551616).toNat = b by omega, h]
  rw [e, wrap_i64 (by omega) (by omega)]
theorem or_disj (e c : Nat) (hc : 2 ^ e = c) {a b : Nat} (ha : a % c = 0) (hb : b < c) : a ||| b = a + b := by
  subst hc
  obtain ⟨k, rfl⟩ : ∃ k, a = k * 2 ^ e := ⟨a / 2 ^ e, by have := Nat.div_add_mod a (2 ^ e); rw [ha, Nat.add_zero, Nat.mul_comm] at this; exact this.symm⟩
  rw [← Nat.shiftLeft_eq, ← Nat.shiftLeft_add_eq_or_of_lt hb]
theorem or_1536 : ∀ h, h < 4 → ∀ l, l < 256 → (h * 16384 + l) ||| 1536 = h * 16384 + l + 1536 := by decide +kernel
theorem z_orC (e c : Nat) (hc : 2 ^ e = c) (hx : σ.ev x = .sc (.int .i64 m)) (hy : σ.ev y = .sc (.int .i64 f)) (h0 : 0 ≤ m) (h1 : m ≤ 1073741824) (h2 : m % c = 0) (h3 : 0 ≤ f) (h4 : f < c) (h5 : f ≤ 1073741824) : Yld P N ⟨d, .binOp .or xt x y yt, ty, pos, af, gd⟩ σ (.sc (.int .i64 (m + f))) := by
  obtain ⟨a, rfl⟩ : ∃ a : Nat, m = a := ⟨m.toNat, by omega⟩
  obtain ⟨b, rfl⟩ : ∃ b : Nat, f = b := ⟨f.toNat, by omega⟩
  have h := or_disj e c hc (a := a) (b := b) (by omega) (by omega)
  exact y_bin hx hy (by rw [← Int.natCast_add, ← or_nat h (by omega) (by omega) (by omega)]; rfl)
theorem z_or1536 (hx : σ.ev x = .sc (.int .i64 m)) (hy : σ.ev y = .sc (.int .i64 1536)) (h0 : 0 ≤ m) (h1 : m < 65536) (h2 : m % 16384 < 256) : Yld P N ⟨d, .binOp .or xt x y yt, ty, pos, af, gd⟩ σ (.sc (.int .i64 (m + 1536))) := by
  obtain ⟨a, rfl⟩ : ∃ a : Nat, m = a := ⟨m.toNat, by omega⟩
  have h := or_1536 (a / 16384) (by omega) (a % 16384) (by omega)
  rw [show a / 16384 * 16384 + a % 16384 = a by omega] at h
  exact y_bin hx hy (by rw [show (a : Int) + 1536 = ((a + 1536 : Nat) : Int) by omega, ← or_nat h (by omega) (by omega) (by omega)]; rfl)
end
attribute [local irreducible] IW AOps AQuiet GQ GY AExec QY Yld ACalls ACallsD
def cl15 (n : Int) : Int := max 0 (min n 15)
def sst (x : S27) (ev code : Int) : Int := x.f0 % 4 * 16384 + cl15 ev * 16 + cl15 code + (if x.f9 > 0 then 1536 else 0)
def pst (re : Int) (sy su : Bool) : Int := 32768 + (if re = 0 then 0 else 4096) + (if sy then 1536 else if su then 1024 else 0)
theorem cl15_bd (n : Int) : 0 ≤ cl15 n ∧ cl15 n ≤ 15 := by unfold cl15; omega
theorem cl15_mm (n : Int) : min (max n 0) 15 = cl15 n := by unfold cl15; omega
theorem cut_spec (n lo hi : Int) : ACalls Tryd.prog 23 [.sc (.int .i64 n), .sc (.int .i64 lo), .sc (.int .i64 hi)] ⟨0, []⟩ (fun r _ => r = .sc (.int .i64 (max lo (min n hi)))) := by
  refine enter3 Tryd.func23 rfl 12 0 [.tmp 6] rfl rfl rfl ?_
  repeat' (first | (refine aops_nil ?_) | (show AOps _ _ _ _ _ _; first | (show AOps _ _ _ _ (⟨some _, .move _, _, _, _, none⟩ :: _) _; first | (refine o_y (v_move (v := .sc _) rfl) rfl ?_)) | (show AOps _ _ _ _ (⟨some _, .assign _, _, _, _, none⟩ :: _) _; first | (refine o_y (v_assign (v := .sc _) rfl) rfl ?_)) | (show AOps _ _ _ _ (⟨some _, .call ⟨.builtin .max, _, _⟩, _, _, _, none⟩ :: _) _; first | (refine o_y (y_max2 rfl rfl) rfl ?_)) | (show AOps _ _ _ _ (⟨some _, .call ⟨.builtin .min, _, _⟩, _, _, _, none⟩ :: _) _; first | (refine o_y (y_min2 rfl rfl) rfl ?_))) | (show IW _ _ _ _ _; first | (refine awp_seq ?_) | (refine awp_region ?_) | (refine awp_ret ?_)))
  exact ret1 [] (by decide) rfl rfl
theorem sst_spec (x : S27) (hx : x.ok) (ev code : Int) : ACalls Tryd.prog 12 [.agg x.cs, .sc (.int .i64 ev), .sc (.int .i64 code)] ⟨0, []⟩ (fun r _ => r = .sc (.int .i64 (sst x ev code))) := by
  have c1 := cl15_bd ev
  have c2 := cl15_bd code
  rw [← cl15_mm ev] at c1
  rw [← cl15_mm code] at c2
  have l0 := Int.emod_nonneg x.f0 (b := 4) (by decide)
  have l1 := Int.emod_lt_of_pos x.f0 (b := 4) (by decide)
  refine enter3 Tryd.func12 rfl 27 0 [.tmp 6] rfl rfl rfl ?_
  repeat' (first | (refine aops_nil ?_) | (show AOps _ _ _ _ _ _; first | (show AOps _ _ _ _ (⟨some _, .binOp .and _ _ _ _, _, _, _, none⟩ :: _) _; first | (refine o_y (z_mask3 rfl rfl) rfl ?_)) | (show AOps _ _ _ _ (⟨some _, .binOp .shl _ _ _ _, _, _, _, none⟩ :: _) _; first | (refine o_y (z_shlC 16384 rfl rfl (by decide) (by decide) (by omega) (by omega)) rfl ?_)) | (show AOps _ _ _ _ (⟨some _, .binOp .shl _ _ _ _, _, _, _, none⟩ :: _) _; first | (refine o_y (z_shlC 16 rfl rfl (by decide) (by decide) (by omega) (by omega)) rfl ?_)) | (show AOps _ _ _ _ (⟨some _, .binOp .or _ _ _ _, _, _, _, none⟩ :: _) _; first | (refine o_y (z_orC 14 16384 (by decide) rfl rfl (by omega) (by omega) (by omega) (by omega) (by omega) (by omega)) rfl ?_)) | (show AOps _ _ _ _ (⟨some _, .binOp .or _ _ _ _, _, _, _, none⟩ :: _) _; first | (refine o_y (z_or1536 rfl rfl (by omega) (by omega) (by omega)) rfl ?_)) | (show AOps _ _ _ _ (⟨some _, .binOp .or _ _ _ _, _, _, _, none⟩ :: _) _; first | (refine o_y (z_orC 4 16 (by decide) rfl rfl (by omega) (by omega) (by omega) (by omega) (by omega) (by omega)) rfl ?_)) | (show AOps _ _ _ _ (⟨some _, .move _, _, _, _, none⟩ :: _) _; first | (refine o_y (v_move (v := .sc _) rfl) rfl ?_)) | (show AOps _ _ _ _ (⟨some _, .load _ _, _, _, _, none⟩ :: _) _; first | (refine o_y (y_load1 (v := .sc _) rfl rfl rfl) rfl ?_)) | (show AOps _ _ _ _ (⟨some _, .fieldAddr _ _ _, _, _, _, none⟩ :: _) _; first | (refine o_y (y_fld_ptr rfl rfl) rfl ?_)) | (show AOps _ _ _ _ (⟨some _, .assign _, _, _, _, none⟩ :: _) _; first | (refine o_y (v_assign (v := .sc _) rfl) rfl ?_)) | (show AOps _ _ _ _ (⟨some _, .binOp .and _ _ _ _, _, _, _, none⟩ :: _) _; first | (refine o_y (y_bin rfl rfl rfl) rfl ?_)) | (show AOps _ _ _ _ (⟨some _, .binOp _ _ _ _ _, _, _, _, none⟩ :: _) _; first | (refine o_y (y_bin rfl rfl rfl) rfl ?_)) | (show AOps _ _ _ _ (⟨some _, .call ⟨.builtin .max, _, _⟩, _, _, _, none⟩ :: _) _; first | (refine o_y (y_max2 rfl rfl) rfl ?_)) | (show AOps _ _ _ _ (⟨some _, .call ⟨.builtin .min, _, _⟩, _, _, _, none⟩ :: _) _; first | (refine o_y (y_min2 rfl rfl) rfl ?_)) | (show AOps _ _ _ _ (⟨_, .box _ _, _, _, _, none⟩ :: _) _; first | (refine o_x (b_agg rfl rfl rfl ?_)))) | (show IW _ _ _ _ _; first | (refine awp_seq ?_) | (refine awp_region ?_) | (refine awp_ret ?_) | (refine awp_skip ?_) | (refine awp_if rfl (fun h hp => ?_) (fun h hp => ?_))))
  all_goals first
    | exact ret1 [] (by decide) rfl (congrArg (fun z => AV.sc (.int .i64 z)) (by unfold sst; rw [cl15_mm, cl15_mm]; first | rw [if_pos (by assumption)] | rw [if_neg (by assumption), Int.add_zero]))
    | trace_state
theorem sstR_spec (x : S27) (hx : x.ok) (ev code : Int) : ACalls Tryd.prog 13 [.agg x.cs, .sc (.int .i64 ev), .sc (.int .i64 code)] ⟨0, []⟩ (fun r _ => r = .sc (.int .i64 (sst x ev code))) := by
  have c1 := cl15_bd ev
  have c2 := cl15_bd code
  have l0 := Int.emod_nonneg x.f0 (b := 4) (by decide)
  have l1 := Int.emod_lt_of_pos x.f0 (b := 4) (by decide)
  have k1 : ACalls Tryd.prog 23 [.sc (.int .i64 ev), .sc (.int .i64 0), .sc (.int .i64 15)] ⟨0, []⟩ (fun r _ => r = .sc (.int .i64 (cl15 ev))) := cut_spec ev 0 15
  have k2 : ACalls Tryd.prog 23 [.sc (.int .i64 code), .sc (.int .i64 0), .sc (.int .i64 15)] ⟨0, []⟩ (fun r _ => r = .sc (.int .i64 (cl15 code))) := cut_spec code 0 15
  refine enter3 Tryd.func13 rfl 25 0 [.tmp 6] rfl rfl rfl ?_
  repeat' (first | (show AWP _ _ (.region 1 _ true) _ _; refine awp_draw 12 (by kernel_rfl) ?_) | (refine aops_nil ?_) | (show AOps _ _ _ _ _ _; first | (show AOps _ _ _ _ (⟨some _, .move _, _, _, _, none⟩ :: _) _; first | (refine o_y (v_move (v := .sc _) rfl) rfl ?_)) | (show AOps _ _ _ _ (⟨some _, .load _ _, _, _, _, none⟩ :: _) _; first | (refine o_y (y_load1 (v := .sc _) rfl rfl rfl) rfl ?_)) | (show AOps _ _ _ _ (⟨some _, .fieldAddr _ _ _, _, _, _, none⟩ :: _) _; first | (refine o_y (y_fld_ptr rfl rfl) rfl ?_)) | (show AOps _ _ _ _ (⟨some _, .assign _, _, _, _, none⟩ :: _) _; first | (refine o_y (v_assign (v := .sc _) rfl) rfl ?_)) | (show AOps _ _ _ _ (⟨some _, .binOp .add _ _ _ _, _, _, _, none⟩ :: _) _; first | (refine o_y (z_add rfl rfl (by omega) (by omega)) rfl ?_) | (refine o_y (y_bin rfl rfl rfl) rfl ?_)) | (show AOps _ _ _ _ (⟨some _, .binOp .mul _ _ _ _, _, _, _, none⟩ :: _) _; first | (refine o_y (y_bin rfl rfl rfl) rfl ?_)) | (show AOps _ _ _ _ (⟨some _, .binOp .and _ _ _ _, _, _, _, none⟩ :: _) _; first | (refine o_y (y_bin rfl rfl rfl) rfl ?_)) | (show AOps _ _ _ _ (⟨some _, .binOp _ _ _ _ _, _, _, _, none⟩ :: _) _; first | (refine o_y (y_bin rfl rfl rfl) rfl ?_)) | (show AOps _ _ _ _ (⟨_, .box _ _, _, _, _, none⟩ :: _) _; first | (refine o_x (b_agg rfl rfl rfl ?_)))) | (refine aq_nil ?_) | (show AQuiet _ _ _ _ _ _; first | (show AQuiet _ _ _ (⟨some _, .binOp .and _ _ _ _, _, _, _, none⟩ :: _) _ _; first | (refine q_y (z_mask3 rfl rfl) rfl ?_)) | (show AQuiet _ _ _ (⟨some _, .move _, _, _, _, none⟩ :: _) _ _; first | (refine q_y (v_move (v := .sc _) rfl) rfl ?_)) | (show AQuiet _ _ _ (⟨some _, .load _ _, _, _, _, none⟩ :: _) _ _; first | (refine q_y (y_load1 (v := .sc _) rfl rfl rfl) rfl ?_)) | (show AQuiet _ _ _ (⟨some _, .fieldAddr _ _ _, _, _, _, none⟩ :: _) _ _; first | (refine q_y (y_fld_ptr rfl rfl) rfl ?_)) | (show AQuiet _ _ _ (⟨some _, .assign _, _, _, _, none⟩ :: _) _ _; first | (refine q_y (v_assign (v := .sc _) rfl) rfl ?_)) | (show AQuiet _ _ _ (⟨some _, .binOp .add _ _ _ _, _, _, _, none⟩ :: _) _ _; first | (refine q_y (z_add rfl rfl (by omega) (by omega)) rfl ?_)) | (show AQuiet _ _ _ (⟨some _, .binOp .mul _ _ _ _, _, _, _, none⟩ :: _) _ _; first | (refine q_y (z_mul rfl rfl (by omega) (by omega)) rfl ?_)) | (show AQuiet _ _ _ (⟨some _, .call ⟨.value (.func 23), _, _⟩, _, _, _, none⟩ :: _) _ _; first | (refine q_c (q_call (k1)) rfl ?_)) | (show AQuiet _ _ _ (⟨some _, .call ⟨.value (.func 23), _, _⟩, _, _, _, none⟩ :: _) _ _; first | (refine q_c (q_call (k2)) rfl ?_))) | (show IW _ _ _ _ _; first | (refine awp_seq ?_) | (refine awp_region ?_) | (refine awp_ret ?_) | (refine awp_skip ?_) | (refine awp_if rfl (fun h hp => ?_) (fun h hp => ?_))))
  all_goals first
    | exact ret1 [] (by decide) rfl (congrArg (fun z => AV.sc (.int .i64 z)) (by unfold sst; first | rw [if_pos (by assumption)] | rw [if_neg (by assumption), Int.add_zero]))
    | trace_state
theorem pst_spec (re : Int) (sy su : Bool) : ACalls Tryd.prog 14 [.sc (.int .i64 re), .sc (.bool sy), .sc (.bool su)] ⟨0, []⟩ (fun r _ => r = .sc (.int .i64 (pst re sy su))) := by
  cases sy <;> cases su
  all_goals
    refine enter3 Tryd.func14 rfl 21 0 [.tmp 6] rfl rfl rfl ?_
    repeat' (first | (refine aops_nil ?_) | (show AOps _ _ _ _ _ _; first | (show AOps _ _ _ _ (⟨some _, .move _, _, _, _, none⟩ :: _) _; first | (refine o_y (v_move (v := .sc _) rfl) rfl ?_)) | (show AOps _ _ _ _ (⟨some _, .assign _, _, _, _, none⟩ :: _) _; first | (refine o_y (v_assign (v := .sc _) rfl) rfl ?_)) | (show AOps _ _ _ _ (⟨some _, .binOp _ _ _ _ _, _, _, _, none⟩ :: _) _; first | (refine o_y (y_bin rfl rfl rfl) rfl ?_))) | (show IW _ _ _ _ _; first | (refine awp_seq ?_) | (refine awp_region ?_) | (refine awp_block ?_) | (refine awp_ret ?_) | (refine awp_skip ?_) | (refine awp_if_t rfl (by first | rfl | assumption | exact beq_self_eq_true _ | exact decide_eq_true rfl) ?_) | (refine awp_if_f rfl (by first | rfl | assumption) ?_) | (refine awp_if rfl (fun h hp => ?_) (fun h hp => ?_))))
  all_goals first
    | exact ret1 [] (by decide) rfl (congrArg (fun z => AV.sc (.int .i64 z)) (by unfold pst; first | (rw [if_neg (by assumption)]; decide +kernel) | (rw [if_pos (Decidable.not_not.1 (by assumption))]; decide +kernel)))
    | trace_state
theorem pstR_spec (re : Int) (sy su : Bool) : ACalls Tryd.prog 15 [.sc (.int .i64 re), .sc (.bool sy), .sc (.bool su)] ⟨0, []⟩ (fun r _ => r = .sc (.int .i64 (pst re sy su))) := by
  cases sy <;> cases su
  all_goals
    refine enter3 Tryd.func15 rfl 19 0 [.tmp 6] rfl rfl rfl ?_
    repeat' (first | (refine aops_nil ?_) | (show AOps _ _ _ _ _ _; first | (show AOps _ _ _ _ (⟨some _, .move _, _, _, _, none⟩ :: _) _; first | (refine o_y (v_move (v := .sc _) rfl) rfl ?_)) | (show AOps _ _ _ _ (⟨some _, .assign _, _, _, _, none⟩ :: _) _; first | (refine o_y (v_assign (v := .sc _) rfl) rfl ?_)) | (show AOps _ _ _ _ (⟨some _, .binOp .add _ _ _ _, _, _, _, none⟩ :: _) _; first | (refine o_y (z_add rfl rfl (by omega) (by omega)) rfl ?_) | (refine o_y (y_bin rfl rfl rfl) rfl ?_)) | (show AOps _ _ _ _ (⟨some _, .binOp _ _ _ _ _, _, _, _, none⟩ :: _) _; first | (refine o_y (y_bin rfl rfl rfl) rfl ?_))) | (show IW _ _ _ _ _; first | (refine awp_seq ?_) | (refine awp_region ?_) | (refine awp_ret ?_) | (refine awp_skip ?_) | (refine awp_if_t rfl (by first | rfl | assumption | exact beq_self_eq_true _ | exact decide_eq_true rfl) ?_) | (refine awp_if_f rfl (by first | rfl | assumption) ?_) | (refine awp_if rfl (fun h hp => ?_) (fun h hp => ?_))) | (show thenQ _ _ _ _; first | (refine k_r ?_)))
  all_goals first
    | exact ret1 [] (by decide) rfl (congrArg (fun z => AV.sc (.int .i64 z)) (by unfold pst; first | (rw [if_neg (by assumption)]; decide +kernel) | (rw [if_pos (Decidable.not_not.1 (by assumption))]; decide +kernel)))
    | trace_state
instance eq51 : Eq2S Tryd.prog 51 where
  out a b c d w := by
    rw [run_equalIn_struct w 9999 51 _ _ (by kernel_rfl) (by kernel_rfl)]
    rw [show (Tryd.prog.fieldsOf 51).toList = [{ name := "Name", type := 9, offset := 0, embedded := false, tag := "", pkgPath := "", byteOffset := 0 }, { name := "Value", type := 9, offset := 1, embedded := false, tag := "", pkgPath := "", byteOffset := 16 }] by kernel_rfl]
    have p0 : ∀ x y : ByteArray, (part 9 #[.string x, .string y] 0).run Tryd.prog w = .ok (.string x) w := fun x y => by
      simp [part, run_isAgg' (P := Tryd.prog) (t := 9) (b := false) inferInstance]
    have p1 : ∀ x y : ByteArray, (part 9 #[.string x, .string y] 1).run Tryd.prog w = .ok (.string y) w := fun x y => by
      simp [part, run_isAgg' (P := Tryd.prog) (t := 9) (b := false) inferInstance]
    have eqs : ∀ x y : ByteArray, (Op.equalIn 9999 9 (.string x) (.string y)).run Tryd.prog w = .ok (decide (x = y)) w := fun x y => by
      rw [← toList_eq_iff]
      exact run_equalIn_string w 9998 9 x y Tryd.underlying9
    simp only [Op.eqFields, ne_eq, String.reduceEq, not_false_eq_true, if_true, Sem.run_bind, p0, p1, Result.andThen_ok, eqs]
    by_cases h1 : a = c <;> by_cases h2 : b = d <;> simp [h1, h2, p1, eqs]
  gd := by kernel_rfl
set_option maxHeartbeats 4000000 in
theorem sameVars_spec (l m : List Pr) (hl : l.length ≤ 9223372036854775807) (hm : m.length ≤ 9223372036854775807) : ACalls Tryd.prog 6 [.vsl (prs l) 2 0 l.length, .vsl (prs m) 2 0 m.length] ⟨0, []⟩ (fun r _ => r = .sc (.bool (decide (l = m)))) := by
  refine enter2 Tryd.func6 rfl 26 0 [.tmp 4] rfl rfl rfl ?_
  repeat' (first | (refine aops_nil ?_) | (show AOps _ _ _ _ _ _; first | (show AOps _ _ _ _ (⟨some _, .move _, _, _, _, none⟩ :: _) _; first | (refine o_y (v_move (v := .vsl _ _ _ _) rfl) rfl ?_)) | (show AOps _ _ _ _ (⟨some _, .assign _, _, _, _, none⟩ :: _) _; first | (refine o_y (v_assign (v := .sc _) rfl) rfl ?_)) | (show AOps _ _ _ _ (⟨some _, .binOp .add _ _ _ _, _, _, _, none⟩ :: _) _; first | (refine o_y (y_bin rfl rfl rfl) rfl ?_)) | (show AOps _ _ _ _ (⟨some _, .binOp _ _ _ _ _, _, _, _, none⟩ :: _) _; first | (refine o_y (y_bin rfl rfl rfl) rfl ?_)) | (show AOps _ _ _ _ (⟨some _, .call ⟨.builtin .len, _, _⟩, _, _, _, none⟩ :: _) _; first | (refine o_y (y_lenV rfl) rfl ?_))) | (show IW _ _ _ _ _; first | (refine awp_seq ?_) | (refine awp_region ?_) | (refine awp_block ?_) | (refine awp_ret ?_) | (refine awp_skip ?_) | (refine awp_if rfl (fun h hp => ?_) (fun h hp => ?_))) | (show thenQ _ _ _ _; first | (refine k_r ?_)))
  · refine ret1 [] (by decide) rfl (congrArg (fun b => AV.sc (.bool b)) (decide_eq_false fun e => ?_).symm)
    subst e; exact absurd rfl (by assumption)
  have hlm : l.length = m.length := by omega
  refine awp_loopI (fun i : Nat => i ≤ l.length ∧ l.take i = m.take i) (fun i => l.length - i) (fun i => [(0, .vsl (prs l) 2 0 l.length), (1, .vsl (prs m) 2 0 m.length), (5, .sc (.int .i64 i))]) 0 (fun _ => []) 0 [] (by decide) rfl rfl rfl ⟨Nat.zero_le _, rfl⟩ ⟨rfl, rfl, rfl, trivial⟩ trivial ?_
  rintro i ⟨h1, h2⟩ ih
  by_cases hlt : i < l.length
  · obtain ⟨v, hv⟩ : ∃ v, l[i]? = some v := ⟨_, List.getElem?_eq_getElem hlt⟩
    obtain ⟨u, hu⟩ : ∃ u, m[i]? = some u := ⟨_, List.getElem?_eq_getElem (by omega)⟩
    have v0 : ((prs l).drop ((0 + Int.toNat i) * 2)).take 2 = [.sc (.string v.1), .sc (.string v.2)] := by rw [Nat.zero_add]; exact prs_at hv
    have v1 : ((prs m).drop ((0 + Int.toNat i) * 2)).take 2 = [.sc (.string u.1), .sc (.string u.2)] := by rw [Nat.zero_add]; exact prs_at hu
    repeat' (first | (show AWP _ _ (.region 6 _ true) _ _; refine awp_draw 9 (by kernel_rfl) ?_) | (refine aops_nil ?_) | (show AOps _ _ _ _ _ _; first | (show AOps _ _ _ _ (⟨some _, .move _, _, _, _, none⟩ :: _) _; first | (refine o_y (v_move (v := .sc _) rfl) rfl ?_) | (refine o_y (v_move (v := .vsl _ _ _ _) rfl) rfl ?_)) | (show AOps _ _ _ _ (⟨some _, .assign _, _, _, _, none⟩ :: _) _; first | (refine o_y (v_assign (v := .sc _) rfl) rfl ?_)) | (show AOps _ _ _ _ (⟨some _, .binOp .add _ _ _ _, _, _, _, none⟩ :: _) _; first | (refine o_y (z_add rfl rfl (by omega) (by omega)) rfl ?_) | (refine o_y (y_bin rfl rfl rfl) rfl ?_)) | (show AOps _ _ _ _ (⟨some _, .binOp _ _ _ _ _, _, _, _, none⟩ :: _) _; first | (refine o_y (y_bin rfl rfl rfl) rfl ?_)) | (show AOps _ _ _ _ (⟨some _, .call ⟨.builtin .len, _, _⟩, _, _, _, none⟩ :: _) _; first | (refine o_y (y_lenV rfl) rfl ?_))) | (refine aq_nil ?_) | (show AQuiet _ _ _ _ _ _; first | (show AQuiet _ _ _ (⟨some _, .move _, _, _, _, none⟩ :: _) _ _; first | (refine q_y (v_move (v := .sc _) rfl) rfl ?_) | (refine q_y (v_move (v := .vsl _ _ _ _) rfl) rfl ?_)) | (show AQuiet _ _ _ (⟨some _, .load _ _, _, _, _, none⟩ :: _) _ _; first | (refine q_y (y_vloadE rfl (by assumption) (by rfl) rfl) rfl ?_)) | (show AQuiet _ _ _ (⟨some _, .binOp _ _ _ _ _, _, _, _, none⟩ :: _) _ _; first | (refine q_y (y_ne2S rfl rfl) rfl ?_)) | (show AQuiet _ _ _ (⟨some _, .indexAddr _ _ _, _, _, _, none⟩ :: _) _ _; first | (refine q_y (y_ix_vsl rfl rfl rfl (by omega) (by omega)) rfl ?_))) | (show IW _ _ _ _ _; first | (refine awp_seq ?_) | (refine awp_region ?_) | (refine awp_block ?_) | (refine awp_exit ?_) | (refine awp_ret ?_) | (refine awp_skip ?_) | (refine awp_if rfl (fun h hp => ?_) (fun h hp => ?_))) | (show thenQ _ _ _ _; first | (refine k_n ?_) | (refine k_r ?_)) | (show blockQ _ _ _ _; first | (refine b_r ?_)))
    · refine ret1 [] (by decide) rfl (congrArg (fun b => AV.sc (.bool b)) (decide_eq_false fun e => ?_).symm)
      subst e
      rw [hv] at hu
      cases hu
      exact hp ⟨rfl, rfl⟩
    · have e : v = u := by
        obtain ⟨v1, v2⟩ := v
        obtain ⟨u1, u2⟩ := u
        have := Decidable.not_not.1 hp
        obtain ⟨rfl, rfl⟩ := this
        rfl
      refine iw_at [] (ih (i + 1) ⟨hlt, by rw [List.take_add_one, List.take_add_one, hv, hu, h2, e]⟩ (by omega)) (by decide) rfl rfl rfl ⟨rfl, rfl, rfl, trivial⟩ trivial
    · exfalso; omega
  · repeat' (first | (show AWP _ _ (.region 6 _ true) _ _; refine awp_draw 9 (by kernel_rfl) ?_) | (refine aops_nil ?_) | (show AOps _ _ _ _ _ _; first | (show AOps _ _ _ _ (⟨some _, .move _, _, _, _, none⟩ :: _) _; first | (refine o_y (v_move (v := .sc _) rfl) rfl ?_) | (refine o_y (v_move (v := .vsl _ _ _ _) rfl) rfl ?_)) | (show AOps _ _ _ _ (⟨some _, .assign _, _, _, _, none⟩ :: _) _; first | (refine o_y (v_assign (v := .sc _) rfl) rfl ?_)) | (show AOps _ _ _ _ (⟨some _, .binOp .add _ _ _ _, _, _, _, none⟩ :: _) _; first | (refine o_y (y_bin rfl rfl rfl) rfl ?_)) | (show AOps _ _ _ _ (⟨some _, .binOp _ _ _ _ _, _, _, _, none⟩ :: _) _; first | (refine o_y (y_bin rfl rfl rfl) rfl ?_)) | (show AOps _ _ _ _ (⟨some _, .call ⟨.builtin .len, _, _⟩, _, _, _, none⟩ :: _) _; first | (refine o_y (y_lenV rfl) rfl ?_))) | (show AQuiet _ _ _ _ _ _; first | (show AQuiet _ _ _ (⟨some _, .move _, _, _, _, none⟩ :: _) _ _; first | (refine q_y (v_move (v := .sc _) rfl) rfl ?_) | (refine q_y (v_move (v := .vsl _ _ _ _) rfl) rfl ?_)) | (show AQuiet _ _ _ (⟨some _, .indexAddr _ _ _, _, _, _, none⟩ :: _) _ _; first | (refine q_y (y_ix_vsl rfl rfl rfl (by omega) (by omega)) rfl ?_))) | (show IW _ _ _ _ _; first | (refine awp_seq ?_) | (refine awp_region ?_) | (refine awp_block ?_) | (refine awp_exit ?_) | (refine awp_ret ?_) | (refine awp_skip ?_) | (refine awp_if rfl (fun h hp => ?_) (fun h hp => ?_))))
    · exfalso; omega
    · refine ret1 [] (by decide) rfl (congrArg (fun b => AV.sc (.bool b)) (decide_eq_true ?_).symm)
      rwa [List.take_of_length_le (by omega), List.take_of_length_le (by omega)] at h2
theorem ours_spec (l : List Pr) (hl : l.length ≤ 4096) : ACalls Tryd.prog 7 [.vsl (prs l) 2 0 l.length] ⟨0, []⟩ (fun r _ => r = .vsl (prs l) 2 0 l.length) := by
  have pl := prs_length l
  refine enter1 Tryd.func7 rfl 20 0 [.tmp 2] rfl rfl rfl ?_
  repeat' (first | (refine aops_nil ?_) | (show AOps _ _ _ _ _ _; first | (show AOps _ _ _ _ (⟨some _, .assign _, _, _, _, none⟩ :: _) _; first | (refine o_y (v_assign (v := .sc _) rfl) rfl ?_) | (refine o_y (v_assign (v := .sl _ _ _) rfl) rfl ?_)) | (show AOps _ _ _ _ (⟨_, .buildSlice _ _ _, _, _, _, none⟩ :: _) _; first | (refine o_x (x_buildSlice (cs := []) (by rfl) (by rfl) (by rfl) (by rfl) (by rfl) (by rfl) rfl ?_)) | (refine o_x (x_buildSlice (cs := []) (by rfl) (by rfl) (by rfl) (by rfl) (by rfl) (by rfl) rfl ?_)))) | (show IW _ _ [.code (.seq _ _)] _ _; first | (show AWP _ _ (.seq (.region _ _ _) _) _ _; refine awp_seq ?_) | (show AWP _ _ (.seq (.seq _ _) _) _ _; refine awp_seq ?_)) | (show IW _ _ _ _ _; first | (refine awp_region ?_) | (refine awp_block ?_)))
  refine awp_loopI (fun i : Nat => i ≤ l.length) (fun i => l.length - i) (fun i => [(0, .vsl (prs l) 2 0 l.length), (2, .sc (.slice none 0 0)), (3, .sl 0 0 i), (4, .sc (.int .i64 i))]) 1 (fun i => [(0, some ⟨prs (l.take i), 2, 51⟩)]) 0 [0] (by decide) rfl rfl rfl (Nat.zero_le _) ⟨rfl, rfl, rfl, rfl, trivial⟩ ⟨rfl, rfl, trivial⟩ ?_
  intro i h1 ih
  have hlen : (prs (l.take i)).length = i * 2 := by rw [prs_length, List.length_take]; omega
  by_cases hi : i < l.length
  · obtain ⟨v, hv⟩ : ∃ v, l[i]? = some v := ⟨_, List.getElem?_eq_getElem hi⟩
    have v0 : ((prs l).drop ((0 + Int.toNat i) * 2)).take 2 = [.sc (.string v.1), .sc (.string v.2)] := by rw [Nat.zero_add]; exact prs_at hv
    have hn : l.take (i + 1) = l.take i ++ [v] := by rw [List.take_add_one, hv]; rfl
    have ih2 := ih (i + 1) hi (by omega)
    rw [hn] at ih2
    repeat' (first | (refine aops_nil ?_) | (show AOps _ _ _ _ _ _; first | (show AOps _ _ _ _ (⟨some _, .move _, _, _, _, none⟩ :: _) _; first | (refine o_y (v_move (v := .sc _) rfl) rfl ?_) | (refine o_y (v_move (v := .sl _ _ _) rfl) rfl ?_) | (refine o_y (v_move (v := .vsl _ _ _ _) rfl) rfl ?_)) | (show AOps _ _ _ _ (⟨some _, .load _ _, _, _, _, none⟩ :: _) _; first | (refine o_y (y_vloadE rfl (by assumption) (by rfl) rfl) rfl ?_)) | (show AOps _ _ _ _ (⟨some _, .assign _, _, _, _, none⟩ :: _) _; first | (refine o_y (v_assign (v := .sc _) rfl) rfl ?_) | (refine o_y (v_assign (v := .sl _ _ _) rfl) rfl ?_)) | (show AOps _ _ _ _ (⟨some _, .binOp .add _ _ _ _, _, _, _, none⟩ :: _) _; first | (refine o_y (z_add rfl rfl (by omega) (by omega)) rfl ?_) | (refine o_y (y_bin rfl rfl rfl) rfl ?_)) | (show AOps _ _ _ _ (⟨some _, .binOp _ _ _ _ _, _, _, _, none⟩ :: _) _; first | (refine o_y (y_bin rfl rfl rfl) rfl ?_)) | (show AOps _ _ _ _ (⟨some _, .call ⟨.builtin .len, _, _⟩, _, _, _, none⟩ :: _) _; first | (refine o_y (y_lenV rfl) rfl ?_)) | (show AOps _ _ _ _ (⟨some _, .indexAddr _ _ _, _, _, _, none⟩ :: _) _; first | (refine o_y (y_ix_vsl rfl rfl rfl (by omega) (by omega)) rfl ?_)) | (show AOps _ _ _ _ (⟨_, .buildSlice _ _ _, _, _, _, none⟩ :: _) _; first | (refine o_x (x_buildSlice (cs := [.sc (.string v.1), .sc (.string v.2)]) (by rfl) (by rfl) (by rfl) (by rfl) (by rfl) (by rfl) rfl ?_))) | (show AOps _ _ _ _ (⟨_, .call ⟨.builtin .append, _, _⟩, _, _, _, none⟩ :: _) _; first | (refine o_x (x_append (X := .sl _ _ _) rfl rfl rfl (by first | rfl | assumption | exact prs_length _ | exact strs_len1 _ | exact byts_len1 _ | exact nums_len1 _ | (simp only [byts_length, strs_length, ints_length, prs_length, List.length_append, List.length_cons, List.length_nil]; omega)) (src_sl rfl (by first | exact Nat.le_of_ble_eq_true rfl | (simp only [strs_length, byts_length]; omega)) (by first | exact take_strs _ | exact take_byts _ | rfl | exact take_bytsE _ _ (by simp only [byts_length, ints_length, List.length_append, List.length_cons, List.length_nil]; omega) | exact take_strsE _ _ (by simp only [strs_length, List.length_append, List.length_cons, List.length_nil]; omega) | (simp; done)) (by first | rfl | exact strs_one _ | exact byts_one _ | exact prs_one _)) rfl rfl (by omega) (by omega) (by first | exact prs_snoc _ _ _ | exact strs_snoc _ _ | exact byts_snoc _ _ | exact nums_snoc _ _ | exact strs_append _ _ | exact byts_append _ _ | exact byts_snoc [] _ | exact strs_snoc [] _ | exact byts_append [] _ | exact strs_append [] _ | exact byts_append _ [_, _] | rfl) (by first | exact Nat.zero_add _ | rfl) ?_)))) | (show IW _ _ _ _ _; first | (refine awp_seq ?_) | (refine awp_region ?_) | (refine awp_block ?_) | (refine awp_exit ?_) | (refine awp_ret ?_) | (refine awp_skip ?_) | (refine awp_if rfl (fun h hp => ?_) (fun h hp => ?_))) | (show thenQ _ _ _ _; first | (refine k_n ?_)))
    all_goals first
      | (exfalso; omega)
      | exact iw_at [2] ih2 (by decide) rfl rfl rfl ⟨rfl, rfl, rfl, rfl, trivial⟩ ⟨rfl, (by first | rfl | exact blk_fl rfl (prs_flat _)), trivial⟩
      | trace_state
  · obtain rfl : i = l.length := by omega
    rw [List.take_of_length_le (Nat.le_refl _)]
    repeat' (first | (refine aops_nil ?_) | (show AOps _ _ _ _ _ _; first | (show AOps _ _ _ _ (⟨some _, .move _, _, _, _, none⟩ :: _) _; first | (refine o_y (v_move (v := .sc _) rfl) rfl ?_) | (refine o_y (v_move (v := .sl _ _ _) rfl) rfl ?_) | (refine o_y (v_move (v := .vsl _ _ _ _) rfl) rfl ?_)) | (show AOps _ _ _ _ (⟨some _, .assign _, _, _, _, none⟩ :: _) _; first | (refine o_y (v_assign (v := .sl _ _ _) rfl) rfl ?_)) | (show AOps _ _ _ _ (⟨some _, .binOp .add _ _ _ _, _, _, _, none⟩ :: _) _; first | (refine o_y (y_bin rfl rfl rfl) rfl ?_)) | (show AOps _ _ _ _ (⟨some _, .binOp _ _ _ _ _, _, _, _, none⟩ :: _) _; first | (refine o_y (y_bin rfl rfl rfl) rfl ?_)) | (show AOps _ _ _ _ (⟨some _, .call ⟨.builtin .len, _, _⟩, _, _, _, none⟩ :: _) _; first | (refine o_y (y_lenV rfl) rfl ?_)) | (show AOps _ _ _ _ (⟨some _, .indexAddr _ _ _, _, _, _, none⟩ :: _) _; first | (refine o_y (y_ix_vsl rfl rfl rfl (by omega) (by omega)) rfl ?_))) | (show IW _ _ [.code (.seq _ _)] _ _; first | (show AWP _ _ (.seq (.region _ _ _) _) _ _; refine awp_seq ?_) | (show AWP _ _ (.seq (.block _ _) _) _ _; refine awp_seq ?_) | (show AWP _ _ (.seq (.seq _ _) _) _ _; refine awp_seq ?_)) | (show IW _ _ _ _ _; first | (refine awp_region ?_) | (refine awp_block ?_) | (refine awp_exit ?_) | (refine awp_skip ?_) | (refine awp_if rfl (fun h hp => ?_) (fun h hp => ?_))) | (show thenQ _ _ _ _; first | (refine k_n ?_)))
    · exfalso; omega
    · refine iw_frzS 2 0 rfl rfl (prs_flat _) (by rw [pl]; omega) ?_
      repeat' (first | (show IW _ _ _ _ _; first | (refine awp_ret ?_)))
      exact ret1 [] (by decide) rfl rfl
end Go.Proofs.YtdcnpkbflelpfaaDoor.Sx
namespace Go.Proofs.YtdcnpkbflelpfaaDoor.Sx
open Go Go.RowKit
attribute [local irreducible] IW AOps AQuiet GQ GY AExec QY Yld ACalls ACallsD
def AllP (s : ByteArray) : Prop := ∀ z ∈ ints s, plC z = true
theorem allP_app {a b : ByteArray} (ha : AllP a) (hb : AllP b) : AllP (a ++ b) := fun z hz => by
  rw [ints_append] at hz
  rcases List.mem_append.1 hz with h | h
  · exact ha z h
  · exact hb z h
theorem allP_dig : ∀ k, k < 10 → ∀ z ∈ ints ((⟨#[48, 49, 50, 51, 52, 53, 54, 55, 56, 57]⟩ : ByteArray).extract k (k + 1)), plC z = true := by decide +kernel
theorem allP_dgs : ∀ m n : Nat, n ≤ m → AllP (dgs n)
  | m, n, hm => by
    by_cases h : n < 10
    · rw [dgs_small h]
      exact allP_dig n h
    · rw [dgs_big h]
      cases m with
      | zero => omega
      | succ m => exact allP_app (allP_dgs m (n / 10) (by omega)) (allP_dig _ (Nat.mod_lt _ (by decide)))
theorem allP_num (n : Int) : AllP (num n) := by
  by_cases h : n < 0
  · obtain ⟨u, rfl⟩ : ∃ u : Nat, n = -(u : Int) := ⟨n.natAbs, by omega⟩
    rw [num_neg (by omega)]
    exact allP_app (by unfold AllP; decide +kernel) (allP_dgs u u (Nat.le_refl _))
  · obtain ⟨u, rfl⟩ : ∃ u : Nat, n = u := ⟨n.toNat, by omega⟩
    rw [num_nat]
    exact allP_dgs u u (Nat.le_refl _)
theorem dgs_one {n : Nat} (h : n < 10) : (dgs n).size = 1 := by
  rw [dgs_small h, ByteArray.size_extract]
  show min _ 10 - _ = 1
  omega
theorem dgs_up {n : Nat} (h : ¬ n < 10) : (dgs n).size = (dgs (n / 10)).size + 1 := by
  rw [dgs_big h, ByteArray.size_append, ByteArray.size_extract]
  show _ + (min _ 10 - _) = _
  omega
theorem dgs_three {n : Nat} (h : n < 1000) : (dgs n).size ≤ 3 := by
  by_cases h1 : n < 10
  · rw [dgs_one h1]; decide
  · rw [dgs_up h1]
    by_cases h2 : n / 10 < 10
    · rw [dgs_one h2]; decide
    · rw [dgs_up h2, dgs_one (by omega)]; decide
theorem num_three {n : Int} (h0 : 0 ≤ n) (h1 : n < 1000) : (num n).size ≤ 3 := by
  obtain ⟨u, rfl⟩ : ∃ u : Nat, n = u := ⟨n.toNat, by omega⟩
  rw [num_nat]
  exact dgs_three (by omega)
theorem adr_eq (a : Int) : adr a = num (a / 16777216 % 256) ++ DOT ++ num (a / 65536 % 256) ++ DOT ++ num (a / 256 % 256) ++ DOT ++ num (a / 1 % 256) := rfl
theorem allP_adr (a : Int) : AllP (adr a) := by
  have hd : AllP DOT := by unfold AllP; decide +kernel
  rw [adr_eq]
  exact allP_app (allP_app (allP_app (allP_app (allP_app (allP_app (allP_num _) hd) (allP_num _)) hd) (allP_num _)) hd) (allP_num _)
theorem adr_size (a : Int) : (adr a).size ≤ 64 := by
  have z : DOT.size = 1 := rfl
  have n1 := num_three (n := a / 16777216 % 256) (by omega) (by omega)
  have n2 := num_three (n := a / 65536 % 256) (by omega) (by omega)
  have n3 := num_three (n := a / 256 % 256) (by omega) (by omega)
  have n4 := num_three (n := a / 1 % 256) (by omega) (by omega)
  rw [adr_eq]
  simp only [ByteArray.size_append]
  omega
theorem valB_of {s : ByteArray} (h : AllP s) (hs : s.size ≤ 64) : valB s = true := by
  unfold valB
  rw [decide_eq_true hs, allB_all (fun j hj => h _ (List.mem_of_getElem? (ints_at hj)))]
  rfl
theorem good_num {k : ByteArray} (hk : nameB k = true) {n : Int} (h0 : -9223372036854775808 ≤ n) (h1 : n ≤ 9223372036854775807) : good (k, num n) = true := by
  have := num_size (n := n) h0 (by omega)
  unfold good
  rw [hk, valB_of (allP_num n) (by omega)]
  rfl
theorem good_dgs {k : ByteArray} (hk : nameB k = true) {n : Nat} (h1 : n < 18446744073709551616) : good (k, dgs n) = true := by
  have := dgs_size (n := n) h1
  unfold good
  rw [hk, valB_of (allP_dgs n n (Nat.le_refl _)) (by omega)]
  rfl
theorem good_adr {k : ByteArray} (hk : nameB k = true) (a : Int) : good (k, adr a) = true := by
  unfold good
  rw [hk, valB_of (allP_adr a) (adr_size a)]
  rfl
theorem allg_one {v : Pr} {l : List Pr} (h : good v = true) (hl : l.all good = true) : (v :: l).all good = true := by
  rw [List.all_cons, h, hl]
  rfl
theorem svars_good (x : S27) (hx : x.ok) : (svars x).all good = true := by
  obtain ⟨h0, h1, h2, h3, h4, h5, h6, h7, h8, h9, h10⟩ := hx
  unfold svars
  exact allg_one (good_num (by decide +kernel) (by omega) (by omega)) (allg_one (good_num (by decide +kernel) (by omega) (by omega)) (allg_one (good_num (by decide +kernel) (by omega) (by omega)) (allg_one (good_num (by decide +kernel) (by omega) (by omega)) (allg_one (good_num (by decide +kernel) (by omega) (by omega)) (allg_one (good_adr (by decide +kernel) _) (allg_one (good_dgs (by decide +kernel) (by omega)) (allg_one (good_num (by decide +kernel) (by omega) (by omega)) (allg_one (good_num (by decide +kernel) (by omega) (by omega)) (allg_one (good_num (by decide +kernel) (by omega) (by omega)) (allg_one (good_num (by decide +kernel) (by omega) (by omega)) (allg_one (good_num (by decide +kernel) (by omega) (by omega)) (List.all_nil))))))))))))
theorem avars_good (a : S29) (ha : a.ok) (b : S31) (hb : b.ok) (re st : Int) (hr : -9223372036854775808 ≤ re ∧ re ≤ 9223372036854775807) (hs : -9223372036854775808 ≤ st ∧ st ≤ 9223372036854775807) : (avars a b re st).all good = true := by
  unfold S29.ok at ha
  unfold S31.ok at hb
  unfold avars
  exact allg_one (good_adr (by decide +kernel) _) (allg_one (good_num (by decide +kernel) (by omega) (by omega)) (allg_one (good_num (by decide +kernel) (by omega) (by omega)) (allg_one (good_num (by decide +kernel) (by omega) (by omega)) (allg_one (good_num (by decide +kernel) (by omega) (by omega)) (allg_one (good_num (by decide +kernel) (by omega) (by omega)) (allg_one (good_num (by decide +kernel) (by omega) (by omega)) (allg_one (good_num (by decide +kernel) (by omega) (by omega)) (allg_one (good_num (by decide +kernel) (by omega) (by omega)) (allg_one (good_num (by decide +kernel) (by omega) (by omega)) (List.all_nil))))))))))
theorem sm_of {l : List Pr} (h : l.all good = true) (hl : l.length ≤ 2097152) : Sm l := ⟨hl, fun v hv => by
  have := good_sz (List.all_eq_true.1 h v hv)
  omega⟩
set_option maxRecDepth 4000 in
theorem vars_law (x : S27) (hx : x.ok) (a : S29) (ha : a.ok) (b : S31) (hb : b.ok) (n0 n1 n2 n3 : Int) (h0 : -9223372036854775808 ≤ n0 ∧ n0 ≤ 9223372036854775807) (h1 : -9223372036854775808 ≤ n1 ∧ n1 ≤ 9223372036854775807) (h2 : -9223372036854775808 ≤ n2 ∧ n2 ≤ 9223372036854775807) (f0 f1 : Bool) :
    ACalls Tryd.prog 3 [.agg x.cs, .agg a.cs, .agg b.cs, .agg [.sc (.int .i64 n0), .sc (.int .i64 n1), .sc (.int .i64 n2), .sc (.int .i64 n3)], .agg [.sc (.bool f0), .sc (.bool f1)]] ⟨0, []⟩ (fun r _ => r = .sc (.bool true)) := by
  have c4 := sysV_spec x hx
  have c5 := perV_spec a ha b hb n0 n1 h0 h1
  have c8 := sysR_spec x hx
  have c9 := perR_spec a ha b hb n0 n1 h0 h1
  have l1 : (svars x).length = 12 := rfl
  have l2 : (avars a b n0 n1).length = 10 := rfl
  have o1 := ours_spec (svars x) (by omega)
  have o2 := ours_spec (avars a b n0 n1) (by omega)
  have s1 := sameVars_spec (svars x) (svars x) (by omega) (by omega)
  have s2 := sameVars_spec (avars a b n0 n1) (avars a b n0 n1) (by omega) (by omega)
  rw [decide_eq_true rfl] at s1 s2
  have g1 := svars_good x hx
  have g2 := avars_good a ha b hb n0 n1 h0 h1
  have t1 := list_spec (svars x) (sm_of g1 (by omega))
  have t2 := list_spec (avars a b n0 n1) (sm_of g2 (by omega))
  rw [listV_ok g1] at t1
  rw [listV_ok g2] at t2
  have n10 := number_spec n2 h2.1 h2.2
  have n11 := numberR_spec n2 h2.1 h2.2
  have c12 := sst_spec x hx n2 n3
  have c13 := sstR_spec x hx n2 n3
  have c14 := pst_spec n0 f0 f1
  have c15 := pstR_spec n0 f0 f1
  refine enter5 Tryd.func3 rfl 100 0 [.tmp 10] rfl rfl rfl ?_
  repeat' (first | (refine aops_nil ?_) | (show AOps _ _ _ _ _ _; first | (show AOps _ _ _ _ (⟨some _, .load _ _, _, _, _, none⟩ :: _) _; first | (refine o_y (y_load1 (v := .sc _) rfl rfl rfl) rfl ?_) | (refine o_y (y_loadW rfl rfl rfl) rfl ?_)) | (show AOps _ _ _ _ (⟨some _, .assign _, _, _, _, none⟩ :: _) _; first | (refine o_y (v_assign (v := .sc _) rfl) rfl ?_) | (refine o_y (v_assign (v := .vsl _ _ _ _) rfl) rfl ?_)) | (show AOps _ _ _ _ (⟨some _, .indexAddr _ _ _, _, _, _, none⟩ :: _) _; first | (refine o_y (y_ix_arr rfl rfl (by omega) (by omega)) rfl ?_)) | (show AOps _ _ _ _ (⟨_, .call ⟨.value (.func 4), _, _⟩, _, _, _, none⟩ :: _) _; refine o_x (x_callX (c4) rfl (by rintro _ rfl; rfl) ?_); rintro _ rfl) | (show AOps _ _ _ _ (⟨_, .call ⟨.value (.func 5), _, _⟩, _, _, _, none⟩ :: _) _; refine o_x (x_callX (c5) rfl (by rintro _ rfl; rfl) ?_); rintro _ rfl) | (show AOps _ _ _ _ (⟨_, .box _ _, _, _, _, none⟩ :: _) _; first | (refine o_x (b_agg rfl rfl rfl ?_)))) | (show IW _ _ [.code (.seq _ _)] _ _; first | (show AWP _ _ (.seq (.seq _ _) _) _ _; refine awp_seq ?_) | (show AWP _ _ (.seq (.region 0 _ _) _) _ _; refine awp_seq ?_) | (show AWP _ _ (.seq (.region 1 _ _) _) _ _; refine awp_seq ?_) | (show AWP _ _ (.seq (.region 2 _ _) _) _ _; refine awp_seq ?_)) | (show IW _ _ _ _ _; first | (refine awp_region ?_)))
  repeat' (first | (show AWP _ _ (.region 3 _ true) _ _; refine awp_gdraw 28 [] (by kernel_rfl) ?_) | (show AWP _ _ (.region 5 _ true) _ _; refine awp_gdraw 30 [] (by kernel_rfl) ?_) | (refine aops_nil ?_) | (show AOps _ _ _ _ _ _; first | (show AOps _ _ _ _ (⟨some _, .move _, _, _, _, none⟩ :: _) _; first | (refine o_y (v_move (v := .sc _) rfl) rfl ?_) | (refine o_y (v_move (v := .vsl _ _ _ _) rfl) rfl ?_) | (refine o_y (v_move (v := .tup _) rfl) rfl ?_)) | (show AOps _ _ _ _ (⟨some _, .assign _, _, _, _, none⟩ :: _) _; first | (refine o_y (v_assign (v := .sc _) rfl) rfl ?_)) | (show AOps _ _ _ _ (⟨some _, .binOp _ _ _ _ _, _, _, _, none⟩ :: _) _; first | (refine o_y (y_bin rfl rfl rfl) rfl ?_)) | (show AOps _ _ _ _ (⟨some _, .pick _ _ _, _, _, _, none⟩ :: _) _; first | (refine o_y (v_pick_t (v := .sc _) rfl (by first | rfl | assumption | exact beq_self_eq_true _ | exact decide_eq_true rfl) rfl) rfl ?_)) | (show AOps _ _ _ _ (⟨some _, .extract _ _, _, _, _, none⟩ :: _) _; first | (refine o_y (y_extract (v := .sc _) rfl rfl) rfl ?_)) | (show AOps _ _ _ _ (⟨_, .call ⟨.value (.func 16), _, _⟩, _, _, _, none⟩ :: _) _; refine o_x (x_callX (t1) rfl (by rintro _ rfl; rfl) ?_); rintro _ rfl) | (show AOps _ _ _ _ (⟨_, .call ⟨.value (.func 16), _, _⟩, _, _, _, none⟩ :: _) _; refine o_x (x_callX (t2) rfl (by rintro _ rfl; rfl) ?_); rintro _ rfl) | (show AOps _ _ _ _ (⟨_, _, _, _, _, some (_, _)⟩ :: _) _; first | (refine o_g_t rfl rfl rfl (by first | rfl | assumption | exact beq_self_eq_true _ | exact decide_eq_true rfl) ?_))) | (refine gq_nil ?_) | (show GQ _ _ _ _ _ _ _ _ _ _ _; first | (show GQ _ _ _ _ _ _ _ (⟨some _, .move _, _, _, _, none⟩ :: _) _ _ _; first | (refine g_y (v_move (v := .sc _) rfl) rfl ?_) | (refine g_y (v_move (v := .vsl _ _ _ _) rfl) rfl ?_)) | (show GQ _ _ _ _ _ _ _ (⟨some _, .load _ _, _, _, _, none⟩ :: _) _ _ _; first | (refine g_y (y_load1 (v := .sc _) rfl rfl rfl) rfl ?_) | (refine g_y (y_loadW rfl rfl rfl) rfl ?_)) | (show GQ _ _ _ _ _ _ _ (⟨some _, .binOp _ _ _ _ _, _, _, _, none⟩ :: _) _ _ _; first | (refine g_y (y_bin rfl rfl rfl) rfl ?_) | (refine g_y (y_binS rfl rfl rfl) rfl ?_)) | (show GQ _ _ _ _ _ _ _ (⟨some _, .pick _ _ _, _, _, _, none⟩ :: _) _ _ _; first | (refine g_y (v_pick_t (v := .sc _) rfl (by first | rfl | assumption | exact beq_self_eq_true _ | exact decide_eq_true rfl) rfl) rfl ?_) | (refine g_y (v_pick_f (v := .sc _) rfl (by first | rfl | assumption) rfl) rfl ?_)) | (show GQ _ _ _ _ _ _ _ (⟨some _, .unOp _ _ _, _, _, _, none⟩ :: _) _ _ _; first | (refine g_y (y_not rfl) rfl ?_)) | (show GQ _ _ _ _ _ _ _ (⟨some _, .indexAddr _ _ _, _, _, _, none⟩ :: _) _ _ _; first | (refine g_y (y_ix_arr rfl rfl (by omega) (by omega)) rfl ?_)) | (show GQ _ _ _ _ _ _ _ (⟨some _, .call ⟨.value (.func 8), _, _⟩, _, _, _, none⟩ :: _) _ _ _; refine g_g (g_call (c8) rfl) rfl ?_) | (show GQ _ _ _ _ _ _ _ (⟨some _, .call ⟨.value (.func 9), _, _⟩, _, _, _, none⟩ :: _) _ _ _; refine g_g (g_call (c9) rfl) rfl ?_) | (show GQ _ _ _ _ _ _ _ (⟨some _, .call ⟨.value (.func 7), _, _⟩, _, _, _, none⟩ :: _) _ _ _; refine g_g (g_call (o1) rfl) rfl ?_) | (show GQ _ _ _ _ _ _ _ (⟨some _, .call ⟨.value (.func 7), _, _⟩, _, _, _, none⟩ :: _) _ _ _; refine g_g (g_call (o2) rfl) rfl ?_) | (show GQ _ _ _ _ _ _ _ (⟨some _, .call ⟨.value (.func 6), _, _⟩, _, _, _, none⟩ :: _) _ _ _; first | (refine g_c (q_call (s1)) rfl ?_)) | (show GQ _ _ _ _ _ _ _ (⟨some _, .call ⟨.value (.func 6), _, _⟩, _, _, _, none⟩ :: _) _ _ _; first | (refine g_c (q_call (s2)) rfl ?_)) | (show GQ _ _ _ _ _ _ _ (⟨some _, .call ⟨.value (.func 10), _, _⟩, _, _, _, none⟩ :: _) _ _ _; first | (refine g_c (q_call (n10)) rfl ?_)) | (show GQ _ _ _ _ _ _ _ (⟨some _, .call ⟨.value (.func 11), _, _⟩, _, _, _, none⟩ :: _) _ _ _; first | (refine g_c (q_call (n11)) rfl ?_)) | (show GQ _ _ _ _ _ _ _ (⟨some _, .call ⟨.value (.func 12), _, _⟩, _, _, _, none⟩ :: _) _ _ _; first | (refine g_c (q_call (c12)) rfl ?_)) | (show GQ _ _ _ _ _ _ _ (⟨some _, .call ⟨.value (.func 13), _, _⟩, _, _, _, none⟩ :: _) _ _ _; first | (refine g_c (q_call (c13)) rfl ?_)) | (show GQ _ _ _ _ _ _ _ (⟨some _, .call ⟨.value (.func 14), _, _⟩, _, _, _, none⟩ :: _) _ _ _; first | (refine g_c (q_call (c14)) rfl ?_)) | (show GQ _ _ _ _ _ _ _ (⟨some _, .call ⟨.value (.func 15), _, _⟩, _, _, _, none⟩ :: _) _ _ _; first | (refine g_c (q_call (c15)) rfl ?_)) | (show GQ _ _ _ _ _ _ _ (⟨_, _, _, _, _, some (_, _)⟩ :: _) _ _ _; first | (refine g_g_t rfl rfl rfl (by first | rfl | assumption | exact beq_self_eq_true _ | exact decide_eq_true rfl) ?_) | (refine g_g_f rfl rfl rfl (by first | rfl | assumption) ?_) | (refine g_un rfl rfl rfl (fun h hp => ?_) (fun h hp => ?_)))) | (show IW _ _ _ _ _; first | (refine awp_seq ?_) | (refine awp_region ?_) | (refine awp_ret ?_) | (refine awp_skip ?_) | (refine awp_if_t rfl (by first | rfl | assumption | exact beq_self_eq_true _ | exact decide_eq_true rfl) ?_) | (refine awp_if rfl (fun h hp => ?_) (fun h hp => ?_))) | (show thenQ _ _ _ _; first | (refine k_r ?_)))
  all_goals first
    | (exfalso; exact absurd rfl (by assumption))
    | exact ret1 [] (by decide) rfl rfl
    | trace_state
end Go.Proofs.YtdcnpkbflelpfaaDoor.Sx
