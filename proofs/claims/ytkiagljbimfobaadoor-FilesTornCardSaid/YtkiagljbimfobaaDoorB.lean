/- A text split at its line feeds. -/
import Derived.Test.YtkiagljbimfobaaDoorA
namespace Go.Proofs.YtkiagljbimfobaaDoor.Sx
open Go Go.RowKit
attribute [local irreducible] IW AOps AQuiet GQ GY AExec QY Yld ACalls ACallsD
/-- The pieces between the line feeds. -/
def spl (s : ByteArray) : List ByteArray := if h : nlB s < s.size then s.extract 0 (nlB s) :: spl (s.extract (nlB s + 1) s.size) else [s]
termination_by s.size
decreasing_by rw [ByteArray.size_extract]; omega
theorem spl_hit {s : ByteArray} (h : nlB s < s.size) : spl s = s.extract 0 (nlB s) :: spl (s.extract (nlB s + 1) s.size) := by rw [spl, dif_pos h]
theorem spl_miss {s : ByteArray} (h : ¬ nlB s < s.size) : spl s = [s] := by rw [spl, dif_neg h]
def cnt (s : ByteArray) : Nat := s.data.toList.count 10
theorem cnt_le (s : ByteArray) : cnt s ≤ s.size := by
  rw [← size_eq]; exact List.count_le_length
theorem count_idx (l : List UInt8) : l.count 10 = if l.findIdx (· == 10) < l.length then (l.drop (l.findIdx (· == 10) + 1)).count 10 + 1 else 0 := by
  induction l with
  | nil => rfl
  | cons b l ih =>
    rw [List.count_cons, List.findIdx_cons]
    by_cases hb : (b == (10 : UInt8)) = true
    · simp [hb]
    · have hb' : (b == (10 : UInt8)) = false := by simpa using hb
      simp only [hb', Bool.false_eq_true, if_false, cond_false, List.length_cons, Nat.add_zero, List.drop_succ_cons]
      rw [ih]
      by_cases h : l.findIdx (· == 10) < l.length
      · rw [if_pos h, if_pos (Nat.succ_lt_succ h)]
      · rw [if_neg h, if_neg (fun hh => h (Nat.lt_of_succ_lt_succ hh))]
theorem drop_ext (s : ByteArray) (i : Nat) : (s.extract i s.size).data.toList = s.data.toList.drop i := by
  rw [ByteArray.data_extract, Array.toList_extract, List.extract_eq_take_drop]
  exact List.take_of_length_le (by rw [List.length_drop, size_eq]; omega)
theorem cnt_hit {s : ByteArray} (h : nlB s < s.size) : cnt s = cnt (s.extract (nlB s + 1) s.size) + 1 := by
  unfold cnt
  rw [drop_ext, count_idx, if_pos (by rw [size_eq]; exact h)]
  rfl
theorem cnt_miss {s : ByteArray} (h : ¬ nlB s < s.size) : cnt s = 0 := by
  unfold cnt
  rw [count_idx, if_neg (by rw [size_eq]; exact h)]
theorem spl_len : ∀ (n : Nat) (s : ByteArray), s.size ≤ n → (spl s).length = cnt s + 1
  | n, s, hn => by
    by_cases h : nlB s < s.size
    · cases n with
      | zero => omega
      | succ n => rw [spl_hit h, List.length_cons, spl_len n _ (by rw [ByteArray.size_extract]; omega), cnt_hit h]
    · rw [spl_miss h, cnt_miss h]; rfl
theorem spl_length (s : ByteArray) : (spl s).length = cnt s + 1 := spl_len s.size s (Nat.le_refl _)
theorem count_spec (s : ByteArray) : ACalls Tryd.prog 31 [.sc (.string s), .sc (.string ⟨#[10]⟩)] ⟨0, []⟩ (fun r _ => r = .sc (.int .i64 (cnt s : Nat))) := by
  have l1 := lf1
  refine enter2 Tryd.func31 rfl 34 0 [.tmp 4] rfl rfl rfl ?_
  repeat' (first | (refine aops_nil ?_) | (show AOps _ _ _ _ _ _; first | (show AOps _ _ _ _ (⟨some _, .call ⟨.value (.func 37), _, _⟩, _, _, _, none⟩ :: _) _; first | (refine o_y (y_cntB (c := 10) rfl rfl) rfl ?_)) | (show AOps _ _ _ _ (⟨some _, .move _, _, _, _, none⟩ :: _) _; first | (refine o_y (v_move (v := .sc _) rfl) rfl ?_)) | (show AOps _ _ _ _ (⟨some _, .assign _, _, _, _, none⟩ :: _) _; first | (refine o_y (v_assign (v := .sc _) rfl) rfl ?_)) | (show AOps _ _ _ _ (⟨some _, .binOp .add _ _ _ _, _, _, _, none⟩ :: _) _; first | (refine o_y (y_bin rfl rfl rfl) rfl ?_)) | (show AOps _ _ _ _ (⟨some _, .binOp _ _ _ _ _, _, _, _, none⟩ :: _) _; first | (refine o_y (y_bin rfl rfl rfl) rfl ?_)) | (show AOps _ _ _ _ (⟨some _, .call ⟨.builtin .len, _, _⟩, _, _, _, none⟩ :: _) _; first | (refine o_y (y_lenS rfl) rfl ?_)) | (show AOps _ _ _ _ (⟨some _, .index _ _ _, _, _, _, none⟩ :: _) _; first | (refine o_y (y_indexS rfl rfl (by omega) (by omega)) rfl ?_))) | (show IW _ _ _ _ _; first | (refine awp_seq ?_) | (refine awp_region ?_) | (refine awp_ret ?_) | (refine awp_skip ?_) | (refine awp_if_t rfl (by first | rfl | assumption | exact beq_self_eq_true _ | exact decide_eq_true rfl) ?_) | (refine awp_if_f rfl (by first | rfl | assumption) ?_)) | (show thenQ _ _ _ _; first | (refine k_r ?_)))
  exact ret1 [] (by decide) rfl rfl
theorem indexS_spec (s : ByteArray) : ACalls Tryd.prog 32 [.sc (.string s), .sc (.string ⟨#[10]⟩)] ⟨0, []⟩ (fun r _ => r = .sc (.int .i64 (nlI s))) := by
  refine enter2 Tryd.func32 rfl 8 0 [.tmp 4] rfl rfl rfl ?_
  repeat' (first | (refine aops_nil ?_) | (show AOps _ _ _ _ _ _; first | (show AOps _ _ _ _ (⟨some _, .move _, _, _, _, none⟩ :: _) _; first | (refine o_y (v_move (v := .sc _) rfl) rfl ?_)) | (show AOps _ _ _ _ (⟨some _, .assign _, _, _, _, none⟩ :: _) _; first | (refine o_y (v_assign (v := .sc _) rfl) rfl ?_)) | (show AOps _ _ _ _ (⟨some _, .call ⟨.value (.func 34), _, _⟩, _, _, _, none⟩ :: _) _; first | (refine o_q (q_call (index_spec s)) rfl ?_))) | (show IW _ _ _ _ _; first | (refine awp_seq ?_) | (refine awp_region ?_) | (refine awp_ret ?_)))
  exact ret1 [] (by decide) rfl rfl
/-- What the row holds in round i. -/
def rnd (s : ByteArray) (i : Nat) : List ByteArray := (spl s).take i ++ List.replicate (cnt s + 1 - i) ⟨#[]⟩
theorem rnd_length (s : ByteArray) {i : Nat} (h : i ≤ cnt s + 1) : (rnd s i).length = cnt s + 1 := by
  unfold rnd
  rw [List.length_append, List.length_take, List.length_replicate, spl_length]; omega
theorem rnd_set (s : ByteArray) {i : Nat} {x : ByteArray} (h : i < cnt s + 1) (hx : (spl s)[i]? = some x) : (rnd s i).set i x = rnd s (i + 1) := by
  have hl : ((spl s).take i).length = i := by rw [List.length_take, spl_length]; omega
  unfold rnd
  rw [List.set_append_right _ _ (by omega), hl, Nat.sub_self, show cnt s + 1 - i = (cnt s + 1 - (i + 1)) + 1 by omega, List.replicate_succ, List.set_cons_zero, List.take_add_one, hx]
  simp
theorem strs_setR (s : ByteArray) {i : Nat} {x : ByteArray} (h : i < cnt s + 1) (hx : (spl s)[i]? = some x) : (strs (rnd s i)).set i (.sc (.string x)) = strs (rnd s (i + 1)) := by
  rw [← rnd_set s h hx]
  simp [strs, List.map_set]
theorem rnd_all (s : ByteArray) : rnd s (cnt s + 1) = spl s := by
  unfold rnd
  rw [Nat.sub_self, List.take_of_length_le (by rw [spl_length]; omega)]
  simp
theorem strs_setT (s : ByteArray) {i off : Nat} {x v : ByteArray} (ho : off = i) (h : i < cnt s + 1) (hx : (spl s)[i]? = some x) (hv : v = x) : (strs (rnd s i)).set off (.sc (.string v)) = strs (rnd s (i + 1)) := by
  subst ho; subst hv
  exact strs_setR s h hx
theorem lt_off {cs : List AV} {n off i : Nat} (h : cs.length = n) (ho : off = i) (hi : i < n) : off < cs.length := by omega
theorem rep0 (s : ByteArray) : List.replicate (cnt s + 1) (AV.sc (.string ⟨#[]⟩)) = strs (rnd s 0) := by
  simp [strs, rnd, List.map_replicate]
set_option maxRecDepth 4000 in
theorem split_spec (s : ByteArray) (hs : s.size ≤ 1048576) : ACalls Tryd.prog 26 [.sc (.string s), .sc (.string ⟨#[10]⟩), .sc (.int .i64 0), .sc (.int .i64 (-1))] ⟨0, []⟩ (fun r _ => r = .vsl (strs (spl s)) 1 0 (spl s).length) := by
  have l1 := lf1
  have hc := cnt_le s
  refine enter4 Tryd.func26 rfl 66 0 [.tmp 8] rfl rfl rfl ?_
  repeat' (first | (refine aops_nil ?_) | (show AOps _ _ _ _ _ _; first | (show AOps _ _ _ _ (⟨some _, .move _, _, _, _, none⟩ :: _) _; first | (refine o_y (v_move (v := .sc _) rfl) rfl ?_)) | (show AOps _ _ _ _ (⟨some _, .assign _, _, _, _, none⟩ :: _) _; first | (refine o_y (v_assign (v := .sc _) rfl) rfl ?_)) | (show AOps _ _ _ _ (⟨some _, .binOp .add _ _ _ _, _, _, _, none⟩ :: _) _; first | (refine o_y (z_add rfl rfl (by omega) (by omega)) rfl ?_) | (refine o_y (y_bin rfl rfl rfl) rfl ?_)) | (show AOps _ _ _ _ (⟨some _, .binOp .sub _ _ _ _, _, _, _, none⟩ :: _) _; first | (refine o_y (y_bin rfl rfl rfl) rfl ?_)) | (show AOps _ _ _ _ (⟨some _, .binOp _ _ _ _ _, _, _, _, none⟩ :: _) _; first | (refine o_y (y_bin rfl rfl rfl) rfl ?_) | (refine o_y (y_binS rfl rfl rfl) rfl ?_)) | (show AOps _ _ _ _ (⟨some _, .call ⟨.builtin .len, _, _⟩, _, _, _, none⟩ :: _) _; first | (refine o_y (y_lenS rfl) rfl ?_)) | (show AOps _ _ _ _ (⟨some _, .call ⟨.builtin .min, _, _⟩, _, _, _, none⟩ :: _) _; first | (refine o_y (y_min2 rfl rfl) rfl ?_)) | (show AOps _ _ _ _ (⟨some _, .call ⟨.value (.func 31), _, _⟩, _, _, _, none⟩ :: _) _; first | (refine o_q (q_call (count_spec s)) rfl ?_))) | (show IW _ _ [.code (.seq _ _)] _ _; first | (show AWP _ _ (.seq (.seq _ _) _) _ _; refine awp_seq ?_) | (show AWP _ _ (.seq (.region 0 _ _) _) _ _; refine awp_seq ?_) | (show AWP _ _ (.seq (.region 1 _ _) _) _ _; refine awp_seq ?_) | (show AWP _ _ (.seq (.region 3 _ _) _) _ _; refine awp_seq ?_) | (show AWP _ _ (.seq (.region 5 _ _) _) _ _; refine awp_seq ?_) | (show AWP _ _ (.seq (.region 7 _ _) _) _ _; refine awp_seq ?_)) | (show IW _ _ _ _ _; first | (refine awp_region ?_) | (refine awp_skip ?_) | (refine awp_if_t rfl (by first | rfl | assumption | exact beq_self_eq_true _ | exact decide_eq_true rfl) ?_) | (refine awp_if_f rfl (by first | rfl | assumption) ?_)) | (show thenQ _ _ _ _; first | (refine k_n ?_)))
  rw [show min ((cnt s : Int) + 1) ((s.size : Int) + 1) = ((cnt s + 1 : Nat) : Int) from by omega]
  repeat' (first | (refine aops_nil ?_) | (show AOps _ _ _ _ _ _; first | (show AOps _ _ _ _ (⟨some _, .move _, _, _, _, none⟩ :: _) _; first | (refine o_y (v_move (v := .sc _) rfl) rfl ?_)) | (show AOps _ _ _ _ (⟨some _, .assign _, _, _, _, none⟩ :: _) _; first | (refine o_y (v_assign (v := .sc _) rfl) rfl ?_) | (refine o_y (v_assign (v := .sl _ _ _) rfl) rfl ?_)) | (show AOps _ _ _ _ (⟨some _, .binOp .sub _ _ _ _, _, _, _, none⟩ :: _) _; first | (refine o_y (z_sub rfl rfl (by omega) (by omega)) rfl ?_)) | (show AOps _ _ _ _ (⟨_, .makeSlice _ _ _, _, _, _, none⟩ :: _) _; first | (refine o_x (x_makeSl (m := cnt s + 1) rfl rfl rfl (by omega) (by omega) (rep0 s) rfl ?_)))) | (show IW _ _ [.code (.seq _ _)] _ _; first | (show AWP _ _ (.seq (.region _ _ _) _) _ _; refine awp_seq ?_) | (show AWP _ _ (.seq (.block _ _) _) _ _; refine awp_seq ?_)) | (show IW _ _ _ _ _; first | (refine awp_region ?_) | (refine awp_block ?_)))
  refine awp_loopI (fun x : Nat × ByteArray => x.1 ≤ cnt s ∧ x.2.size ≤ 1048576 ∧ (spl s).drop x.1 = spl x.2) (fun x => cnt s - x.1) (fun x => [(0, .sc (.string x.2)), (1, .sc (.string ⟨#[10]⟩)), (2, .sc (.int .i64 0)), (3, .sc (.int .i64 (cnt s : Nat))), (9, .sl 0 0 (cnt s + 1)), (10, .sc (.int .i64 x.1))]) 1 (fun x => [(0, some ⟨strs (rnd s x.1), 1, 9⟩)]) (0, s) [0] (by decide) rfl rfl rfl ⟨Nat.zero_le _, hs, rfl⟩ ⟨rfl, rfl, rfl, ?_, rfl, rfl, trivial⟩ ⟨rfl, (by first | rfl | exact blk_fl rfl (strs_flat _)), trivial⟩ ?_
  · exact congrArg (fun x => AV.sc (.int .i64 x)) (by omega)
  rintro ⟨i, x⟩ ⟨h1, h2, h3⟩ ih
  dsimp only at h1 h2 h3 ih ⊢
  have hl := congrArg List.length h3
  rw [List.length_drop, spl_length, spl_length] at hl
  have hr := rnd_length s (i := i) (by omega)
  have hrs : (strs (rnd s i)).length = cnt s + 1 := by rw [strs_length, hr]
  by_cases hi : i < cnt s
  · have hn : nlB x < x.size := Decidable.byContradiction fun h => by rw [cnt_miss h] at hl; omega
    have hidx := indexS_spec x
    rw [show nlI x = (nlB x : Int) from if_pos hn] at hidx
    rw [spl_hit hn] at h3
    have hx : (spl s)[i]? = some (x.extract 0 (nlB x)) := by
      have := congrArg (fun l => l[0]?) h3
      simpa using this
    repeat' (first | (refine aops_nil ?_) | (show AOps _ _ _ _ _ _; first | (show AOps _ _ _ _ (⟨some _, .move _, _, _, _, none⟩ :: _) _; first | (refine o_y (v_move (v := .sc _) rfl) rfl ?_) | (refine o_y (v_move (v := .sl _ _ _) rfl) rfl ?_)) | (show AOps _ _ _ _ (⟨some _, .assign _, _, _, _, none⟩ :: _) _; first | (refine o_y (v_assign (v := .sc _) rfl) rfl ?_)) | (show AOps _ _ _ _ (⟨some _, .binOp .add _ _ _ _, _, _, _, none⟩ :: _) _; first | (refine o_y (z_add rfl rfl (by omega) (by omega)) rfl ?_) | (refine o_y (y_bin rfl rfl rfl) rfl ?_)) | (show AOps _ _ _ _ (⟨some _, .binOp .sub _ _ _ _, _, _, _, none⟩ :: _) _; first | (refine o_y (y_bin rfl rfl rfl) rfl ?_)) | (show AOps _ _ _ _ (⟨some _, .binOp _ _ _ _ _, _, _, _, none⟩ :: _) _; first | (refine o_y (y_bin rfl rfl rfl) rfl ?_)) | (show AOps _ _ _ _ (⟨some _, .call ⟨.builtin .len, _, _⟩, _, _, _, none⟩ :: _) _; first | (refine o_y (y_lenS rfl) rfl ?_)) | (show AOps _ _ _ _ (⟨some _, .slice _ _ _ _ _, _, _, _, none⟩ :: _) _; first | (refine o_y (y_sliceS_l rfl rfl (by omega) (by omega)) rfl ?_) | (refine o_y (y_sliceS_h rfl rfl (by omega) (by omega)) rfl ?_)) | (show AOps _ _ _ _ (⟨some _, .indexAddr _ _ _, _, _, _, none⟩ :: _) _; first | (refine o_y (y_ix_sl rfl rfl rfl rfl (by omega) (by omega)) rfl ?_)) | (show AOps _ _ _ _ (⟨some _, .call ⟨.value (.func 32), _, _⟩, _, _, _, none⟩ :: _) _; first | (refine o_q (q_call (hidx)) rfl ?_)) | (show AOps _ _ _ _ (⟨_, .store _ _ _, _, _, _, none⟩ :: _) _; first | (refine o_x (s_storeP rfl rfl rfl rfl (lt_off (i := i) hrs (by simp) (by omega)) (strs_setT s (i := i) (by simp) (by omega) hx rfl) ?_)))) | (show IW _ _ _ _ _; first | (refine awp_seq ?_) | (refine awp_region ?_) | (refine awp_block ?_) | (refine awp_exit ?_) | (refine awp_skip ?_) | (refine awp_if_f rfl (by first | rfl | assumption) ?_) | (refine awp_if rfl (fun h hp => ?_) (fun h hp => ?_))) | (show thenQ _ _ _ _; first | (refine k_n ?_)) | (show blockQ _ _ _ _; first | (refine k_n' ?_)))
    · exact iw_at [0] (ih (i + 1, x.extract (nlB x + 1) x.size) ⟨hi, by rw [ByteArray.size_extract]; omega, by have := congrArg (List.drop 1) h3; simpa [List.drop_drop, Nat.add_comm] using this⟩ (by omega)) (by decide) rfl rfl rfl ⟨rfl, rfl, rfl, rfl, rfl, rfl, trivial⟩ ⟨rfl, (by first | rfl | exact blk_fl rfl (strs_flat _)), trivial⟩
    all_goals (exfalso; omega)
  · obtain rfl : i = cnt s := by omega
    have hn : ¬ nlB x < x.size := fun h => by rw [cnt_hit h] at hl; omega
    rw [spl_miss hn] at h3
    have hx : (spl s)[cnt s]? = some x := by
      have := congrArg (fun l => l[0]?) h3
      simpa using this
    repeat' (first | (refine aops_nil ?_) | (show AOps _ _ _ _ _ _; first | (show AOps _ _ _ _ (⟨some _, .move _, _, _, _, none⟩ :: _) _; first | (refine o_y (v_move (v := .sc _) rfl) rfl ?_) | (refine o_y (v_move (v := .sl _ _ _) rfl) rfl ?_)) | (show AOps _ _ _ _ (⟨some _, .assign _, _, _, _, none⟩ :: _) _; first | (refine o_y (v_assign (v := .sl _ _ _) rfl) rfl ?_)) | (show AOps _ _ _ _ (⟨some _, .binOp .add _ _ _ _, _, _, _, none⟩ :: _) _; first | (refine o_y (z_add rfl rfl (by omega) (by omega)) rfl ?_) | (refine o_y (y_bin rfl rfl rfl) rfl ?_)) | (show AOps _ _ _ _ (⟨some _, .binOp .sub _ _ _ _, _, _, _, none⟩ :: _) _; first | (refine o_y (y_bin rfl rfl rfl) rfl ?_)) | (show AOps _ _ _ _ (⟨some _, .binOp _ _ _ _ _, _, _, _, none⟩ :: _) _; first | (refine o_y (y_bin rfl rfl rfl) rfl ?_)) | (show AOps _ _ _ _ (⟨some _, .slice _ _ _ _ _, _, _, _, none⟩ :: _) _; first | (refine o_y (y_slice_sl_h rfl rfl rfl rfl (by omega) (by omega)) rfl ?_)) | (show AOps _ _ _ _ (⟨some _, .indexAddr _ _ _, _, _, _, none⟩ :: _) _; first | (refine o_y (y_ix_sl rfl rfl rfl rfl (by omega) (by omega)) rfl ?_)) | (show AOps _ _ _ _ (⟨_, .store _ _ _, _, _, _, none⟩ :: _) _; first | (refine o_x (s_storeP rfl rfl rfl rfl (lt_off (i := cnt s) hrs (by simp) (by omega)) (strs_setT s (i := cnt s) (by simp) (by omega) hx rfl) ?_)))) | (show IW _ _ [.code (.seq _ _)] _ _; first | (show AWP _ _ (.seq (.region _ _ _) _) _ _; refine awp_seq ?_) | (show AWP _ _ (.seq (.seq _ _) _) _ _; refine awp_seq ?_)) | (show IW _ _ _ _ _; first | (refine awp_region ?_) | (refine awp_block ?_) | (refine awp_exit ?_) | (refine awp_skip ?_) | (refine awp_if rfl (fun h hp => ?_) (fun h hp => ?_))) | (show thenQ _ _ _ _; first | (refine k_n ?_)))
    · exfalso; omega
    · refine iw_frzS 8 0 rfl rfl (strs_flat _) (by rw [strs_length, rnd_length s (Nat.le_refl _)]; omega) ?_
      repeat' (first | (show IW _ _ _ _ _; first | (refine awp_ret ?_)))
      refine ret1 [] (by decide) rfl ?_
      show AV.vsl (strs (rnd s (cnt s + 1))) 1 0 ((cnt s : Int) + 1).toNat = _
      rw [rnd_all, spl_length]
      rfl
theorem splitS_spec (s : ByteArray) (hs : s.size ≤ 1048576) : ACalls Tryd.prog 21 [.sc (.string s), .sc (.string ⟨#[10]⟩)] ⟨0, []⟩ (fun r _ => r = .vsl (strs (spl s)) 1 0 (spl s).length) := by
  refine enter2 Tryd.func21 rfl 8 0 [.tmp 4] rfl rfl rfl ?_
  repeat' (first | (refine aops_nil ?_) | (show AOps _ _ _ _ _ _; first | (show AOps _ _ _ _ (⟨some _, .move _, _, _, _, none⟩ :: _) _; first | (refine o_y (v_move (v := .sc _) rfl) rfl ?_)) | (show AOps _ _ _ _ (⟨some _, .assign _, _, _, _, none⟩ :: _) _; first | (refine o_y (v_assign (v := .sc _) rfl) rfl ?_) | (refine o_y (v_assign (v := .vsl _ _ _ _) rfl) rfl ?_)) | (show AOps _ _ _ _ (⟨_, .call ⟨.value (.func 26), _, _⟩, _, _, _, none⟩ :: _) _; refine o_x (x_callX (split_spec s hs) rfl (by rintro _ rfl; rfl) ?_); rintro _ rfl)) | (show IW _ _ _ _ _; first | (refine awp_seq ?_) | (refine awp_region ?_) | (refine awp_ret ?_)))
  exact ret1 [] (by decide) rfl rfl
theorem records_spec (s : ByteArray) (hs : s.size ≤ 1048576) : ACalls Tryd.prog 13 [.sc (.string s)] ⟨0, []⟩ (fun r _ => ∃ x, (spl s)[cnt s]? = some x ∧ r = .tup [.vsl (strs (spl s)) 1 0 (cnt s), .sc (.string x)]) := by
  have hl := spl_length s
  have hc := cnt_le s
  obtain ⟨x, hx⟩ : ∃ x, (spl s)[cnt s]? = some x := ⟨_, List.getElem?_eq_getElem (by omega)⟩
  refine enter1 Tryd.func13 rfl 18 0 [.tmp 2, .tmp 3] rfl rfl rfl ?_
  repeat' (first | (refine aops_nil ?_) | (show AOps _ _ _ _ _ _; first | (show AOps _ _ _ _ (⟨some _, .move _, _, _, _, none⟩ :: _) _; first | (refine o_y (v_move (v := .sc _) rfl) rfl ?_)) | (show AOps _ _ _ _ (⟨some _, .assign _, _, _, _, none⟩ :: _) _; first | (refine o_y (v_assign (v := .sc _) rfl) rfl ?_) | (refine o_y (v_assign (v := .vsl _ _ _ _) rfl) rfl ?_)) | (show AOps _ _ _ _ (⟨_, .call ⟨.value (.func 21), _, _⟩, _, _, _, none⟩ :: _) _; refine o_x (x_callX (splitS_spec s hs) rfl (by rintro _ rfl; rfl) ?_); rintro _ rfl)) | (show IW _ _ [.code (.seq _ _)] _ _; first | (show AWP _ _ (.seq (.region 0 _ _) _) _ _; refine awp_seq ?_) | (show AWP _ _ (.seq (.region 1 _ _) _) _ _; refine awp_seq ?_)) | (show IW _ _ _ _ _; first | (refine awp_region ?_)) | (show thenQ _ _ _ _; first | (refine k_n ?_)))
  rw [hl]
  have e : (((cnt s + 1 : Nat) : Int) - 1).toNat = cnt s := by omega
  have hv : (strs (spl s))[(0 + (((cnt s + 1 : Nat) : Int) - 1).toNat) * 1]? = some (AV.sc (.string x)) := by
    rw [e, Nat.zero_add, Nat.mul_one]; simp [strs, hx]
  have hsl : (strs (spl s)).length = cnt s + 1 := by rw [strs_length, hl]
  repeat' (first | (show AWP _ _ (.region 2 _ true) _ _; refine awp_draw 13 (by kernel_rfl) ?_) | (refine aops_nil ?_) | (refine aq_nil ?_) | (show AQuiet _ _ _ _ _ _; first | (show AQuiet _ _ _ (⟨some _, .move _, _, _, _, none⟩ :: _) _ _; first | (refine q_y (v_move (v := .vsl _ _ _ _) rfl) rfl ?_)) | (show AQuiet _ _ _ (⟨some _, .load _ _, _, _, _, none⟩ :: _) _ _; first | (refine q_y (y_vload rfl (by assumption)) rfl ?_)) | (show AQuiet _ _ _ (⟨some _, .assign _, _, _, _, none⟩ :: _) _ _; first | (refine q_y (v_assign (v := .sc _) rfl) rfl ?_) | (refine q_y (v_assign (v := .vsl _ _ _ _) rfl) rfl ?_)) | (show AQuiet _ _ _ (⟨some _, .binOp .sub _ _ _ _, _, _, _, none⟩ :: _) _ _; first | (refine q_y (z_sub rfl rfl (by omega) (by omega)) rfl ?_)) | (show AQuiet _ _ _ (⟨some _, .call ⟨.builtin .len, _, _⟩, _, _, _, none⟩ :: _) _ _; first | (refine q_y (y_lenV rfl) rfl ?_)) | (show AQuiet _ _ _ (⟨some _, .slice _ _ _ _ _, _, _, _, none⟩ :: _) _ _; first | (refine q_y (y_slice_vsl_h rfl rfl (by omega) (by omega)) rfl ?_)) | (show AQuiet _ _ _ (⟨some _, .indexAddr _ _ _, _, _, _, none⟩ :: _) _ _; first | (refine q_y (y_ix_vsl rfl rfl rfl (by omega) (by omega)) rfl ?_))) | (show IW _ _ _ _ _; first | (refine awp_seq ?_) | (refine awp_ret ?_)))
  refine ret2 [] (by decide) rfl ⟨x, hx, ?_⟩
  show AV.tup [AV.vsl (strs (spl s)) 1 0 (((cnt s + 1 : Nat) : Int) - 1).toNat, _] = _
  rw [e]
  rfl
end Go.Proofs.YtkiagljbimfobaaDoor.Sx
