/- A time of the day read: by the program. -/
import Derived.Test.YtdkdnhenogdjiaaDoorC
import Derived.Test.YtdkdnhenogdjiaaDoorD
import Derived.Test.YtdkdnhenogdjiaaDoorSx35
namespace Go.Proofs.YtdkdnhenogdjiaaDoor.Sx
open Go Go.RowKit
attribute [local irreducible] IW AOps AQuiet GQ GY AExec QY Yld ACalls ACallsD
@[reducible] def hdB (t : ByteArray) : ByteArray := t.extract 0 (min 2 (t.size : Int)).toNat
@[reducible] def rsB (t : ByteArray) : ByteArray := t.extract (min 2 (t.size : Int)).toNat t.size
theorem ext_le {t : ByteArray} (i j : Nat) (h : t.size ≤ 1048576) : (t.extract i j).size ≤ 1048576 := by rw [ByteArray.size_extract]; omega
theorem get_bt {s : ByteArray} {p : Nat} (h : p < s.size) : ((s.get! (p + 0)).toNat : Int) = bt s p := by
  unfold bt
  rw [Int.toNat_natCast, Nat.add_zero, List.getD_eq_getElem?_getD]
  have h' : p < s.data.size := h
  simp only [ByteArray.get!, getElem!_def, Array.getElem?_toList, Array.getElem?_eq_getElem h', Option.getD_some]
theorem dec_lo {s : ByteArray} {p : Nat} (h : p < s.size) (hb : bt s p < 128) : ∃ c : Nat, Utf8.decode s p = (c, 1) ∧ (c : Int) = bt s p := by
  have hg := get_bt h
  refine ⟨_, ?_, hg⟩
  unfold Utf8.decode
  dsimp only
  rw [if_pos (by omega)]
theorem dec_hi {s : ByteArray} {p : Nat} (h : p < s.size) (hb : 128 ≤ bt s p) : ∃ c wd : Nat, Utf8.decode s p = (c, wd) ∧ 1 ≤ wd := by
  have hg := get_bt h
  refine ⟨(Utf8.decode s p).1, (Utf8.decode s p).2, rfl, ?_⟩
  unfold Utf8.decode
  dsimp only
  rw [if_neg (by omega)]
  clear hg hb h
  (repeat' split) <;> first | exact Nat.le_refl _ | (dsimp only; omega)
theorem stp_plain {n c : Int} (h0 : 0 ≤ n) (h1 : n ≤ 100000000) (h2 : 0 ≤ c) (h3 : c ≤ 255) : stp n c = n * 10 + (c - 48) % 256 := by
  unfold stp
  rw [IntKind.wrap_i64, IntKind.wrap_i64]
  omega
def bnd : Nat → Int
  | 0 => 0
  | i + 1 => bnd i * 10 + 255
theorem wvN_le (t : ByteArray) : ∀ i, i ≤ 6 → 0 ≤ wvN t i ∧ wvN t i ≤ bnd i
  | 0, _ => ⟨Int.le_refl _, Int.le_refl _⟩
  | i + 1, h => by
    obtain ⟨h1, h2⟩ := wvN_le t i (by omega)
    have hb := bt_range t (i : Int)
    have hB : bnd i ≤ 28333305 := by
      have : i = 0 ∨ i = 1 ∨ i = 2 ∨ i = 3 ∨ i = 4 ∨ i = 5 := by omega
      rcases this with rfl | rfl | rfl | rfl | rfl | rfl <;> decide
    rw [wvN, stp_plain h1 (by omega) hb.1 hb.2, bnd]
    omega
theorem wv_le {t : ByteArray} (h : t.size ≤ 6) : 0 ≤ wv t ∧ wv t ≤ 28333305 := by
  obtain ⟨h1, h2⟩ := wvN_le t t.size h
  have hB : bnd t.size ≤ 28333305 := by
    have : t.size = 0 ∨ t.size = 1 ∨ t.size = 2 ∨ t.size = 3 ∨ t.size = 4 ∨ t.size = 5 ∨ t.size = 6 := by omega
    rcases this with e | e | e | e | e | e | e <;> rw [e] <;> decide
  exact ⟨h1, Int.le_trans h2 hB⟩
theorem wvN_dg (t : ByteArray) : ∀ i, i ≤ 6 → (∀ j, j < i → dgt t j) → wvN t i < 10 ^ i
  | 0, _, _ => by show (0 : Int) < 1; decide
  | i + 1, h, hd => by
    obtain ⟨h1, h2⟩ := wvN_le t i (by omega)
    have h3 := wvN_dg t i (by omega) (fun j hj => hd j (by omega))
    have hg : 48 ≤ bt t (i : Int) ∧ bt t (i : Int) ≤ 57 := hd i (by omega)
    have hB : (10 : Int) ^ i ≤ 100000 := by
      have : i = 0 ∨ i = 1 ∨ i = 2 ∨ i = 3 ∨ i = 4 ∨ i = 5 := by omega
      rcases this with rfl | rfl | rfl | rfl | rfl | rfl <;> decide
    rw [wvN, stp_plain h1 (by omega) (by omega) (by omega), Int.pow_succ]
    omega
theorem okD_size {t : ByteArray} {k : Int} (h : okD t k = true) : (t.size : Int) = k := by unfold okD at h; simp at h; exact h.1
theorem okD_dg {t : ByteArray} {k : Int} (h : okD t k = true) : ∀ j, j < t.size → dgt t j := fun j hj => by
  unfold okD at h; simp only [Bool.and_eq_true] at h; exact dgs_of h.2 hj
theorem wv_lt {t : ByteArray} {k : Int} (h : okD t k = true) (h6 : t.size ≤ 6) : 0 ≤ wv t ∧ wv t < 10 ^ t.size := ⟨(wv_le h6).1, wvN_dg t t.size h6 (okD_dg h)⟩
def cA (t : ByteArray) : ByteArray := t.extract 0 2
def cB (t : ByteArray) : ByteArray := t.extract 2 4
def cC (t : ByteArray) : ByteArray := t.extract 4 6
def cD (t : ByteArray) : ByteArray := t.extract 7 t.size
def clkOk (t : ByteArray) : Bool := decide (6 ≤ t.size) && okD (cA t) 2 && okD (cB t) 2 && okD (cC t) 2 && (decide (t.size = 6) || (decide (bt t 6 = 46) && decide (8 ≤ t.size) && decide (t.size ≤ 13) && okD (cD t) ((t.size : Int) - 7)))
def frac (t : ByteArray) : Int := if t.size = 6 then 0 else wv (cD t) * 4294967296 / 10 ^ (t.size - 7)
theorem bt_ext {s : ByteArray} {a n j : Nat} (hj : j < n - a) : bt (s.extract a n) (j : Int) = bt s ((a + j : Nat) : Int) := by
  rw [bt_nat, bt_nat, ByteArray.data_extract, Array.toList_extract, List.extract_eq_take_drop, List.getD_eq_getElem?_getD, List.getD_eq_getElem?_getD, List.getElem?_take_of_lt hj, List.getElem?_drop]
theorem clk_long {t : ByteArray} (h : 6 ≤ t.size) : hdB t = cA t ∧ hdB (rsB t) = cB t ∧ hdB (rsB (rsB t)) = cC t ∧ rsB (rsB (rsB t)) = t.extract 6 t.size := by
  have m : ∀ {n : Nat}, 2 ≤ n → (min 2 (n : Int)).toNat = 2 := fun h => by omega
  have e1 : rsB t = t.extract 2 t.size := by unfold rsB; rw [m (by omega)]
  have s1 : (t.extract 2 t.size).size = t.size - 2 := by rw [ByteArray.size_extract]; omega
  have e2 : rsB (rsB t) = t.extract 4 t.size := by
    rw [e1]; unfold rsB; rw [m (by omega), (ext_ext t (a := 2) (n := t.size) (i := 2) (by omega) (Nat.le_refl _)).2]
  have s2 : (t.extract 4 t.size).size = t.size - 4 := by rw [ByteArray.size_extract]; omega
  refine ⟨?_, ?_, ?_, ?_⟩
  · unfold hdB cA; rw [m (by omega)]
  · rw [e1]; unfold hdB cB; rw [m (by omega), (ext_ext t (a := 2) (n := t.size) (i := 2) (by omega) (Nat.le_refl _)).1]
  · rw [e2]; unfold hdB cC; rw [m (by omega), (ext_ext t (a := 4) (n := t.size) (i := 2) (by omega) (Nat.le_refl _)).1]
  · rw [e2]; unfold rsB; rw [m (by omega), (ext_ext t (a := 4) (n := t.size) (i := 2) (by omega) (Nat.le_refl _)).2]
theorem clk_short {t : ByteArray} (h : t.size < 6) : okD (hdB (rsB (rsB t))) 2 = false := by
  have hz : (hdB (rsB (rsB t))).size < 2 := by
    unfold hdB rsB
    simp only [ByteArray.size_extract]
    omega
  cases e : okD (hdB (rsB (rsB t))) 2 with
  | false => rfl
  | true => have := okD_size e; omega
theorem ba_pos {w : ByteArray} (h : ¬ w = ⟨#[]⟩) : 1 ≤ w.size := Decidable.byContradiction fun hz => h (by
  have hz : w.size = 0 := by omega
  obtain ⟨⟨l⟩⟩ := w
  exact congrArg (fun x => ByteArray.mk (Array.mk x)) (List.length_eq_zero_iff.1 hz))
theorem pow_le5 {k : Nat} (h : k ≤ 5) : (10 ^ k : Nat) ≤ 100000 := Nat.pow_le_pow_right (n := 10) (by omega) h
theorem pow_mul {k : Nat} (h : (10 ^ k : Nat) ≤ 100000) : IntKind.i64.wrap (((10 ^ k : Nat) : Int) * 10) = ((10 ^ (k + 1) : Nat) : Int) := by
  rw [Nat.pow_succ]
  generalize (10 ^ k : Nat) = q at h
  rw [IntKind.wrap_i64]
  omega
theorem frac_eq {m : Int} {k : Nat} (h0 : 0 ≤ m) (hk : 1 ≤ k) (h6 : k ≤ 6) (h1 : m < 10 ^ k) : IntKind.u32.wrap (IntKind.u64.wrap ((IntKind.u64.wrap (m * 2 ^ min (Int.toNat 32) IntKind.u64.bits)).tdiv ((10 ^ k : Nat) : Int))) = m * 4294967296 / 10 ^ k := by
  have e1 : (2 : Int) ^ min (Int.toNat 32) IntKind.u64.bits = 4294967296 := by decide
  have w64 : ∀ n : Int, 0 ≤ n → n < 18446744073709551616 → IntKind.u64.wrap n = n := fun n h1 h2 => by simp [IntKind.wrap, IntKind.bits, IntKind.signed]; omega
  have w32 : ∀ n : Int, 0 ≤ n → n < 4294967296 → IntKind.u32.wrap n = n := fun n h1 h2 => by simp [IntKind.wrap, IntKind.bits, IntKind.signed]; omega
  rw [e1, Int.natCast_pow]
  have : k = 1 ∨ k = 2 ∨ k = 3 ∨ k = 4 ∨ k = 5 ∨ k = 6 := by omega
  rcases this with rfl | rfl | rfl | rfl | rfl | rfl <;>
    (simp only [show ((10 : Nat) : Int) = 10 from rfl, Int.reducePow] at h1 ⊢
     rw [w64 (m * 4294967296) (by omega) (by omega), Int.tdiv_eq_ediv_of_nonneg (a := m * 4294967296) (by omega), w64 _ (by omega) (by omega), w32 _ (by omega) (by omega)])
attribute [local irreducible] ByteArray.extract
set_option maxHeartbeats 8000000 in
theorem clockP_spec (t : ByteArray) (ht : t.size ≤ 1048576) : ACalls Tryd.prog 14 [.ptr 0 0, .sc (.string t)] ⟨1, [(0, some ⟨[.sc (.bool false)], 1, 43⟩)]⟩ (fun r S => ∃ h m s fr : Int, r = .agg [.sc (.int .i64 0), .sc (.int .i64 0), .sc (.int .i64 0), .sc (.int .i64 h), .sc (.int .i64 m), .sc (.int .i64 s), .sc (.int .u32 fr)] ∧ S = ⟨1, [(0, some ⟨[.sc (.bool (!clkOk t))], 1, 43⟩)]⟩ ∧ (clkOk t = true → h = wv (cA t) ∧ m = wv (cB t) ∧ s = wv (cC t) ∧ fr = frac t)) := by
  have z0 : (hdB t).size ≤ 1048576 := ext_le _ _ ht
  have z1 : (rsB t).size ≤ 1048576 := ext_le _ _ ht
  have z2 : (hdB (rsB t)).size ≤ 1048576 := ext_le _ _ z1
  have z3 : (rsB (rsB t)).size ≤ 1048576 := ext_le _ _ z1
  have z4 : (hdB (rsB (rsB t))).size ≤ 1048576 := ext_le _ _ z3
  have z5 : (rsB (rsB (rsB t))).size ≤ 1048576 := ext_le _ _ z3
  refine enter2 Tryd.func14 rfl 80 1 [.cell 4 46] rfl rfl rfl ?_
  repeat' (first | (refine aops_nil ?_) | (show AOps _ _ _ _ _ _; first | (show AOps _ _ _ _ (⟨some _, .move _, _, _, _, none⟩ :: _) _; first | (refine o_y (v_move (v := .sc _) rfl) rfl ?_)) | (show AOps _ _ _ _ (⟨some _, .fieldAddr _ _ _, _, _, _, none⟩ :: _) _; first | (refine o_y (y_fld_ptr rfl rfl) rfl ?_)) | (show AOps _ _ _ _ (⟨some _, .build _ _, _, _, _, none⟩ :: _) _; first | (refine o_y (y_buildA rfl rfl) rfl ?_)) | (show AOps _ _ _ _ (⟨_, .alloc _, _, _, _, none⟩ :: _) _; first | (refine o_x (a_new (by first | (simp only [AV.ofV, AV.cells, List.map_cons, List.map_nil]; rfl) | rfl) rfl rfl rfl ?_)))) | (show IW _ _ [.code (.seq _ _)] _ _; first | (show AWP _ _ (.seq (.region _ _ _) _) _ _; refine awp_seq ?_) | (show AWP _ _ (.seq (.seq _ _) _) _ _; refine awp_seq ?_)) | (show IW _ _ _ _ _; first | (refine awp_region ?_) | (refine awp_block ?_)))
  refine awp_loop ?_
  repeat' (first | (refine aops_nil ?_) | (show AOps _ _ _ _ _ _; first | (show AOps _ _ _ _ (⟨some _, .index 58 _ _, _, _, _, none⟩ :: _) _; first | (refine o_y (y_indexA (v := .ptr _ _) rfl rfl (by omega) (by omega) rfl) rfl ?_)) | (show AOps _ _ _ _ (⟨some _, .assign _, _, _, _, none⟩ :: _) _; first | (refine o_y (v_assign (v := .ptr _ _) rfl) rfl ?_)) | (show AOps _ _ _ _ (⟨some _, .move _, _, _, _, none⟩ :: _) _; first | (refine o_y (v_move (v := .sc _) rfl) rfl ?_) | (refine o_y (v_move (v := .ptr _ _) rfl) rfl ?_) | (refine o_y (v_move (v := .tup _) rfl) rfl ?_)) | (show AOps _ _ _ _ (⟨some _, .nilCheck _, _, _, _, none⟩ :: _) _; first | (refine o_y (y_nil_ptr rfl) rfl ?_)) | (show AOps _ _ _ _ (⟨some _, .assign _, _, _, _, none⟩ :: _) _; first | (refine o_y (v_assign (v := .sc _) rfl) rfl ?_) | (refine o_y (v_assign (v := .ptr _ _) rfl) rfl ?_)) | (show AOps _ _ _ _ (⟨some _, .binOp .add _ _ _ _, _, _, _, none⟩ :: _) _; first | (refine o_y (z_add rfl rfl (by omega) (by omega)) rfl ?_) | (refine o_y (y_bin rfl rfl rfl) rfl ?_)) | (show AOps _ _ _ _ (⟨some _, .binOp .mul _ _ _ _, _, _, _, none⟩ :: _) _; first | (refine o_y (y_bin rfl rfl rfl) rfl ?_)) | (show AOps _ _ _ _ (⟨some _, .binOp _ _ _ _ _, _, _, _, none⟩ :: _) _; first | (refine o_y (y_bin rfl rfl rfl) rfl ?_)) | (show AOps _ _ _ _ (⟨some _, .extract _ _, _, _, _, none⟩ :: _) _; first | (refine o_y (y_extract (v := .sc _) rfl rfl) rfl ?_)) | (show AOps _ _ _ _ (⟨_, .call ⟨.value (.func 22), _, _⟩, _, _, _, none⟩ :: _) _; refine o_x (x_callX (cut_spec _ _ (by decide) ht) rfl (by rintro _ rfl; rfl) ?_); rintro _ rfl) | (show AOps _ _ _ _ (⟨_, .call ⟨.value (.func 15), _, _⟩, _, _, _, none⟩ :: _) _; refine o_x (s_callH [0] (by decide) rfl rfl (digits_spec false (hdB t) 2 z0) rfl ⟨rfl, (by first | rfl | exact blk_fl rfl (byts_flat _) | exact blk_fl rfl (strs_flat _) | exact blk_fl rfl (nums_flat _) | exact blk_fl rfl (prs_flat _)), trivial⟩ ?_); rintro _ _ ⟨rfl, rfl⟩; refine o_norm ⟨_, [(0, some ⟨[.sc (.bool (false || !okD (hdB t) 2))], 1, 43⟩), (1, some ⟨[.sc (.int .i64 0), .sc (.int .i64 0), .sc (.int .i64 0), .sc (.int .i64 0), .sc (.int .i64 0), .sc (.int .i64 0), .sc (.int .u32 0)], 7, 46⟩), (2, some ⟨[.sc (.int .i64 0), .sc (.int .i64 0), .sc (.int .i64 0), .sc (.int .i64 0), .sc (.int .i64 0), .sc (.int .i64 0), .sc (.int .u32 0)], 7, 46⟩)]⟩ rfl ⟨rfl, rfl, rfl, trivial⟩ ?_) | (show AOps _ _ _ _ (⟨_, .store _ _ _, _, _, _, none⟩ :: _) _; first | (refine o_x (s_storeN (v := .sc _) rfl rfl rfl rfl rfl (by first | (simp only [List.set_cons_zero, List.set_cons_succ]; rfl) | rfl) ?_)))) | (show IW _ _ _ _ _; first | (refine awp_seq ?_) | (refine awp_region ?_) | (refine awp_block ?_) | (refine awp_skip ?_) | (refine awp_if_t rfl (by first | rfl | assumption | exact beq_self_eq_true _ | exact decide_eq_true rfl) ?_)) | (show thenQ _ _ _ _; first | (refine k_n ?_)))
  refine iw_inLoop ?_
  repeat' (first | (refine aops_nil ?_) | (show AOps _ _ _ _ _ _; first | (show AOps _ _ _ _ (⟨some _, .index 58 _ _, _, _, _, none⟩ :: _) _; first | (refine o_y (y_indexA (v := .ptr _ _) rfl rfl (by omega) (by omega) rfl) rfl ?_)) | (show AOps _ _ _ _ (⟨some _, .assign _, _, _, _, none⟩ :: _) _; first | (refine o_y (v_assign (v := .ptr _ _) rfl) rfl ?_)) | (show AOps _ _ _ _ (⟨some _, .move _, _, _, _, none⟩ :: _) _; first | (refine o_y (v_move (v := .sc _) rfl) rfl ?_) | (refine o_y (v_move (v := .ptr _ _) rfl) rfl ?_) | (refine o_y (v_move (v := .tup _) rfl) rfl ?_)) | (show AOps _ _ _ _ (⟨some _, .nilCheck _, _, _, _, none⟩ :: _) _; first | (refine o_y (y_nil_ptr rfl) rfl ?_)) | (show AOps _ _ _ _ (⟨some _, .assign _, _, _, _, none⟩ :: _) _; first | (refine o_y (v_assign (v := .sc _) rfl) rfl ?_) | (refine o_y (v_assign (v := .ptr _ _) rfl) rfl ?_)) | (show AOps _ _ _ _ (⟨some _, .binOp .add _ _ _ _, _, _, _, none⟩ :: _) _; first | (refine o_y (z_add rfl rfl (by omega) (by omega)) rfl ?_) | (refine o_y (y_bin rfl rfl rfl) rfl ?_)) | (show AOps _ _ _ _ (⟨some _, .binOp .mul _ _ _ _, _, _, _, none⟩ :: _) _; first | (refine o_y (y_bin rfl rfl rfl) rfl ?_)) | (show AOps _ _ _ _ (⟨some _, .binOp _ _ _ _ _, _, _, _, none⟩ :: _) _; first | (refine o_y (y_bin rfl rfl rfl) rfl ?_)) | (show AOps _ _ _ _ (⟨some _, .extract _ _, _, _, _, none⟩ :: _) _; first | (refine o_y (y_extract (v := .sc _) rfl rfl) rfl ?_)) | (show AOps _ _ _ _ (⟨_, .call ⟨.value (.func 22), _, _⟩, _, _, _, none⟩ :: _) _; refine o_x (x_callX (cut_spec _ _ (by decide) z1) rfl (by rintro _ rfl; rfl) ?_); rintro _ rfl) | (show AOps _ _ _ _ (⟨_, .call ⟨.value (.func 15), _, _⟩, _, _, _, none⟩ :: _) _; refine o_x (s_callH [0] (by decide) rfl rfl (digits_spec (false || !okD (hdB t) 2) (hdB (rsB t)) 2 z2) rfl ⟨rfl, (by first | rfl | exact blk_fl rfl (byts_flat _) | exact blk_fl rfl (strs_flat _) | exact blk_fl rfl (nums_flat _) | exact blk_fl rfl (prs_flat _)), trivial⟩ ?_); rintro _ _ ⟨rfl, rfl⟩; refine o_norm ⟨_, [(0, some ⟨[.sc (.bool ((false || !okD (hdB t) 2) || !okD (hdB (rsB t)) 2))], 1, 43⟩), (1, some ⟨[.sc (.int .i64 0), .sc (.int .i64 0), .sc (.int .i64 0), .sc (.int .i64 0), .sc (.int .i64 0), .sc (.int .i64 0), .sc (.int .u32 0)], 7, 46⟩), (2, some ⟨[.sc (.int .i64 0), .sc (.int .i64 0), .sc (.int .i64 0), .sc (.int .i64 (wv (hdB t))), .sc (.int .i64 0), .sc (.int .i64 0), .sc (.int .u32 0)], 7, 46⟩)]⟩ rfl ⟨rfl, rfl, rfl, trivial⟩ ?_) | (show AOps _ _ _ _ (⟨_, .store _ _ _, _, _, _, none⟩ :: _) _; first | (refine o_x (s_storeN (v := .sc _) rfl rfl rfl rfl rfl (by first | (simp only [List.set_cons_zero, List.set_cons_succ]; rfl) | rfl) ?_)))) | (show IW _ _ _ _ _; first | (refine awp_seq ?_) | (refine awp_region ?_) | (refine awp_block ?_) | (refine awp_skip ?_) | (refine awp_if_t rfl (by first | rfl | assumption | exact beq_self_eq_true _ | exact decide_eq_true rfl) ?_)) | (show thenQ _ _ _ _; first | (refine k_n ?_)))
  refine iw_inLoop ?_
  repeat' (first | (refine aops_nil ?_) | (show AOps _ _ _ _ _ _; first | (show AOps _ _ _ _ (⟨some _, .index 58 _ _, _, _, _, none⟩ :: _) _; first | (refine o_y (y_indexA (v := .ptr _ _) rfl rfl (by omega) (by omega) rfl) rfl ?_)) | (show AOps _ _ _ _ (⟨some _, .assign _, _, _, _, none⟩ :: _) _; first | (refine o_y (v_assign (v := .ptr _ _) rfl) rfl ?_)) | (show AOps _ _ _ _ (⟨some _, .move _, _, _, _, none⟩ :: _) _; first | (refine o_y (v_move (v := .sc _) rfl) rfl ?_) | (refine o_y (v_move (v := .ptr _ _) rfl) rfl ?_) | (refine o_y (v_move (v := .tup _) rfl) rfl ?_)) | (show AOps _ _ _ _ (⟨some _, .nilCheck _, _, _, _, none⟩ :: _) _; first | (refine o_y (y_nil_ptr rfl) rfl ?_)) | (show AOps _ _ _ _ (⟨some _, .assign _, _, _, _, none⟩ :: _) _; first | (refine o_y (v_assign (v := .sc _) rfl) rfl ?_) | (refine o_y (v_assign (v := .ptr _ _) rfl) rfl ?_)) | (show AOps _ _ _ _ (⟨some _, .binOp .add _ _ _ _, _, _, _, none⟩ :: _) _; first | (refine o_y (z_add rfl rfl (by omega) (by omega)) rfl ?_) | (refine o_y (y_bin rfl rfl rfl) rfl ?_)) | (show AOps _ _ _ _ (⟨some _, .binOp .mul _ _ _ _, _, _, _, none⟩ :: _) _; first | (refine o_y (y_bin rfl rfl rfl) rfl ?_)) | (show AOps _ _ _ _ (⟨some _, .binOp _ _ _ _ _, _, _, _, none⟩ :: _) _; first | (refine o_y (y_bin rfl rfl rfl) rfl ?_)) | (show AOps _ _ _ _ (⟨some _, .extract _ _, _, _, _, none⟩ :: _) _; first | (refine o_y (y_extract (v := .sc _) rfl rfl) rfl ?_)) | (show AOps _ _ _ _ (⟨_, .call ⟨.value (.func 22), _, _⟩, _, _, _, none⟩ :: _) _; refine o_x (x_callX (cut_spec _ _ (by decide) z3) rfl (by rintro _ rfl; rfl) ?_); rintro _ rfl) | (show AOps _ _ _ _ (⟨_, .call ⟨.value (.func 15), _, _⟩, _, _, _, none⟩ :: _) _; refine o_x (s_callH [0] (by decide) rfl rfl (digits_spec ((false || !okD (hdB t) 2) || !okD (hdB (rsB t)) 2) (hdB (rsB (rsB t))) 2 z4) rfl ⟨rfl, (by first | rfl | exact blk_fl rfl (byts_flat _) | exact blk_fl rfl (strs_flat _) | exact blk_fl rfl (nums_flat _) | exact blk_fl rfl (prs_flat _)), trivial⟩ ?_); rintro _ _ ⟨rfl, rfl⟩; refine o_norm ⟨_, [(0, some ⟨[.sc (.bool (((false || !okD (hdB t) 2) || !okD (hdB (rsB t)) 2) || !okD (hdB (rsB (rsB t))) 2))], 1, 43⟩), (1, some ⟨[.sc (.int .i64 0), .sc (.int .i64 0), .sc (.int .i64 0), .sc (.int .i64 0), .sc (.int .i64 0), .sc (.int .i64 0), .sc (.int .u32 0)], 7, 46⟩), (2, some ⟨[.sc (.int .i64 0), .sc (.int .i64 0), .sc (.int .i64 0), .sc (.int .i64 (wv (hdB t))), .sc (.int .i64 (wv (hdB (rsB t)))), .sc (.int .i64 0), .sc (.int .u32 0)], 7, 46⟩)]⟩ rfl ⟨rfl, rfl, rfl, trivial⟩ ?_) | (show AOps _ _ _ _ (⟨_, .store _ _ _, _, _, _, none⟩ :: _) _; first | (refine o_x (s_storeN (v := .sc _) rfl rfl rfl rfl rfl (by first | (simp only [List.set_cons_zero, List.set_cons_succ]; rfl) | rfl) ?_)))) | (show IW _ _ _ _ _; first | (refine awp_seq ?_) | (refine awp_region ?_) | (refine awp_block ?_) | (refine awp_skip ?_) | (refine awp_if_t rfl (by first | rfl | assumption | exact beq_self_eq_true _ | exact decide_eq_true rfl) ?_)) | (show thenQ _ _ _ _; first | (refine k_n ?_)))
  refine iw_inLoop ?_
  repeat' (first | (refine aops_nil ?_) | (show AOps _ _ _ _ _ _; first | (show AOps _ _ _ _ (⟨some _, .binOp .add _ _ _ _, _, _, _, none⟩ :: _) _; first | (refine o_y (y_bin rfl rfl rfl) rfl ?_)) | (show AOps _ _ _ _ (⟨some _, .binOp .mul _ _ _ _, _, _, _, none⟩ :: _) _; first | (refine o_y (y_bin rfl rfl rfl) rfl ?_)) | (show AOps _ _ _ _ (⟨some _, .binOp _ _ _ _ _, _, _, _, none⟩ :: _) _; first | (refine o_y (y_bin rfl rfl rfl) rfl ?_))) | (show IW _ _ [.code (.seq _ _)] _ _; first | (show AWP _ _ (.seq (.cond _ _ _) _) _ _; refine awp_seq ?_) | (show AWP _ _ (.seq (.seq _ _) _) _ _; refine awp_seq ?_) | (show AWP _ _ (.seq (.region 3 _ _) _) _ _; refine awp_seq ?_)) | (show IW _ _ _ _ _; first | (refine awp_region ?_) | (refine awp_exit ?_) | (refine awp_if_f rfl (by first | rfl | assumption) ?_)))
  cases hB : (((false || !okD (hdB t) 2) || !okD (hdB (rsB t)) 2) || !okD (hdB (rsB (rsB t))) 2) with
  | true =>
    have hk : clkOk t = false := by
      by_cases h6 : 6 ≤ t.size
      · obtain ⟨a1, a2, a3, _⟩ := clk_long h6
        rw [a1, a2, a3] at hB
        unfold clkOk
        revert hB
        cases okD (cA t) 2 <;> cases okD (cB t) 2 <;> cases okD (cC t) 2 <;> simp
      · unfold clkOk; rw [decide_eq_false h6]; rfl
    repeat' (first | (refine aops_nil ?_) | (show AOps _ _ _ _ _ _; first | (show AOps _ _ _ _ (⟨some _, .move _, _, _, _, none⟩ :: _) _; first | (refine o_y (v_move (v := .sc _) rfl) rfl ?_)) | (show AOps _ _ _ _ (⟨some _, .load _ _, _, _, _, none⟩ :: _) _; first | (refine o_y (y_loadW rfl rfl rfl) rfl ?_)) | (show AOps _ _ _ _ (⟨some _, .binOp _ _ _ _ _, _, _, _, none⟩ :: _) _; first | (refine o_y (y_binS rfl rfl rfl) rfl ?_)) | (show AOps _ _ _ _ (⟨_, .store _ _ _, _, _, _, none⟩ :: _) _; first | (refine o_x (s_storeW rfl rfl rfl rfl rfl (by first | rfl | assumption) ?_)))) | (show IW _ _ [.code (.seq _ _)] _ _; first | (show AWP _ _ (.seq (.region 9 _ _) _) _ _; refine awp_seq ?_) | (show AWP _ _ (.seq (.region 10 _ _) _) _ _; refine awp_seq ?_)) | (show IW _ _ _ _ _; first | (refine awp_region ?_) | (refine awp_ret ?_) | (refine awp_skip ?_) | (refine awp_if rfl (fun h hp => ?_) (fun h hp => ?_))) | (show thenQ _ _ _ _; first | (refine k_n ?_) | (refine k_r ?_)))
    · refine retc1 [0] (by decide) rfl rfl rfl rfl ?_
      exact ⟨_, _, _, _, rfl, by rw [hk]; rfl, fun h => by rw [hk] at h; cases h⟩
    · have hp1 := ba_pos hp
      repeat' (first | (refine aops_nil ?_) | (show AOps _ _ _ _ _ _; first | (show AOps _ _ _ _ (⟨some _, .move _, _, _, _, none⟩ :: _) _; first | (refine o_y (v_move (v := .sc _) rfl) rfl ?_) | (refine o_y (v_move (v := .ptr _ _) rfl) rfl ?_)) | (show AOps _ _ _ _ (⟨some _, .load _ _, _, _, _, none⟩ :: _) _; first | (refine o_y (y_load1 (v := .sc _) rfl rfl rfl) rfl ?_) | (refine o_y (y_loadW rfl rfl rfl) rfl ?_)) | (show AOps _ _ _ _ (⟨some _, .fieldAddr _ _ _, _, _, _, none⟩ :: _) _; first | (refine o_y (y_fld_ptr rfl rfl) rfl ?_)) | (show AOps _ _ _ _ (⟨some _, .nilCheck _, _, _, _, none⟩ :: _) _; first | (refine o_y (y_nil_ptr rfl) rfl ?_)) | (show AOps _ _ _ _ (⟨some _, .assign _, _, _, _, none⟩ :: _) _; first | (refine o_y (v_assign (v := .sc _) rfl) rfl ?_)) | (show AOps _ _ _ _ (⟨some _, .pick _ _ _, _, _, _, none⟩ :: _) _; first | (refine o_y (v_pick_t (v := .sc _) rfl (by first | rfl | assumption | exact beq_self_eq_true _ | exact decide_eq_true rfl) rfl) rfl ?_)) | (show AOps _ _ _ _ (⟨some _, .slice _ _ _ _ _, _, _, _, none⟩ :: _) _; first | (refine o_y (y_sliceS_l rfl rfl (by omega) (by omega)) rfl ?_)) | (show AOps _ _ _ _ (⟨_, .store _ _ _, _, _, _, none⟩ :: _) _; first | (refine o_x (s_storeN (v := .sc _) rfl rfl rfl rfl rfl (by first | (simp only [List.set_cons_zero, List.set_cons_succ]; rfl) | rfl) ?_)) | (refine o_x (s_storeW rfl rfl rfl rfl rfl (by first | rfl | assumption) ?_))) | (show AOps _ _ _ _ (⟨_, _, _, _, _, some (_, _)⟩ :: _) _; first | (refine o_g_f rfl rfl rfl (by first | rfl | assumption) ?_))) | (show IW _ _ _ _ _; first | (refine awp_seq ?_) | (refine awp_region ?_) | (refine awp_ret ?_) | (refine awp_if_t rfl (by first | rfl | assumption | exact beq_self_eq_true _ | exact decide_eq_true rfl) ?_)) | (show thenQ _ _ _ _; first | (refine k_r ?_)))
      refine retc1 [0] (by decide) rfl rfl rfl rfl ?_
      exact ⟨_, _, _, _, rfl, by rw [hk]; rfl, fun h => by rw [hk] at h; cases h⟩
  | false =>
    have h6 : 6 ≤ t.size := Decidable.byContradiction fun h => by rw [clk_short (by omega)] at hB; simp at hB
    obtain ⟨a1, a2, a3, a4⟩ := clk_long h6
    have hB' : okD (cA t) 2 = true ∧ okD (cB t) 2 = true ∧ okD (cC t) 2 = true := by
      rw [a1, a2, a3] at hB
      simpa [and_assoc] using hB
    obtain ⟨o1, o2, o3⟩ := hB'
    have s6 : (t.extract 6 t.size).size = t.size - 6 := by rw [ByteArray.size_extract]; omega
    have sD : (cD t).size = t.size - 7 := by unfold cD; rw [ByteArray.size_extract]; omega
    rw [show (rsB (rsB t)).extract (min 2 ((rsB (rsB t)).size : Int)).toNat (rsB (rsB t)).size = t.extract 6 t.size from a4]
    by_cases h66 : t.size = 6
    · have hk : clkOk t = true := by unfold clkOk; rw [o1, o2, o3]; simp [h66]
      have hT : decide (t.extract 6 t.size = (⟨#[]⟩ : ByteArray)) = true := by
        refine decide_eq_true ?_
        have hz : (t.extract 6 t.size).size = 0 := by omega
        generalize t.extract 6 t.size = w at hz
        obtain ⟨⟨l⟩⟩ := w
        exact congrArg (fun x => ByteArray.mk (Array.mk x)) (List.length_eq_zero_iff.1 hz)
      repeat' (first | (refine aops_nil ?_) | (show AOps _ _ _ _ _ _; first | (show AOps _ _ _ _ (⟨some _, .move _, _, _, _, none⟩ :: _) _; first | (refine o_y (v_move (v := .sc _) rfl) rfl ?_)) | (show AOps _ _ _ _ (⟨some _, .load _ _, _, _, _, none⟩ :: _) _; first | (refine o_y (y_loadW rfl rfl rfl) rfl ?_)) | (show AOps _ _ _ _ (⟨some _, .binOp _ _ _ _ _, _, _, _, none⟩ :: _) _; first | (refine o_y (y_binS rfl rfl rfl) rfl ?_)) | (show AOps _ _ _ _ (⟨_, .store _ _ _, _, _, _, none⟩ :: _) _; first | (refine o_x (s_storeW rfl rfl rfl rfl rfl (by first | rfl | assumption) ?_)))) | (show IW _ _ _ _ _; first | (refine awp_seq ?_) | (refine awp_region ?_) | (refine awp_ret ?_) | (refine awp_if_t rfl (by first | rfl | assumption | exact beq_self_eq_true _ | exact decide_eq_true rfl) ?_)) | (show thenQ _ _ _ _; first | (refine k_r ?_)))
      refine retc1 [0] (by decide) rfl rfl rfl rfl ?_
      exact ⟨_, _, _, _, rfl, by rw [hk]; rfl, fun _ => ⟨congrArg wv a1, congrArg wv a2, congrArg wv a3, by unfold frac; rw [if_pos h66]⟩⟩
    · have hT : decide (t.extract 6 t.size = (⟨#[]⟩ : ByteArray)) = false := by
        refine decide_eq_false fun e => ?_
        rw [e] at s6
        have : (⟨#[]⟩ : ByteArray).size = 0 := rfl
        omega
      have e7 : (t.extract 6 t.size).extract 1 (t.extract 6 t.size).size = cD t := (ext_ext t (a := 6) (n := t.size) (i := 1) (by omega) (Nat.le_refl _)).2
      have b6 : bt (t.extract 6 t.size) 0 = bt t 6 := bt_ext (s := t) (a := 6) (n := t.size) (j := 0) (by omega)
      repeat' (first | (refine aops_nil ?_) | (show AOps _ _ _ _ _ _; first | (show AOps _ _ _ _ (⟨some _, .move _, _, _, _, none⟩ :: _) _; first | (refine o_y (v_move (v := .sc _) rfl) rfl ?_)) | (show AOps _ _ _ _ (⟨some _, .assign _, _, _, _, none⟩ :: _) _; first | (refine o_y (v_assign (v := .sc _) rfl) rfl ?_)) | (show AOps _ _ _ _ (⟨some _, .binOp _ _ _ _ _, _, _, _, none⟩ :: _) _; first | (refine o_y (y_binS rfl rfl rfl) rfl ?_)) | (show AOps _ _ _ _ (⟨some _, .slice _ _ _ _ _, _, _, _, none⟩ :: _) _; first | (refine o_y (y_sliceS_l rfl rfl (by omega) (by omega)) rfl ?_))) | (show IW _ _ [.code (.seq _ _)] _ _; first | (show AWP _ _ (.seq (.region 9 _ _) _) _ _; refine awp_seq ?_) | (show AWP _ _ (.seq (.region 11 _ _) _) _ _; refine awp_seq ?_)) | (show IW _ _ _ _ _; first | (refine awp_region ?_) | (refine awp_skip ?_) | (refine awp_if_f rfl (by first | rfl | assumption) ?_)) | (show thenQ _ _ _ _; first | (refine k_n ?_)))
      rw [show (t.extract 6 t.size).extract (Int.toNat 1) (t.extract 6 t.size).size = cD t from e7]
      by_cases hq : bt t 6 = 46 ∧ 8 ≤ t.size ∧ t.size ≤ 13
      · obtain ⟨q1, q2, q3⟩ := hq
        repeat' (first | (refine aops_nil ?_) | (show AOps _ _ _ _ _ _; first | (show AOps _ _ _ _ (⟨some _, .move _, _, _, _, none⟩ :: _) _; first | (refine o_y (v_move (v := .sc _) rfl) rfl ?_) | (refine o_y (v_move (v := .ptr _ _) rfl) rfl ?_)) | (show AOps _ _ _ _ (⟨some _, .load _ _, _, _, _, none⟩ :: _) _; first | (refine o_y (y_load1 (v := .sc _) rfl rfl rfl) rfl ?_) | (refine o_y (y_loadW rfl rfl rfl) rfl ?_)) | (show AOps _ _ _ _ (⟨some _, .fieldAddr _ _ _, _, _, _, none⟩ :: _) _; first | (refine o_y (y_fld_ptr rfl rfl) rfl ?_)) | (show AOps _ _ _ _ (⟨some _, .nilCheck _, _, _, _, none⟩ :: _) _; first | (refine o_y (y_nil_ptr rfl) rfl ?_)) | (show AOps _ _ _ _ (⟨some _, .assign _, _, _, _, none⟩ :: _) _; first | (refine o_y (v_assign (v := .sc _) rfl) rfl ?_)) | (show AOps _ _ _ _ (⟨some _, .binOp .add _ _ _ _, _, _, _, none⟩ :: _) _; first | (refine o_y (y_bin rfl rfl rfl) rfl ?_)) | (show AOps _ _ _ _ (⟨some _, .binOp .mul _ _ _ _, _, _, _, none⟩ :: _) _; first | (refine o_y (y_bin rfl rfl rfl) rfl ?_)) | (show AOps _ _ _ _ (⟨some _, .binOp _ _ _ _ _, _, _, _, none⟩ :: _) _; first | (refine o_y (y_bin rfl rfl rfl) rfl ?_)) | (show AOps _ _ _ _ (⟨some _, .pick _ _ _, _, _, _, none⟩ :: _) _; first | (refine o_y (v_pick_t (v := .sc _) rfl (by first | rfl | assumption | exact beq_self_eq_true _ | exact decide_eq_true rfl) rfl) rfl ?_) | (refine o_y (v_pick_f (v := .sc _) rfl (by first | rfl | assumption) rfl) rfl ?_)) | (show AOps _ _ _ _ (⟨some _, .call ⟨.builtin .len, _, _⟩, _, _, _, none⟩ :: _) _; first | (refine o_y (y_lenS rfl) rfl ?_)) | (show AOps _ _ _ _ (⟨some _, .index _ _ _, _, _, _, none⟩ :: _) _; first | (refine o_y (y_indexS rfl rfl (by omega) (by omega)) rfl ?_)) | (show AOps _ _ _ _ (⟨_, .store _ _ _, _, _, _, none⟩ :: _) _; first | (refine o_x (s_storeN (v := .sc _) rfl rfl rfl rfl rfl (by first | (simp only [List.set_cons_zero, List.set_cons_succ]; rfl) | rfl) ?_)) | (refine o_x (s_storeW rfl rfl rfl rfl rfl (by first | rfl | assumption) ?_))) | (show AOps _ _ _ _ (⟨_, _, _, _, _, some (_, _)⟩ :: _) _; first | (refine o_g_t rfl rfl rfl (by first | rfl | assumption | exact beq_self_eq_true _ | exact decide_eq_true rfl) ?_) | (refine o_g_f rfl rfl rfl (by first | rfl | assumption) ?_) | (refine o_un rfl rfl rfl (fun h hp => ?_) (fun h hp => ?_)))) | (show IW _ _ [.code (.seq _ _)] _ _; first | (show AWP _ _ (.seq (.seq _ _) _) _ _; refine awp_seq ?_) | (show AWP _ _ (.seq (.region 12 _ _) _) _ _; refine awp_seq ?_) | (show AWP _ _ (.seq (.region 13 _ _) _) _ _; refine awp_seq ?_) | (show AWP _ _ (.seq (.region 14 _ _) _) _ _; refine awp_seq ?_) | (show AWP _ _ (.seq (.region 15 _ _) _) _ _; refine awp_seq ?_)) | (show IW _ _ _ _ _; first | (refine awp_region ?_) | (refine awp_ret ?_) | (refine awp_skip ?_) | (refine awp_if_t rfl (by first | rfl | assumption | exact beq_self_eq_true _ | exact decide_eq_true rfl) ?_) | (refine awp_if rfl (fun h hp => ?_) (fun h hp => ?_))) | (show thenQ _ _ _ _; first | (refine k_r ?_)))
        all_goals first | (exfalso; omega) | skip
        repeat' (first | (refine aops_nil ?_) | (show AOps _ _ _ _ _ _; first | (show AOps _ _ _ _ (⟨some _, .move _, _, _, _, none⟩ :: _) _; first | (refine o_y (v_move (v := .sc _) rfl) rfl ?_)) | (show AOps _ _ _ _ (⟨_, .range _ _, _, _, _, none⟩ :: _) _; first | (refine o_x (x_rangeS rfl rfl ?_)))) | (show IW _ _ [.code (.seq _ _)] _ _; first | (show AWP _ _ (.seq (.region _ _ _) _) _ _; refine awp_seq ?_)) | (show IW _ _ _ _ _; first | (refine awp_region ?_) | (refine awp_block ?_)))
        refine awp_loopI (fun x : Nat × Nat => x.2 ≤ x.1 ∧ x.2 ≤ (cD t).size ∧ (dgs (cD t) (cD t).size = true → x.2 = x.1)) (fun x => (cD t).size - x.1) (fun x => [(0, .ptr 0 0), (4, .ptr 1 0), (5, .ptr 2 0), (9, .sc (.string (cD t))), (10, .sc (.int .i64 ((10 ^ x.2 : Nat) : Int))), (62, .it 3)]) 4 (fun x => [(0, some ⟨[.sc (.bool false)], 1, 43⟩), (1, some ⟨[.sc (.int .i64 0), .sc (.int .i64 0), .sc (.int .i64 0), .sc (.int .i64 0), .sc (.int .i64 0), .sc (.int .i64 0), .sc (.int .u32 0)], 7, 46⟩), (2, some ⟨[.sc (.int .i64 0), .sc (.int .i64 0), .sc (.int .i64 0), .sc (.int .i64 (wv (cA t))), .sc (.int .i64 (wv (cB t))), .sc (.int .i64 (wv (cC t))), .sc (.int .u32 0)], 7, 46⟩), (3, some (itc (cD t) x.1))]) (0, 0) [0, 1, 2, 3] (by decide) rfl rfl rfl ⟨Nat.le_refl _, Nat.zero_le _, fun _ => rfl⟩ ⟨rfl, rfl, rfl, rfl, rfl, rfl, trivial⟩ ⟨rfl, congrArg (fun x => some (⟨[AV.sc (.bool x)], 1, 43⟩ : Blk)) h, rfl, rfl, rfl, (by rw [← a1, ← a2, ← a3]; rfl), rfl, rfl, trivial⟩ ?_
        clear h hp
        have hkD : clkOk t = okD (cD t) (((cD t).size : Nat) : Int) := by
          unfold clkOk
          rw [o1, o2, o3, decide_eq_true h6, decide_eq_false h66, decide_eq_true q1, decide_eq_true q2, decide_eq_true q3, show (((cD t).size : Nat) : Int) = (t.size : Int) - 7 by omega]
          rfl
        have zD : (cD t).size ≤ 1048576 := by omega
        have w6 := wv_le (t := cD t) (by omega)
        rintro ⟨p, k⟩ ⟨i1, i2, i3⟩ ih
        dsimp only at i1 i2 i3 ih ⊢
        by_cases hlt : p < (cD t).size
        · have hk5 := pow_le5 (k := k) (by omega)
          have hb := bt_range (cD t) (p : Int)
          have hm := congrArg (fun x => AV.sc (.int .i64 x)) (pow_mul hk5)
          by_cases hc : bt (cD t) (p : Int) < 128
          · obtain ⟨c, hd, _⟩ := dec_lo hlt hc
            repeat' (first | (refine aops_nil ?_) | (show AOps _ _ _ _ _ _; first | (show AOps _ _ _ _ (⟨some _, .move _, _, _, _, none⟩ :: _) _; first | (refine o_y (v_move (v := .sc _) rfl) rfl ?_)) | (show AOps _ _ _ _ (⟨some _, .assign _, _, _, _, none⟩ :: _) _; first | (refine o_y (v_assign (v := .sc _) rfl) rfl ?_)) | (show AOps _ _ _ _ (⟨some _, .binOp .add _ _ _ _, _, _, _, none⟩ :: _) _; first | (refine o_y (y_bin rfl rfl rfl) rfl ?_)) | (show AOps _ _ _ _ (⟨some _, .binOp .mul _ _ _ _, _, _, _, none⟩ :: _) _; first | (refine o_y (y_bin rfl rfl rfl) rfl ?_)) | (show AOps _ _ _ _ (⟨some _, .binOp _ _ _ _ _, _, _, _, none⟩ :: _) _; first | (refine o_y (y_bin rfl rfl rfl) rfl ?_)) | (show AOps _ _ _ _ (⟨some _, .extract _ _, _, _, _, none⟩ :: _) _; first | (refine o_y (y_extract (v := .sc _) rfl rfl) rfl ?_)) | (show AOps _ _ _ _ (⟨_, .next _ _, _, _, _, none⟩ :: _) _; first | (refine o_x (x_nextS rfl rfl (by assumption) (by assumption) rfl ?_)))) | (show IW _ _ _ _ _; first | (refine awp_seq ?_) | (refine awp_region ?_) | (refine awp_block ?_) | (refine awp_skip ?_) | (refine awp_if_t rfl (by first | rfl | assumption | exact beq_self_eq_true _ | exact decide_eq_true rfl) ?_)) | (show thenQ _ _ _ _; first | (refine k_n ?_)) | (show blockQ _ _ _ _; first | (refine k_n' ?_)))
            exact iw_at [0, 1, 2, 3] (ih (p + 1, k + 1) ⟨by dsimp only; omega, by dsimp only; omega, fun h => by have := i3 h; dsimp only; omega⟩ (by dsimp only; omega)) (by decide) rfl rfl rfl ⟨rfl, rfl, rfl, rfl, hm, rfl, trivial⟩ ⟨rfl, rfl, rfl, rfl, rfl, rfl, rfl, rfl, trivial⟩
          · obtain ⟨c, wd, hd, hw⟩ := dec_hi hlt (by omega)
            have hnd : ¬ dgs (cD t) (cD t).size = true := fun h => by
              have : 48 ≤ bt (cD t) (p : Int) ∧ bt (cD t) (p : Int) ≤ 57 := dgs_of h hlt
              omega
            repeat' (first | (refine aops_nil ?_) | (show AOps _ _ _ _ _ _; first | (show AOps _ _ _ _ (⟨some _, .move _, _, _, _, none⟩ :: _) _; first | (refine o_y (v_move (v := .sc _) rfl) rfl ?_)) | (show AOps _ _ _ _ (⟨some _, .assign _, _, _, _, none⟩ :: _) _; first | (refine o_y (v_assign (v := .sc _) rfl) rfl ?_)) | (show AOps _ _ _ _ (⟨some _, .binOp .add _ _ _ _, _, _, _, none⟩ :: _) _; first | (refine o_y (y_bin rfl rfl rfl) rfl ?_)) | (show AOps _ _ _ _ (⟨some _, .binOp .mul _ _ _ _, _, _, _, none⟩ :: _) _; first | (refine o_y (y_bin rfl rfl rfl) rfl ?_)) | (show AOps _ _ _ _ (⟨some _, .binOp _ _ _ _ _, _, _, _, none⟩ :: _) _; first | (refine o_y (y_bin rfl rfl rfl) rfl ?_)) | (show AOps _ _ _ _ (⟨some _, .extract _ _, _, _, _, none⟩ :: _) _; first | (refine o_y (y_extract (v := .sc _) rfl rfl) rfl ?_)) | (show AOps _ _ _ _ (⟨_, .next _ _, _, _, _, none⟩ :: _) _; first | (refine o_x (x_nextS rfl rfl (by assumption) (by assumption) rfl ?_)))) | (show IW _ _ _ _ _; first | (refine awp_seq ?_) | (refine awp_region ?_) | (refine awp_block ?_) | (refine awp_skip ?_) | (refine awp_if_t rfl (by first | rfl | assumption | exact beq_self_eq_true _ | exact decide_eq_true rfl) ?_)) | (show thenQ _ _ _ _; first | (refine k_n ?_)) | (show blockQ _ _ _ _; first | (refine k_n' ?_)))
            exact iw_at [0, 1, 2, 3] (ih (p + wd, k + 1) ⟨by dsimp only; omega, by dsimp only; omega, fun h => absurd h hnd⟩ (by dsimp only; omega)) (by decide) rfl rfl rfl ⟨rfl, rfl, rfl, rfl, hm, rfl, trivial⟩ ⟨rfl, rfl, rfl, rfl, rfl, rfl, rfl, rfl, trivial⟩
        · have hk6 := Nat.pow_le_pow_right (n := 10) (i := k) (j := 6) (by omega) (by omega)
          have hk0 : 0 < 10 ^ k := Nat.pow_pos (by omega)
          repeat' (first | (refine aops_nil ?_) | (show AOps _ _ _ _ _ _; first | (show AOps _ _ _ _ (⟨some _, .move _, _, _, _, none⟩ :: _) _; first | (refine o_y (v_move (v := .sc _) rfl) rfl ?_) | (refine o_y (v_move (v := .ptr _ _) rfl) rfl ?_)) | (show AOps _ _ _ _ (⟨some _, .load _ _, _, _, _, none⟩ :: _) _; first | (refine o_y (y_loadW rfl rfl rfl) rfl ?_)) | (show AOps _ _ _ _ (⟨some _, .fieldAddr _ _ _, _, _, _, none⟩ :: _) _; first | (refine o_y (y_fld_ptr rfl rfl) rfl ?_)) | (show AOps _ _ _ _ (⟨some _, .binOp .quo _ _ _ _, _, _, _, none⟩ :: _) _; first | (refine o_y (y_quo rfl rfl (by omega)) rfl ?_)) | (show AOps _ _ _ _ (⟨some _, .binOp .shl _ _ _ _, _, _, _, none⟩ :: _) _; first | (refine o_y (y_shl rfl rfl (by omega)) rfl ?_)) | (show AOps _ _ _ _ (⟨some _, .convert _ _ _, _, _, _, none⟩ :: _) _; first | (refine o_y (z_convu64 rfl (by omega) (by omega)) rfl ?_) | (refine o_y (y_conv rfl) rfl ?_)) | (show AOps _ _ _ _ (⟨some _, .call ⟨.builtin .len, _, _⟩, _, _, _, none⟩ :: _) _; first | (refine o_y (y_lenS rfl) rfl ?_)) | (show AOps _ _ _ _ (⟨some _, .extract _ _, _, _, _, none⟩ :: _) _; first | (refine o_y (y_extract (v := .sc _) rfl rfl) rfl ?_)) | (show AOps _ _ _ _ (⟨_, .call ⟨.value (.func 15), _, _⟩, _, _, _, none⟩ :: _) _; refine o_x (s_callH [0] (by decide) rfl rfl (digits_spec false (cD t) (((cD t).size : Nat) : Int) zD) rfl ⟨rfl, (by first | rfl | exact blk_fl rfl (byts_flat _) | exact blk_fl rfl (strs_flat _) | exact blk_fl rfl (nums_flat _) | exact blk_fl rfl (prs_flat _)), trivial⟩ ?_); rintro _ _ ⟨rfl, rfl⟩; refine o_norm ⟨_, [(0, some ⟨[.sc (.bool (false || !okD (cD t) (((cD t).size : Nat) : Int)))], 1, 43⟩), (1, some ⟨[.sc (.int .i64 0), .sc (.int .i64 0), .sc (.int .i64 0), .sc (.int .i64 0), .sc (.int .i64 0), .sc (.int .i64 0), .sc (.int .u32 0)], 7, 46⟩), (2, some ⟨[.sc (.int .i64 0), .sc (.int .i64 0), .sc (.int .i64 0), .sc (.int .i64 (wv (cA t))), .sc (.int .i64 (wv (cB t))), .sc (.int .i64 (wv (cC t))), .sc (.int .u32 0)], 7, 46⟩)]⟩ rfl ⟨rfl, rfl, rfl, trivial⟩ ?_) | (show AOps _ _ _ _ (⟨_, .store _ _ _, _, _, _, none⟩ :: _) _; first | (refine o_x (s_storeN (v := .sc _) rfl rfl rfl rfl rfl (by first | (simp only [List.set_cons_zero, List.set_cons_succ]; rfl) | rfl) ?_)) | (refine o_x (s_storeW rfl rfl rfl rfl rfl (by first | rfl | assumption) ?_))) | (show AOps _ _ _ _ (⟨_, .next _ _, _, _, _, none⟩ :: _) _; first | (refine o_x (x_nextE rfl rfl (by omega) rfl ?_)))) | (show IW _ _ _ _ _; first | (refine awp_seq ?_) | (refine awp_region ?_) | (refine awp_exit ?_) | (refine awp_ret ?_) | (refine awp_if_f rfl (by first | rfl | assumption) ?_)))
          refine retc1 [0] (by decide) rfl rfl rfl rfl ?_
          refine ⟨_, _, _, _, rfl, by rw [hkD]; rfl, fun hO => ⟨rfl, rfl, rfl, ?_⟩⟩
          rw [hkD] at hO
          have hds : dgs (cD t) (cD t).size = true := by unfold okD at hO; simp only [Bool.and_eq_true] at hO; exact hO.2
          have hkk : k = (cD t).size := by have := i3 hds; omega
          have hlt' := (wv_lt hO (by omega)).2
          rw [← hkk] at hlt'
          refine (frac_eq w6.1 (by omega) (by omega) hlt').trans ?_
          unfold frac
          rw [if_neg h66, hkk, sD]
      · have hk : clkOk t = false := by
          unfold clkOk
          rw [decide_eq_false h66]
          have : (decide (bt t 6 = 46) && decide (8 ≤ t.size) && decide (t.size ≤ 13)) = false := by
            rw [← Bool.not_eq_true]
            intro h
            simp only [Bool.and_eq_true, decide_eq_true_eq] at h
            exact hq ⟨h.1.1, h.1.2, h.2⟩
          rw [this]
          simp
        repeat' (first | (refine aops_nil ?_) | (show AOps _ _ _ _ _ _; first | (show AOps _ _ _ _ (⟨some _, .move _, _, _, _, none⟩ :: _) _; first | (refine o_y (v_move (v := .sc _) rfl) rfl ?_) | (refine o_y (v_move (v := .ptr _ _) rfl) rfl ?_)) | (show AOps _ _ _ _ (⟨some _, .load _ _, _, _, _, none⟩ :: _) _; first | (refine o_y (y_load1 (v := .sc _) rfl rfl rfl) rfl ?_) | (refine o_y (y_loadW rfl rfl rfl) rfl ?_)) | (show AOps _ _ _ _ (⟨some _, .fieldAddr _ _ _, _, _, _, none⟩ :: _) _; first | (refine o_y (y_fld_ptr rfl rfl) rfl ?_)) | (show AOps _ _ _ _ (⟨some _, .nilCheck _, _, _, _, none⟩ :: _) _; first | (refine o_y (y_nil_ptr rfl) rfl ?_)) | (show AOps _ _ _ _ (⟨some _, .binOp .add _ _ _ _, _, _, _, none⟩ :: _) _; first | (refine o_y (y_bin rfl rfl rfl) rfl ?_)) | (show AOps _ _ _ _ (⟨some _, .binOp .mul _ _ _ _, _, _, _, none⟩ :: _) _; first | (refine o_y (y_bin rfl rfl rfl) rfl ?_)) | (show AOps _ _ _ _ (⟨some _, .binOp _ _ _ _ _, _, _, _, none⟩ :: _) _; first | (refine o_y (y_bin rfl rfl rfl) rfl ?_)) | (show AOps _ _ _ _ (⟨some _, .pick _ _ _, _, _, _, none⟩ :: _) _; first | (refine o_y (v_pick_t (v := .sc _) rfl (by first | rfl | assumption | exact beq_self_eq_true _ | exact decide_eq_true rfl) rfl) rfl ?_) | (refine o_y (v_pick_f (v := .sc _) rfl (by first | rfl | assumption) rfl) rfl ?_)) | (show AOps _ _ _ _ (⟨some _, .call ⟨.builtin .len, _, _⟩, _, _, _, none⟩ :: _) _; first | (refine o_y (y_lenS rfl) rfl ?_)) | (show AOps _ _ _ _ (⟨some _, .index _ _ _, _, _, _, none⟩ :: _) _; first | (refine o_y (y_indexS rfl rfl (by omega) (by omega)) rfl ?_)) | (show AOps _ _ _ _ (⟨_, .store _ _ _, _, _, _, none⟩ :: _) _; first | (refine o_x (s_storeN (v := .sc _) rfl rfl rfl rfl rfl (by first | (simp only [List.set_cons_zero, List.set_cons_succ]; rfl) | rfl) ?_)) | (refine o_x (s_storeW rfl rfl rfl rfl rfl (by first | rfl | assumption) ?_))) | (show AOps _ _ _ _ (⟨_, _, _, _, _, some (_, _)⟩ :: _) _; first | (refine o_g_t rfl rfl rfl (by first | rfl | assumption | exact beq_self_eq_true _ | exact decide_eq_true rfl) ?_) | (refine o_g_f rfl rfl rfl (by first | rfl | assumption) ?_) | (refine o_un rfl rfl rfl (fun h hp => ?_) (fun h hp => ?_)))) | (show IW _ _ [.code (.seq _ _)] _ _; first | (show AWP _ _ (.seq (.seq _ _) _) _ _; refine awp_seq ?_) | (show AWP _ _ (.seq (.region 12 _ _) _) _ _; refine awp_seq ?_) | (show AWP _ _ (.seq (.region 13 _ _) _) _ _; refine awp_seq ?_) | (show AWP _ _ (.seq (.region 14 _ _) _) _ _; refine awp_seq ?_)) | (show IW _ _ _ _ _; first | (refine awp_region ?_) | (refine awp_ret ?_) | (refine awp_skip ?_) | (refine awp_if_t rfl (by first | rfl | assumption | exact beq_self_eq_true _ | exact decide_eq_true rfl) ?_) | (refine awp_if rfl (fun h hp => ?_) (fun h hp => ?_))) | (show thenQ _ _ _ _; first | (refine k_n ?_) | (refine k_r ?_)))
        all_goals first
          | (exfalso; omega)
          | (refine retc1 [0] (by decide) rfl rfl rfl rfl ?_
             exact ⟨_, _, _, _, rfl, by rw [hk]; first | rfl | exact congrArg (fun x => (⟨1, [(0, some ⟨[AV.sc (.bool x)], 1, 43⟩)]⟩ : Hp)) (by assumption), fun h => by rw [hk] at h; cases h⟩)
          | skip
end Go.Proofs.YtdkdnhenogdjiaaDoor.Sx
