/- Texts: where the first byte of a kind stands; a prefix cut off; a text cut at a quote. Runes: how they lie in a text; where a rune stands in a short plain text. -/
import Derived.Test.YtdcnpkbflelpfaaDoorT
import Derived.Test.YtdcnpkbflelpfaaDoorSx41
import Derived.Test.YtdcnpkbflelpfaaDoorSx35
import Derived.KernelRfl
import Derived.Test.YtdcnpkbflelpfaaDoorSx42
namespace Go.Proofs.YtdcnpkbflelpfaaDoor.Sx
open Go Go.RowKit
attribute [local irreducible] IW AOps AQuiet GQ GY AExec QY Yld ACalls ACallsD
instance ext65 : Extn Tryd.prog 65 Extern.BytealgIndexByte.indexByte := extn_of Tryd.func65 (by kernel_rfl) (by kernel_rfl) (by kernel_rfl) (by kernel_rfl)
theorem ints_at {s : ByteArray} {i : Nat} (h : i < s.size) : (ints s)[i]? = some (bt s i) := by
  have h' : i < s.data.toList.length := h
  unfold bt ints
  rw [List.getElem?_map, Int.toNat_natCast, List.getD_eq_getElem?_getD, List.getElem?_eq_getElem h']
  rfl
theorem ints_get {s : ByteArray} {i : Nat} (h : i < s.size) (h' : i < (ints s).length) : (ints s)[i] = bt s i := by
  have := ints_at h
  rw [List.getElem?_eq_getElem h'] at this
  exact Option.some.inj this
/-- Where the first byte of a kind stands, or the length. -/
def ix (p : Int → Bool) (s : ByteArray) : Nat := (ints s).findIdx p
theorem ix_le (p : Int → Bool) (s : ByteArray) : ix p s ≤ s.size := by
  have := List.findIdx_le_length (p := p) (xs := ints s)
  rwa [ints_length] at this
theorem ix_before {p : Int → Bool} {s : ByteArray} {i : Nat} (h : i < ix p s) : p (bt s i) = false := by
  have hi : i < s.size := by have := ix_le p s; omega
  have h1 := List.not_of_lt_findIdx (p := p) (xs := ints s) h
  rwa [ints_get hi] at h1
theorem ix_at {p : Int → Bool} {s : ByteArray} (h : ix p s < s.size) : p (bt s (ix p s)) = true := by
  have hi : ix p s < (ints s).length := by rw [ints_length]; exact h
  have h1 := List.findIdx_getElem (p := p) (xs := ints s) (w := hi)
  have e : (ints s)[(ints s).findIdx p] = bt s (ix p s) := ints_get h hi
  rwa [e] at h1
theorem ix_is {p : Int → Bool} {s : ByteArray} {i : Nat} (h : i ≤ s.size) (hb : ∀ j, j < i → p (bt s j) = false) (ha : i < s.size → p (bt s i) = true) : ix p s = i := by
  have h1 := ix_le p s
  rcases (by omega : ix p s < i ∨ ix p s = i ∨ i < ix p s) with h2 | h2 | h2
  · have := ix_at (p := p) (s := s) (by omega)
    rw [hb _ h2] at this
    cases this
  · exact h2
  · have := ix_before h2
    rw [ha (by omega)] at this
    cases this
def ixI (p : Int → Bool) (s : ByteArray) : Int := if ix p s < s.size then (ix p s : Int) else -1
def pB (c : Int) : Int → Bool := fun x => decide (x = c)
theorem idx_of (b : UInt8) : ∀ l : List UInt8, Lib.indexByte l b = if l.findIdx (· == b) < l.length then ((l.findIdx (· == b) : Nat) : Int) else -1
  | [] => rfl
  | x :: l => by
    unfold Lib.indexByte
    rw [idx_of b l, List.findIdx_cons]
    by_cases hb : (x == b) = true
    · simp [hb]
    · have hb' : (x == b) = false := by simpa using hb
      simp only [hb', Bool.false_eq_true, if_false, cond_false, List.length_cons]
      by_cases h : l.findIdx (· == b) < l.length
      · have hne : (((l.findIdx (· == b) : Nat) : Int) == -1) = false := by rw [beq_eq_false_iff_ne]; omega
        simp only [h, if_true, hne, Bool.false_eq_true, if_false, if_pos (Nat.succ_lt_succ h)]
        rfl
      · simp only [h, if_false, if_neg (fun hh => h (Nat.lt_of_succ_lt_succ hh))]
        rfl
theorem idx_byte (s : ByteArray) (c : Int) (h : 0 ≤ c ∧ c ≤ 255) : Lib.indexByte s.data.toList c.toNat.toUInt8 = ixI (pB c) s := by
  have hf : s.data.toList.findIdx (· == c.toNat.toUInt8) = ix (pB c) s := by
    unfold ix ints
    rw [List.findIdx_map]
    congr 1
    funext x
    show (x == c.toNat.toUInt8) = decide ((x.toNat : Int) = c)
    rw [Bool.eq_iff_iff, beq_iff_eq, decide_eq_true_iff, ← UInt8.toNat_inj]
    have : c.toNat.toUInt8.toNat = c.toNat := by simp [Nat.toUInt8]; omega
    rw [this]
    omega
  rw [idx_of, hf]
  rfl
theorem idxb_spec (s : ByteArray) (c : Int) (h : 0 ≤ c ∧ c ≤ 255) : ACalls Tryd.prog 64 [.sc (.string s), .sc (.int .u8 c)] ⟨0, []⟩ (fun r _ => r = .sc (.int .i64 (ixI (pB c) s))) := by
  refine enter2 Tryd.func64 rfl 8 0 [.tmp 4] rfl rfl rfl ?_
  repeat' (first | (refine aops_nil ?_) | (show AOps _ _ _ _ _ _; first | (show AOps _ _ _ _ (⟨some _, .call ⟨.value (.func 65), _, _⟩, _, _, _, none⟩ :: _) _; first | (refine o_y (y_idxB (c := c) rfl rfl) rfl ?_)) | (show AOps _ _ _ _ (⟨some _, .move _, _, _, _, none⟩ :: _) _; first | (refine o_y (v_move (v := .sc _) rfl) rfl ?_)) | (show AOps _ _ _ _ (⟨some _, .assign _, _, _, _, none⟩ :: _) _; first | (refine o_y (v_assign (v := .sc _) rfl) rfl ?_))) | (show IW _ _ _ _ _; first | (refine awp_seq ?_) | (refine awp_region ?_) | (refine awp_ret ?_)))
  exact ret1 [] (by decide) rfl (congrArg (fun x => AV.sc (.int .i64 x)) (idx_byte s c h))
theorem idxS_spec (s : ByteArray) (c : Int) (h : 0 ≤ c ∧ c ≤ 255) : ACalls Tryd.prog 56 [.sc (.string s), .sc (.int .u8 c)] ⟨0, []⟩ (fun r _ => r = .sc (.int .i64 (ixI (pB c) s))) := by
  refine enter2 Tryd.func56 rfl 8 0 [.tmp 4] rfl rfl rfl ?_
  repeat' (first | (refine aops_nil ?_) | (show AOps _ _ _ _ _ _; first | (show AOps _ _ _ _ (⟨some _, .move _, _, _, _, none⟩ :: _) _; first | (refine o_y (v_move (v := .sc _) rfl) rfl ?_)) | (show AOps _ _ _ _ (⟨some _, .assign _, _, _, _, none⟩ :: _) _; first | (refine o_y (v_assign (v := .sc _) rfl) rfl ?_)) | (show AOps _ _ _ _ (⟨some _, .call ⟨.value (.func 64), _, _⟩, _, _, _, none⟩ :: _) _; first | (refine o_q (q_call (idxb_spec s c h)) rfl ?_))) | (show IW _ _ _ _ _; first | (refine awp_seq ?_) | (refine awp_region ?_) | (refine awp_ret ?_)))
  exact ret1 [] (by decide) rfl rfl
theorem qu1 : (⟨#[34]⟩ : ByteArray).size = 1 := rfl
theorem ixI_qu : ixI (pB 34) ⟨#[34]⟩ = 0 := by decide
/-- A text cut at its first quote. -/
def cutq (s : ByteArray) : ByteArray × ByteArray × Bool := if ix (pB 34) s < s.size then (s.extract 0 (ix (pB 34) s), s.extract (ix (pB 34) s + 1) s.size, true) else (s, ⟨#[]⟩, false)
/-- Does a text begin so? -/
def pre (p s : ByteArray) : Bool := decide (p.size ≤ s.size) && decide (s.extract 0 p.size = p)
end Go.Proofs.YtdcnpkbflelpfaaDoor.Sx
namespace Go.Proofs.YtdcnpkbflelpfaaDoor.Sx
open Go Go.RowKit
attribute [local irreducible] IW AOps AQuiet GQ GY AExec QY Yld ACalls ACallsD
def ff : List AV := List.replicate 256 (AV.sc (.bool false))
theorem ff_len : ff.length = 256 := List.length_replicate
theorem ff_one : ff.all AV.one = true := by decide +kernel
theorem get_bt {s : ByteArray} {p : Nat} (h : p < s.size) : ((s.get! p).toNat : Int) = bt s p := by
  unfold bt
  rw [Int.toNat_natCast, List.getD_eq_getElem?_getD]
  have h' : p < s.data.size := h
  simp only [ByteArray.get!, getElem!_def, Array.getElem?_toList, Array.getElem?_eq_getElem h', Option.getD_some]
theorem dec_lo {s : ByteArray} {p : Nat} (h : p < s.size) (hb : bt s p < 128) : ∃ c : Nat, Utf8.decode s p = (c, 1) ∧ (c : Int) = bt s p := by
  have hg : ((s.get! (p + 0)).toNat : Int) = bt s p := get_bt h
  refine ⟨_, ?_, hg⟩
  unfold Utf8.decode
  dsimp only
  rw [if_pos (by omega)]
def Hi (s : ByteArray) (p : Nat) (x : Nat × Nat) : Prop := 128 ≤ x.1 ∧ x.1 ≤ 1114111 ∧ 1 ≤ x.2 ∧ p + x.2 ≤ s.size ∧ ∀ j, p ≤ j → j < p + x.2 → 128 ≤ bt s j
theorem hi_err {s : ByteArray} {p : Nat} (h : p < s.size) (hb : 128 ≤ bt s p) : Hi s p (Utf8.runeError, 1) :=
  ⟨by decide, by decide, by decide, h, fun j h1 h2 => by
    have : j = p := by have h3 : j < p + 1 := h2; omega
    rw [this]; exact hb⟩
theorem cont_bt {s : ByteArray} {p k : Nat} (h : (decide (p + k < s.size) && (s.get! (p + k)).toNat / 64 == 2) = true) : p + k < s.size ∧ 128 ≤ bt s ((p + k : Nat) : Int) := by
  rw [Bool.and_eq_true, decide_eq_true_eq, beq_iff_eq] at h
  have := get_bt h.1
  exact ⟨h.1, by omega⟩
theorem valid_le {c : Nat} (h : Utf8.valid (c : Int) = true) : c ≤ 1114111 := by
  unfold Utf8.valid at h
  simp only [Bool.or_eq_true, Bool.and_eq_true, decide_eq_true_eq] at h
  omega
theorem dec_hi {s : ByteArray} {p : Nat} (h : p < s.size) (hb : 128 ≤ bt s p) : Hi s p (Utf8.decode s p) := by
  have hg : ((s.get! (p + 0)).toNat : Int) = bt s p := get_bt h
  have he := hi_err h hb
  unfold Utf8.decode
  dsimp only
  rw [if_neg (by omega)]
  split
  · rename_i h1
    rw [Bool.and_eq_true] at h1
    obtain ⟨k1, k2⟩ := cont_bt h1.2
    split
    · rename_i h2
      refine ⟨h2, by show _ ≤ 1114111; omega, by show 1 ≤ 2; decide, k1, fun j j1 j2 => ?_⟩
      have j3 : j < p + 2 := j2
      rcases (by omega : j = p ∨ j = p + 1) with rfl | rfl
      · exact hb
      · exact k2
    · exact he
  · split
    · rename_i h1
      rw [Bool.and_eq_true, Bool.and_eq_true] at h1
      obtain ⟨k1, k2⟩ := cont_bt h1.1.2
      obtain ⟨m1, m2⟩ := cont_bt h1.2
      split
      · rename_i h2
        rw [Bool.and_eq_true, decide_eq_true_eq] at h2
        refine ⟨by show 128 ≤ _; omega, valid_le h2.2, by show 1 ≤ 3; decide, m1, fun j j1 j2 => ?_⟩
        have j3 : j < p + 3 := j2
        rcases (by omega : j = p ∨ j = p + 1 ∨ j = p + 2) with rfl | rfl | rfl
        · exact hb
        · exact k2
        · exact m2
      · exact he
    · split
      · rename_i h1
        rw [Bool.and_eq_true, Bool.and_eq_true, Bool.and_eq_true] at h1
        obtain ⟨k1, k2⟩ := cont_bt h1.1.1.2
        obtain ⟨m1, m2⟩ := cont_bt h1.1.2
        obtain ⟨n1, n2⟩ := cont_bt h1.2
        split
        · rename_i h2
          rw [Bool.and_eq_true, decide_eq_true_eq] at h2
          refine ⟨by show 128 ≤ _; omega, valid_le h2.2, by show 1 ≤ 4; decide, n1, fun j j1 j2 => ?_⟩
          have j3 : j < p + 4 := j2
          rcases (by omega : j = p ∨ j = p + 1 ∨ j = p + 2 ∨ j = p + 3) with rfl | rfl | rfl | rfl
          · exact hb
          · exact k2
          · exact m2
          · exact n2
        · exact he
      · exact he
theorem valid_spec (c : Int) : ACalls Tryd.prog 57 [.sc (.int .i32 c)] ⟨0, []⟩ (fun r _ => r = .sc (.bool (Utf8.valid c))) := by
  refine enter1 Tryd.func57 rfl 17 0 [.tmp 2] rfl rfl rfl ?_
  repeat' (first | (refine aops_nil ?_) | (show AOps _ _ _ _ _ _; first | (show AOps _ _ _ _ (⟨some _, .move _, _, _, _, none⟩ :: _) _; first | (refine o_y (v_move (v := .sc _) rfl) rfl ?_)) | (show AOps _ _ _ _ (⟨some _, .assign _, _, _, _, none⟩ :: _) _; first | (refine o_y (v_assign (v := .sc _) rfl) rfl ?_)) | (show AOps _ _ _ _ (⟨some _, .binOp _ _ _ _ _, _, _, _, none⟩ :: _) _; first | (refine o_y (y_bin rfl rfl rfl) rfl ?_)) | (show AOps _ _ _ _ (⟨some _, .pick _ _ _, _, _, _, none⟩ :: _) _; first | (refine o_y (v_pick_t (v := .sc _) rfl (by first | rfl | assumption | exact beq_self_eq_true _ | exact decide_eq_true rfl) rfl) rfl ?_) | (refine o_y (v_pick_f (v := .sc _) rfl (by first | rfl | assumption) rfl) rfl ?_)) | (show AOps _ _ _ _ (⟨_, _, _, _, _, some (_, _)⟩ :: _) _; first | (refine o_g_t rfl rfl rfl (by first | rfl | assumption | exact beq_self_eq_true _ | exact decide_eq_true rfl) ?_) | (refine o_g_f rfl rfl rfl (by first | rfl | assumption) ?_) | (refine o_if rfl rfl rfl (fun h hp => ?_) (fun h hp => ?_)))) | (show IW _ _ _ _ _; first | (refine awp_seq ?_) | (refine awp_region ?_) | (refine awp_block ?_) | (refine awp_ret ?_) | (refine awp_skip ?_) | (refine awp_if_f rfl (by first | rfl | assumption) ?_) | (refine awp_if rfl (fun h hp => ?_) (fun h hp => ?_))) | (show thenQ _ _ _ _; first | (refine k_r ?_)) | (show blockQ _ _ _ _; first | (refine b_r ?_)))
  all_goals first
    | (exfalso; omega)
    | exact ret1 [] (by decide) rfl (congrArg (fun b => AV.sc (.bool b)) (by unfold Utf8.valid; rw [Bool.eq_iff_iff]; simp only [Bool.or_eq_true, Bool.and_eq_true, decide_eq_true_eq, true_iff, Bool.false_eq_true, false_iff]; omega))
theorem rune_lo (s : ByteArray) (c : Int) (h : 0 ≤ c ∧ c < 128) : ACalls Tryd.prog 45 [.sc (.string s), .sc (.int .i32 c)] ⟨0, []⟩ (fun r _ => r = .sc (.int .i64 (ixI (pB c) s))) := by
  have k1 : decide (0 ≤ c) = true := decide_eq_true h.1
  have k2 : decide (c < 128) = true := decide_eq_true h.2
  refine enter2 Tryd.func45 rfl 187 0 [.tmp 4] rfl rfl rfl ?_
  repeat' (first | (refine aops_nil ?_) | (show AOps _ _ _ _ _ _; first | (show AOps _ _ _ _ (⟨some _, .move _, _, _, _, none⟩ :: _) _; first | (refine o_y (v_move (v := .sc _) rfl) rfl ?_)) | (show AOps _ _ _ _ (⟨some _, .assign _, _, _, _, none⟩ :: _) _; first | (refine o_y (v_assign (v := .sc _) rfl) rfl ?_)) | (show AOps _ _ _ _ (⟨some _, .binOp .add _ _ _ _, _, _, _, none⟩ :: _) _; first | (refine o_y (y_bin rfl rfl rfl) rfl ?_)) | (show AOps _ _ _ _ (⟨some _, .binOp .sub _ _ _ _, _, _, _, none⟩ :: _) _; first | (refine o_y (y_bin rfl rfl rfl) rfl ?_)) | (show AOps _ _ _ _ (⟨some _, .binOp _ _ _ _ _, _, _, _, none⟩ :: _) _; first | (refine o_y (y_bin rfl rfl rfl) rfl ?_)) | (show AOps _ _ _ _ (⟨some _, .convert _ _ _, _, _, _, none⟩ :: _) _; first | (refine o_y (z_convu8 rfl (by omega) (by omega)) rfl ?_)) | (show AOps _ _ _ _ (⟨some _, .pick _ _ _, _, _, _, none⟩ :: _) _; first | (refine o_y (v_pick_t (v := .sc _) rfl (by first | rfl | assumption | exact beq_self_eq_true _ | exact decide_eq_true rfl) rfl) rfl ?_)) | (show AOps _ _ _ _ (⟨some _, .call ⟨.value (.func 56), _, _⟩, _, _, _, none⟩ :: _) _; first | (refine o_q (q_call (idxS_spec s c (by omega))) rfl ?_)) | (show AOps _ _ _ _ (⟨_, _, _, _, _, some (_, _)⟩ :: _) _; first | (refine o_g_t rfl rfl rfl (by first | rfl | assumption | exact beq_self_eq_true _ | exact decide_eq_true rfl) ?_))) | (show IW _ _ _ _ _; first | (refine awp_seq ?_) | (refine awp_region ?_) | (refine awp_block ?_) | (refine awp_ret ?_) | (refine awp_if_t rfl (by first | rfl | assumption | exact beq_self_eq_true _ | exact decide_eq_true rfl) ?_)) | (show blockQ _ _ _ _; first | (refine b_r ?_)))
  exact ret1 [] (by decide) rfl rfl
theorem bt_elem {s : ByteArray} {i : Nat} (h : i < s.size) : bt s (i : Int) = ((s[i]'h).toNat : Int) := by
  have h' : i < s.data.toList.length := h
  unfold bt
  rw [Int.toNat_natCast, List.getD_eq_getElem?_getD, List.getElem?_eq_getElem h', Option.getD_some]
  rfl
theorem ixI_none {p : Int → Bool} {s : ByteArray} (h : s.size = 0) : ixI p s = -1 := if_neg (by omega)
set_option maxHeartbeats 4000000 in
theorem rune_hi (s : ByteArray) (hz : s.size = 2) (h0 : bt s 0 < 128) (h1 : bt s 1 < 128) (c : Int) (hc : 128 ≤ c ∧ c ≤ 1114111) : ACalls Tryd.prog 45 [.sc (.string s), .sc (.int .i32 c)] ⟨0, []⟩ (fun r _ => r = .sc (.int .i64 (-1))) := by
  have k1 : decide (0 ≤ c) = true := decide_eq_true (by omega)
  have k2 : decide (c < 128) = false := decide_eq_false (by omega)
  have sv := valid_spec c
  by_cases he : c = 65533
  · have k3 : decide (c = 65533) = true := decide_eq_true he
    have hlo : ∀ p : Nat, p < s.size → bt s p < 128 := fun p hp => by
      rcases (by omega : p = 0 ∨ p = 1) with rfl | rfl
      · exact h0
      · exact h1
    refine enter2 Tryd.func45 rfl 187 0 [.tmp 4] rfl rfl rfl ?_
    repeat' (first | (refine aops_nil ?_) | (show AOps _ _ _ _ _ _; first | (show AOps _ _ _ _ (⟨some _, .move _, _, _, _, none⟩ :: _) _; first | (refine o_y (v_move (v := .sc _) rfl) rfl ?_)) | (show AOps _ _ _ _ (⟨some _, .assign _, _, _, _, none⟩ :: _) _; first | (refine o_y (v_assign (v := .sc _) rfl) rfl ?_)) | (show AOps _ _ _ _ (⟨some _, .binOp .add _ _ _ _, _, _, _, none⟩ :: _) _; first | (refine o_y (y_bin rfl rfl rfl) rfl ?_)) | (show AOps _ _ _ _ (⟨some _, .binOp .sub _ _ _ _, _, _, _, none⟩ :: _) _; first | (refine o_y (y_bin rfl rfl rfl) rfl ?_)) | (show AOps _ _ _ _ (⟨some _, .binOp _ _ _ _ _, _, _, _, none⟩ :: _) _; first | (refine o_y (y_bin rfl rfl rfl) rfl ?_)) | (show AOps _ _ _ _ (⟨some _, .pick _ _ _, _, _, _, none⟩ :: _) _; first | (refine o_y (v_pick_t (v := .sc _) rfl (by first | rfl | assumption | exact beq_self_eq_true _ | exact decide_eq_true rfl) rfl) rfl ?_)) | (show AOps _ _ _ _ (⟨_, .range _ _, _, _, _, none⟩ :: _) _; first | (refine o_x (x_rangeS rfl rfl ?_))) | (show AOps _ _ _ _ (⟨_, _, _, _, _, some (_, _)⟩ :: _) _; first | (refine o_g_t rfl rfl rfl (by first | rfl | assumption | exact beq_self_eq_true _ | exact decide_eq_true rfl) ?_))) | (show IW _ _ [.code (.seq _ _)] _ _; first | (show AWP _ _ (.seq (.region _ _ _) _) _ _; refine awp_seq ?_) | (show AWP _ _ (.seq (.seq _ _) _) _ _; refine awp_seq ?_)) | (show IW _ _ _ _ _; first | (refine awp_region ?_) | (refine awp_block ?_) | (refine awp_if_t rfl (by first | rfl | assumption | exact beq_self_eq_true _ | exact decide_eq_true rfl) ?_) | (refine awp_if_f rfl (by first | rfl | assumption) ?_)))
    refine awp_loopI (fun p : Nat => p ≤ s.size) (fun p => s.size - p) (fun p => [(0, .sc (.string s)), (175, .it 0)]) 1 (fun p => [(0, some (itc s p))]) 0 [0] (by decide) rfl rfl rfl (Nat.zero_le _) ⟨rfl, rfl, trivial⟩ ⟨rfl, rfl, trivial⟩ ?_
    rintro p hp0 ih
    by_cases hlt : p < s.size
    · obtain ⟨c', hd, hc'⟩ := dec_lo hlt (hlo p hlt)
      have hl := hlo p hlt
      repeat' (first | (refine aops_nil ?_) | (show AOps _ _ _ _ _ _; first | (show AOps _ _ _ _ (⟨some _, .move _, _, _, _, none⟩ :: _) _; first | (refine o_y (v_move (v := .sc _) rfl) rfl ?_)) | (show AOps _ _ _ _ (⟨some _, .assign _, _, _, _, none⟩ :: _) _; first | (refine o_y (v_assign (v := .sc _) rfl) rfl ?_)) | (show AOps _ _ _ _ (⟨some _, .binOp .add _ _ _ _, _, _, _, none⟩ :: _) _; first | (refine o_y (y_bin rfl rfl rfl) rfl ?_)) | (show AOps _ _ _ _ (⟨some _, .binOp .sub _ _ _ _, _, _, _, none⟩ :: _) _; first | (refine o_y (y_bin rfl rfl rfl) rfl ?_)) | (show AOps _ _ _ _ (⟨some _, .binOp _ _ _ _ _, _, _, _, none⟩ :: _) _; first | (refine o_y (y_bin rfl rfl rfl) rfl ?_)) | (show AOps _ _ _ _ (⟨some _, .extract _ _, _, _, _, none⟩ :: _) _; first | (refine o_y (y_extract (v := .sc _) rfl rfl) rfl ?_)) | (show AOps _ _ _ _ (⟨_, .next _ _, _, _, _, none⟩ :: _) _; first | (refine o_x (x_nextS rfl rfl (by assumption) (by assumption) rfl ?_)))) | (show IW _ _ _ _ _; first | (refine awp_seq ?_) | (refine awp_region ?_) | (refine awp_block ?_) | (refine awp_ret ?_) | (refine awp_skip ?_) | (refine awp_if_t rfl (by first | rfl | assumption | exact beq_self_eq_true _ | exact decide_eq_true rfl) ?_) | (refine awp_if rfl (fun h hp => ?_) (fun h hp => ?_))) | (show thenQ _ _ _ _; first | (refine k_n ?_) | (refine k_r ?_)) | (show blockQ _ _ _ _; first | (refine k_n' ?_) | (refine b_r ?_)))
      · exfalso; omega
      · exact iw_at [0] (ih (p + 1) hlt (by omega)) (by decide) rfl rfl rfl ⟨rfl, rfl, trivial⟩ ⟨rfl, rfl, trivial⟩
    · repeat' (first | (refine aops_nil ?_) | (show AOps _ _ _ _ _ _; first | (show AOps _ _ _ _ (⟨some _, .assign _, _, _, _, none⟩ :: _) _; first | (refine o_y (v_assign (v := .sc _) rfl) rfl ?_)) | (show AOps _ _ _ _ (⟨some _, .extract _ _, _, _, _, none⟩ :: _) _; first | (refine o_y (y_extract (v := .sc _) rfl rfl) rfl ?_)) | (show AOps _ _ _ _ (⟨_, .next _ _, _, _, _, none⟩ :: _) _; first | (refine o_x (x_nextE rfl rfl (by omega) rfl ?_)))) | (show IW _ _ _ _ _; first | (refine awp_seq ?_) | (refine awp_region ?_) | (refine awp_exit ?_) | (refine awp_ret ?_) | (refine awp_if_f rfl (by first | rfl | assumption) ?_)) | (show blockQ _ _ _ _; first | (refine b_r ?_)))
      exact ret1 [0] (by decide) rfl rfl
  · have k3 : decide (c = 65533) = false := decide_eq_false he
    cases hv : Utf8.valid c with
    | false =>
      rw [hv] at sv
      refine enter2 Tryd.func45 rfl 187 0 [.tmp 4] rfl rfl rfl ?_
      repeat' (first | (refine aops_nil ?_) | (show AOps _ _ _ _ _ _; first | (show AOps _ _ _ _ (⟨some _, .move _, _, _, _, none⟩ :: _) _; first | (refine o_y (v_move (v := .sc _) rfl) rfl ?_)) | (show AOps _ _ _ _ (⟨some _, .assign _, _, _, _, none⟩ :: _) _; first | (refine o_y (v_assign (v := .sc _) rfl) rfl ?_)) | (show AOps _ _ _ _ (⟨some _, .binOp .add _ _ _ _, _, _, _, none⟩ :: _) _; first | (refine o_y (y_bin rfl rfl rfl) rfl ?_)) | (show AOps _ _ _ _ (⟨some _, .binOp .sub _ _ _ _, _, _, _, none⟩ :: _) _; first | (refine o_y (y_bin rfl rfl rfl) rfl ?_)) | (show AOps _ _ _ _ (⟨some _, .binOp _ _ _ _ _, _, _, _, none⟩ :: _) _; first | (refine o_y (y_bin rfl rfl rfl) rfl ?_)) | (show AOps _ _ _ _ (⟨some _, .pick _ _ _, _, _, _, none⟩ :: _) _; first | (refine o_y (v_pick_t (v := .sc _) rfl (by first | rfl | assumption | exact beq_self_eq_true _ | exact decide_eq_true rfl) rfl) rfl ?_)) | (show AOps _ _ _ _ (⟨some _, .unOp _ _ _, _, _, _, none⟩ :: _) _; first | (refine o_y (y_not rfl) rfl ?_)) | (show AOps _ _ _ _ (⟨some _, .call ⟨.value (.func 57), _, _⟩, _, _, _, none⟩ :: _) _; first | (refine o_q (q_call (sv)) rfl ?_)) | (show AOps _ _ _ _ (⟨_, _, _, _, _, some (_, _)⟩ :: _) _; first | (refine o_g_t rfl rfl rfl (by first | rfl | assumption | exact beq_self_eq_true _ | exact decide_eq_true rfl) ?_))) | (show IW _ _ _ _ _; first | (refine awp_seq ?_) | (refine awp_region ?_) | (refine awp_block ?_) | (refine awp_ret ?_) | (refine awp_if_t rfl (by first | rfl | assumption | exact beq_self_eq_true _ | exact decide_eq_true rfl) ?_) | (refine awp_if_f rfl (by first | rfl | assumption) ?_)) | (show blockQ _ _ _ _; first | (refine b_r ?_)))
      exact ret1 [] (by decide) rfl rfl
    | true =>
      rw [hv] at sv
      obtain ⟨e1, e2, e3⟩ := encode_facts c hv hc.1
      generalize hE : Utf8.encode c = E at e1 e2 e3
      have e4 := e3 (by omega)
      have e5 := bt_elem (s := E) (i := E.size - 1) (by omega)
      rw [show ((E.size - 1 : Nat) : Int) = (E.size : Int) - 1 from by omega] at e5
      have e7 : 128 ≤ bt E ((E.size : Int) - 1) := by rw [e5]; omega
      clear e3 e4 e5
      refine enter2 Tryd.func45 rfl 187 0 [.tmp 4] rfl rfl rfl ?_
      repeat' (first | (refine aops_nil ?_) | (show AOps _ _ _ _ _ _; first | (show AOps _ _ _ _ (⟨some _, .move _, _, _, _, none⟩ :: _) _; first | (refine o_y (v_move (v := .sc _) rfl) rfl ?_)) | (show AOps _ _ _ _ (⟨some _, .assign _, _, _, _, none⟩ :: _) _; first | (refine o_y (v_assign (v := .sc _) rfl) rfl ?_)) | (show AOps _ _ _ _ (⟨some _, .binOp .add _ _ _ _, _, _, _, none⟩ :: _) _; first | (refine o_y (y_bin rfl rfl rfl) rfl ?_)) | (show AOps _ _ _ _ (⟨some _, .binOp .sub _ _ _ _, _, _, _, none⟩ :: _) _; first | (refine o_y (y_bin rfl rfl rfl) rfl ?_)) | (show AOps _ _ _ _ (⟨some _, .binOp _ _ _ _ _, _, _, _, none⟩ :: _) _; first | (refine o_y (y_bin rfl rfl rfl) rfl ?_)) | (show AOps _ _ _ _ (⟨some _, .pick _ _ _, _, _, _, none⟩ :: _) _; first | (refine o_y (v_pick_t (v := .sc _) rfl (by first | rfl | assumption | exact beq_self_eq_true _ | exact decide_eq_true rfl) rfl) rfl ?_)) | (show AOps _ _ _ _ (⟨some _, .unOp _ _ _, _, _, _, none⟩ :: _) _; first | (refine o_y (y_not rfl) rfl ?_)) | (show AOps _ _ _ _ (⟨some _, .call ⟨.value (.func 57), _, _⟩, _, _, _, none⟩ :: _) _; first | (refine o_q (q_call (sv)) rfl ?_)) | (show AOps _ _ _ _ (⟨_, _, _, _, _, some (_, _)⟩ :: _) _; first | (refine o_g_t rfl rfl rfl (by first | rfl | assumption | exact beq_self_eq_true _ | exact decide_eq_true rfl) ?_))) | (show IW _ _ _ _ _; first | (refine awp_seq ?_) | (refine awp_region ?_) | (refine awp_block ?_) | (refine awp_if_f rfl (by first | rfl | assumption) ?_)))
      refine awp_scope (iw_scope ?_)
      repeat' (first | (refine aops_nil ?_) | (show AOps _ _ _ _ _ _; first | (show AOps _ _ _ _ (⟨some _, .convert _ _ _, _, _, _, none⟩ :: _) _; first | (refine o_y (y_runeS rfl) rfl ?_)) | (show AOps _ _ _ _ (⟨some _, .move _, _, _, _, none⟩ :: _) _; first | (refine o_y (v_move (v := .sc _) rfl) rfl ?_)) | (show AOps _ _ _ _ (⟨some _, .assign _, _, _, _, none⟩ :: _) _; first | (refine o_y (v_assign (v := .sc _) rfl) rfl ?_))) | (show IW _ _ [.code (.seq _ _)] _ _; first | (show AWP _ _ (.seq (.region 1 _ _) _) _ _; refine awp_seq ?_)) | (show IW _ _ _ _ _; first | (refine awp_region ?_)) | (show thenQ _ _ _ _; first | (refine k_n ?_)))
      rw [hE]
      by_cases e6 : E.size = 2
      · have e8 : (E.size : Int) - 1 = 1 := by omega
        have k4 : (bt s ((E.size : Int) - 1) != bt E ((E.size : Int) - 1)) = true := by
          rw [bne_iff_ne]; rw [e8] at e7 ⊢; omega
        have k5 : decide (ixI (pB (bt E ((E.size : Int) - 1))) (s.extract ((E.size : Int) - 1 + 1).toNat s.size) < 0) = true := by
          rw [ixI_none (by rw [ByteArray.size_extract]; omega)]; rfl
        repeat' (first | (refine aops_nil ?_) | (show AOps _ _ _ _ _ _; first | (show AOps _ _ _ _ (⟨some _, .move _, _, _, _, none⟩ :: _) _; first | (refine o_y (v_move (v := .sc _) rfl) rfl ?_)) | (show AOps _ _ _ _ (⟨some _, .assign _, _, _, _, none⟩ :: _) _; first | (refine o_y (v_assign (v := .sc _) rfl) rfl ?_)) | (show AOps _ _ _ _ (⟨some _, .binOp .add _ _ _ _, _, _, _, none⟩ :: _) _; first | (refine o_y (y_bin rfl rfl rfl) rfl ?_)) | (show AOps _ _ _ _ (⟨some _, .binOp .sub _ _ _ _, _, _, _, none⟩ :: _) _; first | (refine o_y (z_sub rfl rfl (by omega) (by omega)) rfl ?_) | (refine o_y (y_bin rfl rfl rfl) rfl ?_)) | (show AOps _ _ _ _ (⟨some _, .binOp _ _ _ _ _, _, _, _, none⟩ :: _) _; first | (refine o_y (y_bin rfl rfl rfl) rfl ?_)) | (show AOps _ _ _ _ (⟨some _, .call ⟨.builtin .len, _, _⟩, _, _, _, none⟩ :: _) _; first | (refine o_y (y_lenS rfl) rfl ?_))) | (show IW _ _ _ _ _; first | (refine awp_seq ?_) | (refine awp_region ?_) | (refine awp_block ?_) | (refine awp_exit ?_) | (refine awp_ret ?_) | (refine awp_skip ?_) | (refine awp_if rfl (fun h hp => ?_) (fun h hp => ?_)) | (refine awp_loop ?_)) | (show thenQ _ _ _ _; first | (refine k_r ?_)) | (show blockQ _ _ _ _; first | (refine b_r ?_)) | (show scopeQ _ _ _ _ _ _; first | (refine s_r ?_)))
        · refine awp_scope (iw_scope ?_)
          repeat' (first | (show AWP _ _ (.region 6 _ true) _ _; refine awp_draw 7 (by kernel_rfl) ?_) | (show AWP _ _ (.region 7 _ true) _ _; refine awp_draw 9 (by kernel_rfl) ?_) | (refine aops_nil ?_) | (show AOps _ _ _ _ _ _; first | (show AOps _ _ _ _ (⟨some _, .move _, _, _, _, none⟩ :: _) _; first | (refine o_y (v_move (v := .sc _) rfl) rfl ?_)) | (show AOps _ _ _ _ (⟨some _, .assign _, _, _, _, none⟩ :: _) _; first | (refine o_y (v_assign (v := .sc _) rfl) rfl ?_)) | (show AOps _ _ _ _ (⟨some _, .binOp .add _ _ _ _, _, _, _, none⟩ :: _) _; first | (refine o_y (y_bin rfl rfl rfl) rfl ?_)) | (show AOps _ _ _ _ (⟨some _, .binOp .sub _ _ _ _, _, _, _, none⟩ :: _) _; first | (refine o_y (y_bin rfl rfl rfl) rfl ?_)) | (show AOps _ _ _ _ (⟨some _, .binOp _ _ _ _ _, _, _, _, none⟩ :: _) _; first | (refine o_y (y_bin rfl rfl rfl) rfl ?_))) | (refine aq_nil ?_) | (show AQuiet _ _ _ _ _ _; first | (show AQuiet _ _ _ (⟨some _, .move _, _, _, _, none⟩ :: _) _ _; first | (refine q_y (v_move (v := .sc _) rfl) rfl ?_)) | (show AQuiet _ _ _ (⟨some _, .assign _, _, _, _, none⟩ :: _) _ _; first | (refine q_y (v_assign (v := .sc _) rfl) rfl ?_)) | (show AQuiet _ _ _ (⟨some _, .binOp .add _ _ _ _, _, _, _, none⟩ :: _) _ _; first | (refine q_y (z_add rfl rfl (by omega) (by omega)) rfl ?_) | (refine q_y (y_bin rfl rfl rfl) rfl ?_)) | (show AQuiet _ _ _ (⟨some _, .binOp .sub _ _ _ _, _, _, _, none⟩ :: _) _ _; first | (refine q_y (y_bin rfl rfl rfl) rfl ?_)) | (show AQuiet _ _ _ (⟨some _, .binOp _ _ _ _ _, _, _, _, none⟩ :: _) _ _; first | (refine q_y (y_bin rfl rfl rfl) rfl ?_)) | (show AQuiet _ _ _ (⟨some _, .index _ _ _, _, _, _, none⟩ :: _) _ _; first | (refine q_y (y_indexS rfl rfl (by omega) (by omega)) rfl ?_)) | (show AQuiet _ _ _ (⟨some _, .slice _ _ _ _ _, _, _, _, none⟩ :: _) _ _; first | (refine q_y (y_sliceS_l rfl rfl (by omega) (by omega)) rfl ?_)) | (show AQuiet _ _ _ (⟨some _, .call ⟨.value (.func 56), _, _⟩, _, _, _, none⟩ :: _) _ _; first | (refine q_c (q_call (idxS_spec _ _ (bt_range _ _))) rfl ?_))) | (show IW _ _ _ _ _; first | (refine awp_seq ?_) | (refine awp_region ?_) | (refine awp_ret ?_) | (refine awp_if_t rfl (by first | rfl | assumption | exact beq_self_eq_true _ | exact decide_eq_true rfl) ?_)) | (show thenQ _ _ _ _; first | (refine k_r ?_)) | (show blockQ _ _ _ _; first | (refine b_r ?_)) | (show scopeQ _ _ _ _ _ _; first | (refine s_r ?_)))
          exact ret1 [] (by decide) rfl rfl
        · exfalso; omega
      · repeat' (first | (refine aops_nil ?_) | (show AOps _ _ _ _ _ _; first | (show AOps _ _ _ _ (⟨some _, .move _, _, _, _, none⟩ :: _) _; first | (refine o_y (v_move (v := .sc _) rfl) rfl ?_)) | (show AOps _ _ _ _ (⟨some _, .assign _, _, _, _, none⟩ :: _) _; first | (refine o_y (v_assign (v := .sc _) rfl) rfl ?_)) | (show AOps _ _ _ _ (⟨some _, .binOp .add _ _ _ _, _, _, _, none⟩ :: _) _; first | (refine o_y (y_bin rfl rfl rfl) rfl ?_)) | (show AOps _ _ _ _ (⟨some _, .binOp .sub _ _ _ _, _, _, _, none⟩ :: _) _; first | (refine o_y (z_sub rfl rfl (by omega) (by omega)) rfl ?_) | (refine o_y (y_bin rfl rfl rfl) rfl ?_)) | (show AOps _ _ _ _ (⟨some _, .binOp _ _ _ _ _, _, _, _, none⟩ :: _) _; first | (refine o_y (y_bin rfl rfl rfl) rfl ?_)) | (show AOps _ _ _ _ (⟨some _, .call ⟨.builtin .len, _, _⟩, _, _, _, none⟩ :: _) _; first | (refine o_y (y_lenS rfl) rfl ?_))) | (show IW _ _ _ _ _; first | (refine awp_seq ?_) | (refine awp_region ?_) | (refine awp_block ?_) | (refine awp_exit ?_) | (refine awp_ret ?_) | (refine awp_skip ?_) | (refine awp_if rfl (fun h hp => ?_) (fun h hp => ?_)) | (refine awp_loop ?_)) | (show thenQ _ _ _ _; first | (refine k_r ?_)) | (show blockQ _ _ _ _; first | (refine b_r ?_)) | (show scopeQ _ _ _ _ _ _; first | (refine s_r ?_)))
        · exfalso; omega
        · exact ret1 [] (by decide) rfl rfl
end Go.Proofs.YtdcnpkbflelpfaaDoor.Sx
