/- Variables listed, by the program and by the document. Variables listed, by the document. -/
import Derived.Test.YtdcnpkbflelpfaaDoorE
import Derived.Test.YtdcnpkbflelpfaaDoorSx27
namespace Go.Proofs.YtdcnpkbflelpfaaDoor.Sx
open Go Go.RowKit
attribute [local irreducible] IW AOps AQuiet GQ GY AExec QY Yld ACalls ACallsD
@[reducible] def NIL : ByteArray := ⟨#[]⟩
def sfx (s : ByteArray) : ByteArray := if quB s then ⟨#[61, 34]⟩ ++ s ++ ⟨#[34]⟩ else if s = ⟨#[]⟩ then s else ⟨#[61]⟩ ++ s
def item (v : Pr) : ByteArray := v.1 ++ sfx v.2
def lst (l : List Pr) : ByteArray := jn (l.map item)
def listV (l : List Pr) : Option ByteArray := if l.all good then some (lst l) else none
def lres : Option ByteArray → AV
  | some t => .tup [.sc (.string t), .sc (.int .i64 0)]
  | none => .tup [.sc (.string ⟨#[]⟩), .sc (.int .i64 21)]
def Sm (l : List Pr) : Prop := l.length ≤ 2097152 ∧ ∀ v ∈ l, v.1.size ≤ 2097152 ∧ v.2.size ≤ 2097152
theorem good_sz {v : Pr} (h : good v = true) : v.1.size ≤ 24 ∧ v.2.size ≤ 64 := by
  unfold good nameB valB at h
  simp only [Bool.and_eq_true, decide_eq_true_eq] at h
  exact ⟨h.1.1.2, h.2.1⟩
theorem sfx_size (s : ByteArray) : (sfx s).size ≤ s.size + 3 := by
  unfold sfx
  split
  · rw [ByteArray.size_append, ByteArray.size_append]
    show 2 + s.size + 1 ≤ _
    omega
  · split
    · omega
    · rw [ByteArray.size_append]
      show 1 + s.size ≤ _
      omega
theorem item_size {v : Pr} (h : good v = true) : (item v).size ≤ 256 := by
  have := good_sz h
  have := sfx_size v.2
  unfold item
  rw [ByteArray.size_append]
  omega
theorem lst_size {l : List Pr} (h : l.all good = true) : (lst l).size ≤ l.length * 258 := by
  have := jn_size SEP (by decide) (l.map item) (fun x hx => by
    obtain ⟨v, hv, rfl⟩ := List.mem_map.1 hx
    exact item_size (List.all_eq_true.1 h v hv))
  rwa [List.length_map] at this
theorem all_succ {l : List Pr} {i : Nat} {v : Pr} (h : l[i]? = some v) (ha : (l.take i).all good = true) (hv : good v = true) : (l.take (i + 1)).all good = true := by
  rw [List.take_add_one, h]
  simp [List.all_append, ha, hv]
theorem listV_bad {l : List Pr} {i : Nat} {v : Pr} (h : l[i]? = some v) (hv : good v = false) : listV l = none := by
  unfold listV
  rw [if_neg]
  intro ha
  have := List.all_eq_true.1 ha v (List.mem_of_getElem? h)
  rw [hv] at this
  cases this
theorem listV_ok {l : List Pr} (h : l.all good = true) : listV l = some (lst l) := by
  unfold listV
  rw [if_pos h]
theorem sfx_q {s : ByteArray} (h : quB s = true) : sfx s = ⟨#[61, 34]⟩ ++ s ++ ⟨#[34]⟩ := if_pos h
theorem sfx_p {s : ByteArray} (h : quB s = false) (h2 : s ≠ ⟨#[]⟩) : sfx s = ⟨#[61]⟩ ++ s := by
  unfold sfx
  rw [h, if_neg (by decide), if_neg h2]
theorem sfx_e {s : ByteArray} (h : quB s = false) (h2 : s = ⟨#[]⟩) : sfx s = s := by
  unfold sfx
  rw [h, if_neg (by decide), if_pos h2]
theorem strs_it {l : List Pr} {i : Nat} {v : Pr} (h : l[i]? = some v) : strs ((l.take (i + 1)).map item) = strs ((l.take i).map item ++ [item v]) := by
  rw [List.take_add_one, h, List.map_append]
  rfl
set_option maxHeartbeats 4000000 in
theorem list_spec (l : List Pr) (hl : Sm l) : ACalls Tryd.prog 16 [.vsl (prs l) 2 0 l.length] ⟨0, []⟩ (fun r _ => r = lres (listV l)) := by
  obtain ⟨hl1, hl2⟩ := hl
  have pl := prs_length l
  refine enter1 Tryd.func16 rfl 41 0 [.tmp 2, .tmp 3] rfl rfl rfl ?_
  repeat' (first | (refine aops_nil ?_) | (show AOps _ _ _ _ _ _; first | (show AOps _ _ _ _ (⟨some _, .assign _, _, _, _, none⟩ :: _) _; first | (refine o_y (v_assign (v := .sc _) rfl) rfl ?_))) | (show IW _ _ [.code (.seq _ _)] _ _; first | (show AWP _ _ (.seq (.seq _ _) _) _ _; refine awp_seq ?_) | (show AWP _ _ (.seq (.region 0 _ _) _) _ _; refine awp_seq ?_) | (show AWP _ _ (.seq (.region 1 _ _) _) _ _; refine awp_seq ?_)) | (show IW _ _ _ _ _; first | (refine awp_region ?_)))
  refine iw_nil 4 1 9 rfl ?_
  repeat' (first | (refine aops_nil ?_) | (show AOps _ _ _ _ _ _; first | (show AOps _ _ _ _ (⟨some _, .move _, _, _, _, none⟩ :: _) _; first | (refine o_y (v_move (v := .sc _) rfl) rfl ?_) | (refine o_y (v_move (v := .vsl _ _ _ _) rfl) rfl ?_)) | (show AOps _ _ _ _ (⟨some _, .call ⟨.builtin .len, _, _⟩, _, _, _, none⟩ :: _) _; first | (refine o_y (y_lenV rfl) rfl ?_))) | (show IW _ _ [.code (.seq _ _)] _ _; first | (show AWP _ _ (.seq (.region _ _ _) _) _ _; refine awp_seq ?_)) | (show IW _ _ _ _ _; first | (refine awp_region ?_) | (refine awp_block ?_)))
  refine awp_loopI (fun i : Nat => i ≤ l.length ∧ (l.take i).all good = true) (fun i => l.length - i) (fun i => [(2, .sc (.string ⟨#[]⟩)), (3, .sc (.int .i64 0)), (8, .vsl (prs l) 2 0 l.length), (9, .sc (.int .i64 l.length)), (10, .sc (.int .i64 i)), (4, .sl 0 0 i)]) 1 (fun i => [(0, some ⟨strs ((l.take i).map item), 1, 9⟩)]) 0 [0] (by decide) rfl rfl rfl ⟨Nat.zero_le _, rfl⟩ ⟨rfl, rfl, rfl, rfl, rfl, rfl, trivial⟩ ⟨rfl, rfl, trivial⟩ ?_
  rintro i ⟨h1, h2⟩ ih
  by_cases hi : i < l.length
  · obtain ⟨v, hv⟩ : ∃ v, l[i]? = some v := ⟨_, List.getElem?_eq_getElem hi⟩
    obtain ⟨hv1, hv2⟩ := hl2 v (List.mem_of_getElem? hv)
    have v0 : ((prs l).drop ((0 + Int.toNat i) * 2)).take 2 = [.sc (.string v.1), .sc (.string v.2)] := by rw [Nat.zero_add]; exact prs_at hv
    have sg := good_spec v.1 v.2 (by omega) (by omega)
    have sq := has_spec2 v.2 (by omega)
    have hlen : (strs ((l.take i).map item)).length = i * 1 := by rw [strs_length, List.length_map, List.length_take]; omega
    cases hg : good v with
    | false =>
      rw [show good (v.1, v.2) = false from hg] at sg
      repeat' (first | (refine aops_nil ?_) | (show AOps _ _ _ _ _ _; first | (show AOps _ _ _ _ (⟨some _, .move _, _, _, _, none⟩ :: _) _; first | (refine o_y (v_move (v := .sl _ _ _) rfl) rfl ?_)) | (show AOps _ _ _ _ (⟨some _, .load _ _, _, _, _, none⟩ :: _) _; first | (refine o_y (y_load1 (v := .sc _) rfl rfl rfl) rfl ?_) | (refine o_y (y_loadW rfl rfl rfl) rfl ?_) | (refine o_y (y_vloadE rfl (by assumption) (by rfl) rfl) rfl ?_)) | (show AOps _ _ _ _ (⟨some _, .fieldAddr _ _ _, _, _, _, none⟩ :: _) _; first | (refine o_y (y_fld_ptr rfl rfl) rfl ?_)) | (show AOps _ _ _ _ (⟨some _, .assign _, _, _, _, none⟩ :: _) _; first | (refine o_y (v_assign (v := .sc _) rfl) rfl ?_)) | (show AOps _ _ _ _ (⟨some _, .binOp .add _ _ _ _, _, _, _, none⟩ :: _) _; first | (refine o_y (y_bin rfl rfl rfl) rfl ?_)) | (show AOps _ _ _ _ (⟨some _, .binOp _ _ _ _ _, _, _, _, none⟩ :: _) _; first | (refine o_y (y_bin rfl rfl rfl) rfl ?_)) | (show AOps _ _ _ _ (⟨some _, .unOp _ _ _, _, _, _, none⟩ :: _) _; first | (refine o_y (y_not rfl) rfl ?_)) | (show AOps _ _ _ _ (⟨some _, .indexAddr _ _ _, _, _, _, none⟩ :: _) _; first | (refine o_y (y_ix_vsl rfl rfl rfl (by omega) (by omega)) rfl ?_)) | (show AOps _ _ _ _ (⟨some _, .call ⟨.value (.func 24), _, _⟩, _, _, _, none⟩ :: _) _; first | (refine o_q (q_call (sg)) rfl ?_)) | (show AOps _ _ _ _ (⟨_, .store _ _ _, _, _, _, none⟩ :: _) _; first | (refine o_x (s_storeW rfl rfl rfl rfl rfl (by first | rfl | assumption) ?_))) | (show AOps _ _ _ _ (⟨_, .alloc _, _, _, _, none⟩ :: _) _; first | (refine o_x (a_new (by first | (simp only [AV.ofV, AV.cells, List.map_cons, List.map_nil]; rfl) | rfl) rfl rfl rfl ?_)))) | (show IW _ _ _ _ _; first | (refine awp_seq ?_) | (refine awp_region ?_) | (refine awp_block ?_) | (refine awp_exit ?_) | (refine awp_ret ?_) | (refine awp_skip ?_) | (refine awp_if_t rfl (by first | rfl | assumption | exact beq_self_eq_true _ | exact decide_eq_true rfl) ?_) | (refine awp_if rfl (fun h hp => ?_) (fun h hp => ?_))) | (show thenQ _ _ _ _; first | (refine k_r ?_)) | (show blockQ _ _ _ _; first | (refine b_r ?_)))
      · exact ret2 [0] (by decide) rfl (by rw [listV_bad hv hg]; rfl)
      · exfalso; omega
    | true =>
      rw [show good (v.1, v.2) = true from hg] at sg
      have e1 : (⟨#[61, 34]⟩ ++ v.2 : ByteArray).size = 2 + v.2.size := ByteArray.size_append
      have e2 : (⟨#[61, 34]⟩ ++ v.2 ++ ⟨#[34]⟩ : ByteArray).size = 2 + v.2.size + 1 := by rw [ByteArray.size_append, e1]; rfl
      have e3 : (⟨#[61]⟩ ++ v.2 : ByteArray).size = 1 + v.2.size := ByteArray.size_append
      have e4 : (⟨#[61, 34]⟩ : ByteArray).size = 2 := rfl
      have e5 : (⟨#[34]⟩ : ByteArray).size = 1 := rfl
      have e6 : (⟨#[61]⟩ : ByteArray).size = 1 := rfl
      have hnext := strs_it hv
      have ih2 := ih (i + 1) ⟨hi, all_succ hv h2 hg⟩ (by omega)
      clear ih
      rw [hnext] at ih2
      cases hq : quB v.2 with
      | true =>
        rw [hq] at sq
        rw [show item v = v.1 ++ (⟨#[61, 34]⟩ ++ v.2 ++ ⟨#[34]⟩) from congrArg (v.1 ++ ·) (sfx_q hq)] at ih2
        repeat' (first | (refine aops_nil ?_) | (show AOps _ _ _ _ _ _; first | (show AOps _ _ _ _ (⟨some _, .move _, _, _, _, none⟩ :: _) _; first | (refine o_y (v_move (v := .sc _) rfl) rfl ?_) | (refine o_y (v_move (v := .sl _ _ _) rfl) rfl ?_)) | (show AOps _ _ _ _ (⟨some _, .load _ _, _, _, _, none⟩ :: _) _; first | (refine o_y (y_load1 (v := .sc _) rfl rfl rfl) rfl ?_) | (refine o_y (y_loadW rfl rfl rfl) rfl ?_) | (refine o_y (y_vloadE rfl (by assumption) (by rfl) rfl) rfl ?_)) | (show AOps _ _ _ _ (⟨some _, .fieldAddr _ _ _, _, _, _, none⟩ :: _) _; first | (refine o_y (y_fld_ptr rfl rfl) rfl ?_)) | (show AOps _ _ _ _ (⟨some _, .assign _, _, _, _, none⟩ :: _) _; first | (refine o_y (v_assign (v := .sc _) rfl) rfl ?_) | (refine o_y (v_assign (v := .sl _ _ _) rfl) rfl ?_)) | (show AOps _ _ _ _ (⟨some _, .binOp .add _ _ _ _, _, _, _, none⟩ :: _) _; first | (refine o_y (z_add rfl rfl (by omega) (by omega)) rfl ?_) | (refine o_y (y_cat rfl rfl (by omega)) rfl ?_) | (refine o_y (y_bin rfl rfl rfl) rfl ?_)) | (show AOps _ _ _ _ (⟨some _, .binOp _ _ _ _ _, _, _, _, none⟩ :: _) _; first | (refine o_y (y_bin rfl rfl rfl) rfl ?_)) | (show AOps _ _ _ _ (⟨some _, .unOp _ _ _, _, _, _, none⟩ :: _) _; first | (refine o_y (y_not rfl) rfl ?_)) | (show AOps _ _ _ _ (⟨some _, .indexAddr _ _ _, _, _, _, none⟩ :: _) _; first | (refine o_y (y_ix_vsl rfl rfl rfl (by omega) (by omega)) rfl ?_)) | (show AOps _ _ _ _ (⟨some _, .call ⟨.value (.func 24), _, _⟩, _, _, _, none⟩ :: _) _; first | (refine o_q (q_call (sg)) rfl ?_)) | (show AOps _ _ _ _ (⟨some _, .call ⟨.value (.func 25), _, _⟩, _, _, _, none⟩ :: _) _; first | (refine o_q (q_call (sq)) rfl ?_)) | (show AOps _ _ _ _ (⟨_, .store _ _ _, _, _, _, none⟩ :: _) _; first | (refine o_x (s_storeW rfl rfl rfl rfl rfl (by first | rfl | assumption) ?_))) | (show AOps _ _ _ _ (⟨_, .alloc _, _, _, _, none⟩ :: _) _; first | (refine o_x (a_new (by first | (simp only [AV.ofV, AV.cells, List.map_cons, List.map_nil]; rfl) | rfl) rfl rfl rfl ?_))) | (show AOps _ _ _ _ (⟨_, .buildSlice _ _ _, _, _, _, none⟩ :: _) _; first | (refine o_x (x_buildSlice (cs := [.sc _]) (by rfl) (by rfl) (by rfl) (by rfl) (by rfl) (by rfl) rfl ?_))) | (show AOps _ _ _ _ (⟨_, .call ⟨.builtin .append, _, _⟩, _, _, _, none⟩ :: _) _; first | (refine o_x (x_append (X := .sl _ _ _) rfl rfl rfl (by first | rfl | assumption | exact prs_length _ | exact strs_len1 _ | exact byts_len1 _ | exact nums_len1 _ | (simp only [byts_length, strs_length, ints_length, prs_length, List.length_append, List.length_cons, List.length_nil]; omega)) (src_sl rfl (by first | exact Nat.le_of_ble_eq_true rfl | (simp only [strs_length, byts_length]; omega)) (by first | exact take_strs _ | exact take_byts _ | rfl | exact take_bytsE _ _ (by simp only [byts_length, ints_length, List.length_append, List.length_cons, List.length_nil]; omega) | exact take_strsE _ _ (by simp only [strs_length, List.length_append, List.length_cons, List.length_nil]; omega) | (simp; done)) (by first | rfl | exact strs_one _ | exact byts_one _ | exact prs_one _)) rfl rfl (by omega) (by omega) (by first | exact prs_snoc _ _ _ | exact strs_snoc _ _ | exact byts_snoc _ _ | exact nums_snoc _ _ | exact strs_append _ _ | exact byts_append _ _ | exact byts_snoc [] _ | exact strs_snoc [] _ | exact byts_append [] _ | exact strs_append [] _ | exact byts_append _ [_, _] | rfl) (by first | exact Nat.zero_add _ | rfl) ?_)))) | (show IW _ _ _ _ _; first | (refine awp_seq ?_) | (refine awp_region ?_) | (refine awp_block ?_) | (refine awp_exit ?_) | (refine awp_skip ?_) | (refine awp_if_t rfl (by first | rfl | assumption | exact beq_self_eq_true _ | exact decide_eq_true rfl) ?_) | (refine awp_if_f rfl (by first | rfl | assumption) ?_) | (refine awp_if rfl (fun h hp => ?_) (fun h hp => ?_))) | (show thenQ _ _ _ _; first | (refine k_n ?_)))
        · exact iw_at [3] ih2 (by decide) rfl rfl rfl ⟨rfl, rfl, rfl, rfl, rfl, rfl, trivial⟩ ⟨rfl, (by first | rfl | exact blk_fl rfl (strs_flat _)), trivial⟩
        · exfalso; omega
      | false =>
        rw [hq] at sq
        repeat' (first | (refine aops_nil ?_) | (show AOps _ _ _ _ _ _; first | (show AOps _ _ _ _ (⟨some _, .move _, _, _, _, none⟩ :: _) _; first | (refine o_y (v_move (v := .sc _) rfl) rfl ?_) | (refine o_y (v_move (v := .sl _ _ _) rfl) rfl ?_)) | (show AOps _ _ _ _ (⟨some _, .load _ _, _, _, _, none⟩ :: _) _; first | (refine o_y (y_load1 (v := .sc _) rfl rfl rfl) rfl ?_) | (refine o_y (y_loadW rfl rfl rfl) rfl ?_) | (refine o_y (y_vloadE rfl (by assumption) (by rfl) rfl) rfl ?_)) | (show AOps _ _ _ _ (⟨some _, .fieldAddr _ _ _, _, _, _, none⟩ :: _) _; first | (refine o_y (y_fld_ptr rfl rfl) rfl ?_)) | (show AOps _ _ _ _ (⟨some _, .assign _, _, _, _, none⟩ :: _) _; first | (refine o_y (v_assign (v := .sc _) rfl) rfl ?_) | (refine o_y (v_assign (v := .sl _ _ _) rfl) rfl ?_)) | (show AOps _ _ _ _ (⟨some _, .binOp .add _ _ _ _, _, _, _, none⟩ :: _) _; first | (refine o_y (z_add rfl rfl (by omega) (by omega)) rfl ?_) | (refine o_y (y_cat rfl rfl (by omega)) rfl ?_) | (refine o_y (y_bin rfl rfl rfl) rfl ?_)) | (show AOps _ _ _ _ (⟨some _, .binOp _ _ _ _ _, _, _, _, none⟩ :: _) _; first | (refine o_y (y_bin rfl rfl rfl) rfl ?_) | (refine o_y (y_binS rfl rfl rfl) rfl ?_)) | (show AOps _ _ _ _ (⟨some _, .unOp _ _ _, _, _, _, none⟩ :: _) _; first | (refine o_y (y_not rfl) rfl ?_)) | (show AOps _ _ _ _ (⟨some _, .indexAddr _ _ _, _, _, _, none⟩ :: _) _; first | (refine o_y (y_ix_vsl rfl rfl rfl (by omega) (by omega)) rfl ?_)) | (show AOps _ _ _ _ (⟨some _, .call ⟨.value (.func 24), _, _⟩, _, _, _, none⟩ :: _) _; first | (refine o_q (q_call (sg)) rfl ?_)) | (show AOps _ _ _ _ (⟨some _, .call ⟨.value (.func 25), _, _⟩, _, _, _, none⟩ :: _) _; first | (refine o_q (q_call (sq)) rfl ?_)) | (show AOps _ _ _ _ (⟨_, .store _ _ _, _, _, _, none⟩ :: _) _; first | (refine o_x (s_storeW rfl rfl rfl rfl rfl (by first | rfl | assumption) ?_))) | (show AOps _ _ _ _ (⟨_, .alloc _, _, _, _, none⟩ :: _) _; first | (refine o_x (a_new (by first | (simp only [AV.ofV, AV.cells, List.map_cons, List.map_nil]; rfl) | rfl) rfl rfl rfl ?_))) | (show AOps _ _ _ _ (⟨_, .buildSlice _ _ _, _, _, _, none⟩ :: _) _; first | (refine o_x (x_buildSlice (cs := [.sc _]) (by rfl) (by rfl) (by rfl) (by rfl) (by rfl) (by rfl) rfl ?_))) | (show AOps _ _ _ _ (⟨_, .call ⟨.builtin .append, _, _⟩, _, _, _, none⟩ :: _) _; first | (refine o_x (x_append (X := .sl _ _ _) rfl rfl rfl (by first | rfl | assumption | exact prs_length _ | exact strs_len1 _ | exact byts_len1 _ | exact nums_len1 _ | (simp only [byts_length, strs_length, ints_length, prs_length, List.length_append, List.length_cons, List.length_nil]; omega)) (src_sl rfl (by first | exact Nat.le_of_ble_eq_true rfl | (simp only [strs_length, byts_length]; omega)) (by first | exact take_strs _ | exact take_byts _ | rfl | exact take_bytsE _ _ (by simp only [byts_length, ints_length, List.length_append, List.length_cons, List.length_nil]; omega) | exact take_strsE _ _ (by simp only [strs_length, List.length_append, List.length_cons, List.length_nil]; omega) | (simp; done)) (by first | rfl | exact strs_one _ | exact byts_one _ | exact prs_one _)) rfl rfl (by omega) (by omega) (by first | exact prs_snoc _ _ _ | exact strs_snoc _ _ | exact byts_snoc _ _ | exact nums_snoc _ _ | exact strs_append _ _ | exact byts_append _ _ | exact byts_snoc [] _ | exact strs_snoc [] _ | exact byts_append [] _ | exact strs_append [] _ | exact byts_append _ [_, _] | rfl) (by first | exact Nat.zero_add _ | rfl) ?_)))) | (show IW _ _ _ _ _; first | (refine awp_seq ?_) | (refine awp_region ?_) | (refine awp_block ?_) | (refine awp_exit ?_) | (refine awp_skip ?_) | (refine awp_if_f rfl (by first | rfl | assumption) ?_) | (refine awp_if rfl (fun h hp => ?_) (fun h hp => ?_))) | (show thenQ _ _ _ _; first | (refine k_n ?_)))
        · skip
          rw [show item v = v.1 ++ (⟨#[61]⟩ ++ v.2) from congrArg (v.1 ++ ·) (sfx_p hq hp)] at ih2
          exact iw_at [3] ih2 (by decide) rfl rfl rfl ⟨rfl, rfl, rfl, rfl, rfl, rfl, trivial⟩ ⟨rfl, (by first | rfl | exact blk_fl rfl (strs_flat _)), trivial⟩
        · rw [show item v = v.1 ++ v.2 from congrArg (v.1 ++ ·) (sfx_e hq (Decidable.not_not.1 hp))] at ih2
          exact iw_at [3] ih2 (by decide) rfl rfl rfl ⟨rfl, rfl, rfl, rfl, rfl, rfl, trivial⟩ ⟨rfl, (by first | rfl | exact blk_fl rfl (strs_flat _)), trivial⟩
        · exfalso; omega
  · obtain rfl : i = l.length := by omega
    rw [List.take_of_length_le (Nat.le_refl _)] at h2 ⊢
    have hml : (l.map item).length = l.length := List.length_map ..
    have sj := joinS_spec SEP (by decide) (by decide) (l.map item) (by omega) (fun x hx => by
      obtain ⟨v, hv, rfl⟩ := List.mem_map.1 hx
      exact item_size (List.all_eq_true.1 h2 v hv))
    rw [hml] at sj
    repeat' (first | (refine aops_nil ?_) | (show AOps _ _ _ _ _ _; first | (show AOps _ _ _ _ (⟨some _, .binOp .add _ _ _ _, _, _, _, none⟩ :: _) _; first | (refine o_y (y_bin rfl rfl rfl) rfl ?_)) | (show AOps _ _ _ _ (⟨some _, .binOp _ _ _ _ _, _, _, _, none⟩ :: _) _; first | (refine o_y (y_bin rfl rfl rfl) rfl ?_)) | (show AOps _ _ _ _ (⟨some _, .indexAddr _ _ _, _, _, _, none⟩ :: _) _; first | (refine o_y (y_ix_vsl rfl rfl rfl (by omega) (by omega)) rfl ?_))) | (show IW _ _ [.code (.seq _ _)] _ _; first | (show AWP _ _ (.seq (.cond _ _ _) _) _ _; refine awp_seq ?_) | (show AWP _ _ (.seq (.block _ _) _) _ _; refine awp_seq ?_) | (show AWP _ _ (.seq (.region 3 _ _) _) _ _; refine awp_seq ?_) | (show AWP _ _ (.seq (.region 4 _ _) _) _ _; refine awp_seq ?_)) | (show IW _ _ _ _ _; first | (refine awp_region ?_) | (refine awp_block ?_) | (refine awp_exit ?_) | (refine awp_skip ?_) | (refine awp_if rfl (fun h hp => ?_) (fun h hp => ?_))) | (show thenQ _ _ _ _; first | (refine k_n ?_) | (refine k_x ?_)) | (show blockQ _ _ _ _; first | (refine b_hit rfl ?_)))
    · exfalso; omega
    · refine iw_frzS 4 0 rfl rfl (strs_flat _) (by rw [strs_length, hml]; omega) ?_
      repeat' (first | (refine aops_nil ?_) | (show AOps _ _ _ _ _ _; first | (show AOps _ _ _ _ (⟨some _, .move _, _, _, _, none⟩ :: _) _; first | (refine o_y (v_move (v := .vsl _ _ _ _) rfl) rfl ?_)) | (show AOps _ _ _ _ (⟨some _, .assign _, _, _, _, none⟩ :: _) _; first | (refine o_y (v_assign (v := .sc _) rfl) rfl ?_)) | (show AOps _ _ _ _ (⟨some _, .call ⟨.value (.func 26), _, _⟩, _, _, _, none⟩ :: _) _; first | (refine o_q (q_call (sj)) rfl ?_))) | (show IW _ _ _ _ _; first | (refine awp_seq ?_) | (refine awp_region ?_) | (refine awp_ret ?_)))
      exact ret2 [] (by decide) rfl (by rw [listV_ok h2]; rfl)
end Go.Proofs.YtdcnpkbflelpfaaDoor.Sx
namespace Go.Proofs.YtdcnpkbflelpfaaDoor.Sx
open Go Go.RowKit
attribute [local irreducible] IW AOps AQuiet GQ GY AExec QY Yld ACalls ACallsD
theorem lst_next {l : List Pr} {i : Nat} {v : Pr} (h : l[i]? = some v) (hi : 0 < i) : lst (l.take (i + 1)) = lst (l.take i) ++ SEP ++ item v := by
  unfold lst
  rw [List.map_take, List.map_take]
  exact jn_snoc (by rw [List.getElem?_map, h]; rfl) hi
theorem lst_first {l : List Pr} {v : Pr} (h : l[0]? = some v) : lst (l.take 1) = item v := by
  unfold lst
  rw [List.map_take]
  exact jn_one SEP _ (by rw [List.getElem?_map, h]; rfl)
theorem nil_app (s : ByteArray) : (⟨#[]⟩ : ByteArray) ++ s = s := ByteArray.empty_append
end Go.Proofs.YtdcnpkbflelpfaaDoor.Sx
