/- What reading variables computes: one variable at a text's beginning, all of them. The program's reading. The program's reading. -/
import Derived.Test.YtkdckdfbilmnhaaI
namespace Go.Proofs.Ytkdckdfbilmnhaa.Sx
open Go Go.RowKit
attribute [local irreducible] IW AOps AQuiet GQ GY AExec QY Yld ACalls ACallsD
@[reducible] def QU : ByteArray := ⟨#[34]⟩
/-- A variable at a text's beginning, and what is left. -/
def oneE (nm t : ByteArray) : Pr × ByteArray :=
  if pre QU t then ((nm, (cutq (t.extract 1 t.size)).1), (cutq (t.extract 1 t.size)).2.1) else ((nm, t.extract 0 (ix (pB 44) t)), t.extract (ix (pB 44) t) t.size)
def one (x : ByteArray) : Pr × ByteArray :=
  if ix pE x = x.size then ((x, ⟨#[]⟩), ⟨#[]⟩)
  else if bt x (ix pE x) = 44 then ((x.extract 0 (ix pE x), ⟨#[]⟩), x.extract (ix pE x) x.size)
  else oneE (x.extract 0 (ix pE x)) (x.extract (ix pE x + 1) x.size)
theorem cutq_size (s : ByteArray) : (cutq s).1.size ≤ s.size ∧ (cutq s).2.1.size ≤ s.size := by
  unfold cutq
  split
  · simp only [ByteArray.size_extract]; omega
  · exact ⟨Nat.le_refl _, Nat.zero_le _⟩
theorem oneE_size (nm t : ByteArray) : (oneE nm t).1.1 = nm ∧ (oneE nm t).1.2.size ≤ t.size ∧ (oneE nm t).2.size ≤ t.size := by
  unfold oneE
  split
  · have := cutq_size (t.extract 1 t.size)
    rw [ByteArray.size_extract] at this
    exact ⟨rfl, by dsimp only; omega, by dsimp only; omega⟩
  · refine ⟨rfl, ?_, ?_⟩ <;> (dsimp only; rw [ByteArray.size_extract]; omega)
theorem one_size (x : ByteArray) : (one x).1.1.size ≤ x.size ∧ (one x).1.2.size ≤ x.size ∧ (one x).2.size ≤ x.size := by
  have h := ix_le pE x
  unfold one
  split
  · exact ⟨Nat.le_refl _, Nat.zero_le _, Nat.zero_le _⟩
  · split
    · refine ⟨?_, Nat.zero_le _, ?_⟩ <;> (dsimp only; rw [ByteArray.size_extract]; omega)
    · obtain ⟨h1, h2, h3⟩ := oneE_size (x.extract 0 (ix pE x)) (x.extract (ix pE x + 1) x.size)
      rw [ByteArray.size_extract] at h2 h3
      refine ⟨by rw [h1, ByteArray.size_extract]; omega, by omega, by omega⟩
/-- The variables of a text. -/
def parse (x : ByteArray) : Option (List Pr) :=
  if h0 : x.size = 0 then some []
  else if h1 : (one x).2.size = 0 then some [(one x).1]
  else if pre SEP (one x).2 = true ∧ 2 < (one x).2.size then (parse ((one x).2.extract 2 (one x).2.size)).map ((one x).1 :: ·)
  else none
termination_by x.size
decreasing_by
  have := (one_size x).2.2
  rw [ByteArray.size_extract]
  omega
theorem parse_nil {x : ByteArray} (h : x.size = 0) : parse x = some [] := by rw [parse, dif_pos h]
theorem parse_last {x : ByteArray} (h : x.size ≠ 0) (h1 : (one x).2.size = 0) : parse x = some [(one x).1] := by rw [parse, dif_neg h, dif_pos h1]
theorem parse_more {x : ByteArray} (h : x.size ≠ 0) (h1 : (one x).2.size ≠ 0) (h2 : pre SEP (one x).2 = true ∧ 2 < (one x).2.size) : parse x = (parse ((one x).2.extract 2 (one x).2.size)).map ((one x).1 :: ·) := by rw [parse, dif_neg h, dif_neg h1, if_pos h2]
theorem parse_bad {x : ByteArray} (h : x.size ≠ 0) (h1 : (one x).2.size ≠ 0) (h2 : ¬ (pre SEP (one x).2 = true ∧ 2 < (one x).2.size)) : parse x = none := by rw [parse, dif_neg h, dif_neg h1, if_neg h2]
def readV (s : ByteArray) : Option (List Pr) := match parse s with
  | none => none
  | some l => if listV l = some s then some l else none
def rres : Option (List Pr) → AV
  | some l => .tup [.vsl (prs l) 2 0 l.length, .sc (.int .i64 0)]
  | none => .tup [.sc (.slice none 0 0), .sc (.int .i64 21)]
/-- What is read so far, and what is left. -/
def At (s : ByteArray) (x : ByteArray) (l : List Pr) : Prop := parse s = (parse x).map (l ++ ·) ∧ l.length + x.size ≤ s.size ∧ ∀ v ∈ l, v.1.size ≤ s.size ∧ v.2.size ≤ s.size
theorem at_start (s : ByteArray) : At s s [] := ⟨by cases parse s <;> rfl, by simp, fun v hv => by cases hv⟩
theorem at_mem {s x : ByteArray} {l : List Pr} (h : At s x l) : ∀ v ∈ l ++ [(one x).1], v.1.size ≤ s.size ∧ v.2.size ≤ s.size := fun v hv => by
  obtain ⟨_, h2, h3⟩ := h
  have h4 := one_size x
  rcases List.mem_append.1 hv with hv | hv
  · exact h3 v hv
  · rw [List.mem_singleton.1 hv]; omega
theorem at_more {s x : ByteArray} {l : List Pr} (h : At s x l) (h0 : x.size ≠ 0) (h1 : (one x).2.size ≠ 0) (h2 : pre SEP (one x).2 = true ∧ 2 < (one x).2.size) : At s ((one x).2.extract 2 (one x).2.size) (l ++ [(one x).1]) := by
  have h5 := at_mem h
  obtain ⟨e, h3, h4⟩ := h
  have h6 := one_size x
  refine ⟨?_, by rw [List.length_append, List.length_singleton, ByteArray.size_extract]; omega, h5⟩
  rw [e, parse_more h0 h1 h2]
  cases parse ((one x).2.extract 2 (one x).2.size) <;> simp
theorem at_last {s x : ByteArray} {l : List Pr} (h : At s x l) (h0 : x.size ≠ 0) (h1 : (one x).2.size = 0) : parse s = some (l ++ [(one x).1]) := by
  rw [h.1, parse_last h0 h1]
  rfl
theorem at_end {s x : ByteArray} {l : List Pr} (h : At s x l) (h0 : x.size = 0) : parse s = some l := by
  rw [h.1, parse_nil h0]
  simp
theorem at_bad {s x : ByteArray} {l : List Pr} (h : At s x l) (h0 : x.size ≠ 0) (h1 : (one x).2.size ≠ 0) (h2 : ¬ (pre SEP (one x).2 = true ∧ 2 < (one x).2.size)) : readV s = none := by
  unfold readV
  rw [h.1, parse_bad h0 h1 h2]
  rfl
theorem at_sm {s x : ByteArray} {l : List Pr} (h : At s x l) (h0 : x.size ≠ 0) (hs : s.size ≤ 2097152) : Sm (l ++ [(one x).1]) := by
  have h5 := at_mem h
  obtain ⟨_, h3, _⟩ := h
  refine ⟨by rw [List.length_append, List.length_singleton]; omega, fun v hv => ?_⟩
  have := h5 v hv
  omega
end Go.Proofs.Ytkdckdfbilmnhaa.Sx
namespace Go.Proofs.Ytkdckdfbilmnhaa.Sx
open Go Go.RowKit
attribute [local irreducible] IW AOps AQuiet GQ GY AExec QY Yld ACalls ACallsD
attribute [local irreducible] ByteArray.extract
theorem bt_app_l {a b : ByteArray} {j : Nat} (h : j < a.size) : bt (a ++ b) (j : Nat) = bt a (j : Nat) := by
  have h1 := ints_at (s := a ++ b) (i := j) (by rw [ByteArray.size_append]; omega)
  rw [ints_append, List.getElem?_append_left (by rw [ints_length]; exact h), ints_at h] at h1
  exact (Option.some.inj h1).symm
theorem bt_app_r {a b : ByteArray} {j : Nat} (h : j < b.size) : bt (a ++ b) ((a.size + j : Nat) : Int) = bt b (j : Nat) := by
  have h1 := ints_at (s := a ++ b) (i := a.size + j) (by rw [ByteArray.size_append]; omega)
  rw [ints_append, List.getElem?_append_right (by rw [ints_length]; omega), ints_length, Nat.add_sub_cancel_left, ints_at h] at h1
  exact (Option.some.inj h1).symm
theorem ix_comma (t : ByteArray) : ixI (pB 44) (t ++ ⟨#[44]⟩) = (ix (pB 44) t : Nat) := by
  have hle := ix_le (pB 44) t
  have hz : (t ++ (⟨#[44]⟩ : ByteArray)).size = t.size + 1 := ByteArray.size_append
  refine ixI_at (i := ix (pB 44) t) (by omega) (fun j hj => ?_) ?_
  · rw [bt_app_l (by omega)]
    exact ix_before hj
  · by_cases h : ix (pB 44) t < t.size
    · rw [bt_app_l h]; exact ix_at h
    · have h2 : ix (pB 44) t = t.size + 0 := by omega
      rw [h2, bt_app_r (by decide)]
      decide
theorem nil_iff {s : ByteArray} : s = ⟨#[]⟩ ↔ s.size = 0 := by
  constructor
  · intro h; rw [h]; rfl
  · intro h
    have h2 := strOf_ints s
    have h3 : ints s = [] := List.eq_nil_of_length_eq_zero (by rw [ints_length]; exact h)
    rw [h3] at h2
    rw [← h2]
    rfl
theorem snoc_len {α : Type} (l : List α) (v : α) : l.length + 1 = (l ++ [v]).length := by simp
theorem pE_iff {c : Int} : pE c = true ↔ c = 61 ∨ c = 44 := by unfold pE; simp
theorem ext0 (s : ByteArray) : s.extract 0 s.size = s := ByteArray.extract_zero_size
theorem isnil_t {s : ByteArray} (h : s.size = 0) : decide (s = ⟨#[]⟩) = true := decide_eq_true (nil_iff.2 h)
theorem isnil_f {s : ByteArray} (h : s.size ≠ 0) : decide (s = ⟨#[]⟩) = false := decide_eq_false (fun e => h (nil_iff.1 e))
theorem cutP_t {s p : ByteArray} (h : pre p s = true) : ACalls Try.prog 21 [.sc (.string s), .sc (.string p)] ⟨0, []⟩ (fun r _ => r = .tup [.sc (.string (s.extract p.size s.size)), .sc (.bool true)]) := by
  have := cutPS_spec s p
  rwa [h, if_pos rfl] at this
theorem cutP_f {s p : ByteArray} (h : pre p s = false) : ACalls Try.prog 21 [.sc (.string s), .sc (.string p)] ⟨0, []⟩ (fun r _ => r = .tup [.sc (.string s), .sc (.bool false)]) := by
  have := cutPS_spec s p
  rwa [h, if_neg (by decide)] at this
theorem readV_ok {s : ByteArray} {l : List Pr} (h : parse s = some l) (h2 : listV l = some s) : readV s = some l := by
  unfold readV
  rw [h]
  exact if_pos h2
theorem readV_no {s : ByteArray} {l : List Pr} (h : parse s = some l) (h2 : listV l ≠ some s) : readV s = none := by
  unfold readV
  rw [h]
  exact if_neg h2
theorem y_maxK {P : Program} {N : Sg} {σ : St} {d : Option Tmp} {ty : TypeId} {pos : String} {af : Array Edge} {gd : Option (Nat × Bool)} {x y : Operand} {t u : TypeId} {k : Nat} (hx : σ.ev x = .sc (.int .i64 (k : Int))) (hy : σ.ev y = .sc (.int .i64 0)) : Yld P N ⟨d, .call ⟨.builtin .max, #[x, y], #[t, u]⟩, ty, pos, af, gd⟩ σ (.sc (.int .i64 (k : Int))) := by
  have := y_max2 (P := P) (N := N) (d := d) (ty := ty) (pos := pos) (af := af) (gd := gd) (ts := #[t, u]) hx hy
  rwa [show max ((k : Nat) : Int) 0 = (k : Int) from by omega] at this
set_option maxHeartbeats 4000000 in
theorem read_spec (s : ByteArray) (hs : s.size ≤ 2097152) : ACalls Try.prog 9 [.sc (.string s)] ⟨0, []⟩ (fun r _ => r = rres (readV s)) := by
  refine enter1 Try.func9 rfl 93 0 [.tmp 2, .tmp 3] rfl rfl rfl ?_
  repeat' (first | (refine aops_nil ?_) | (show AOps _ _ _ _ _ _; first | (show AOps _ _ _ _ (⟨some _, .assign _, _, _, _, none⟩ :: _) _; first | (refine o_y (v_assign (v := .sc _) rfl) rfl ?_))) | (show IW _ _ _ _ _; first | (refine awp_seq ?_) | (refine awp_region ?_)) | (show thenQ _ _ _ _; first | (refine k_n ?_)))
  refine awp_scope (iw_scope ?_)
  repeat' (first | (refine aops_nil ?_) | (show AOps _ _ _ _ _ _; first | (show AOps _ _ _ _ (⟨some _, .assign _, _, _, _, none⟩ :: _) _; first | (refine o_y (v_assign (v := .sc _) rfl) rfl ?_))) | (show IW _ _ [.code (.seq _ _)] _ _; first | (show AWP _ _ (.seq (.region 1 _ _) _) _ _; refine awp_seq ?_)) | (show IW _ _ _ _ _; first | (refine awp_region ?_)) | (show thenQ _ _ _ _; first | (refine k_n ?_)))
  refine iw_nil 4 2 39 rfl ?_
  repeat' (first | (refine aops_nil ?_) | (show AOps _ _ _ _ _ _; first | (show AOps _ _ _ _ (⟨some _, .move _, _, _, _, none⟩ :: _) _; first | (refine o_y (v_move (v := .sc _) rfl) rfl ?_)) | (show AOps _ _ _ _ (⟨some _, .assign _, _, _, _, none⟩ :: _) _; first | (refine o_y (v_assign (v := .sc _) rfl) rfl ?_))) | (show IW _ _ [.code (.seq _ _)] _ _; first | (show AWP _ _ (.seq (.region _ _ _) _) _ _; refine awp_seq ?_) | (show AWP _ _ (.seq (.label _) _) _ _; refine awp_seq ?_)) | (show IW _ _ _ _ _; first | (refine awp_region ?_) | (refine awp_label ?_)) | (show thenQ _ _ _ _; first | (refine k_n ?_)))
  refine awp_cut (fun l : List Pr => parse s = some l ∧ Sm l) (fun l => [(0, .sc (.string s)), (2, .sc (.slice none 0 0)), (3, .sc (.int .i64 0)), (4, .sl 0 0 l.length)]) (fun l => ⟨1, [(0, some ⟨prs l, 2, 39⟩)]⟩) (fun K hK => ?_) ?_
  · repeat' (first | (show IW _ _ _ _ _; first | (refine awp_block ?_)))
    refine awp_loopI (fun x : ByteArray × List Pr => At s x.1 x.2) (fun x => x.1.size) (fun x => [(0, .sc (.string s)), (2, .sc (.slice none 0 0)), (3, .sc (.int .i64 0)), (4, .sl 0 0 x.2.length), (5, .sc (.string x.1))]) 1 (fun x => [(0, some ⟨prs x.2, 2, 39⟩)]) (s, []) [0] (by decide) rfl rfl rfl (at_start s) ⟨rfl, rfl, rfl, rfl, rfl, trivial⟩ ⟨rfl, rfl, trivial⟩ ?_
    rintro ⟨x, l⟩ hA ih
    dsimp only at hA ih ⊢
    have hAz : l.length + x.size ≤ s.size := hA.2.1
    have pl := prs_length l
    have sml : Sm l := ⟨by omega, fun v hv => by have := hA.2.2 v hv; omega⟩
    by_cases h0 : x.size = 0
    · have n0 := isnil_t h0
      repeat' (first | (refine aops_nil ?_) | (show AOps _ _ _ _ _ _; first | (show AOps _ _ _ _ (⟨some _, .move _, _, _, _, none⟩ :: _) _; first | (refine o_y (v_move (v := .sc _) rfl) rfl ?_)) | (show AOps _ _ _ _ (⟨some _, .binOp _ _ _ _ _, _, _, _, none⟩ :: _) _; first | (refine o_y (y_binS rfl rfl rfl) rfl ?_)) | (show AOps _ _ _ _ (⟨_, .alloc _, _, _, _, none⟩ :: _) _; first | (refine o_x (a_new (by first | (simp only [AV.ofV, AV.cells, List.map_cons, List.map_nil]; rfl) | rfl) rfl rfl rfl ?_)))) | (show IW _ _ _ _ _; first | (refine awp_seq ?_) | (refine awp_region ?_) | (refine awp_block ?_) | (refine awp_exit ?_) | (refine awp_skip ?_) | (refine awp_if rfl (fun h hp => ?_) (fun h hp => ?_))) | (show thenQ _ _ _ _; first | (refine k_n ?_) | (refine k_x ?_)) | (show blockQ _ _ _ _; first | (refine b_hit rfl ?_)))
      · exfalso; simp_all
      · exact hK l ⟨at_end hA h0, sml⟩ _ ⟨[0], by decide, rfl, rfl, ⟨rfl, rfl, rfl, rfl, trivial⟩, hp_is ⟨rfl, (by first | rfl | exact blk_fl rfl (prs_flat _)), trivial⟩⟩
    have n0 := isnil_f h0
    have smo := at_sm hA h0 hs
    have hle := ix_le pE x
    have sI := anyE_spec x (by omega)
    have n0' : (!decide (x = ⟨#[]⟩)) = true := by rw [n0]; rfl
    by_cases hA0 : ix pE x = x.size
    · have o : one x = ((x, ⟨#[]⟩), ⟨#[]⟩) := if_pos hA0
      have h1 : (one x).2.size = 0 := by rw [o]; rfl
      have hl := at_last hA h0 h1
      rw [o] at hl smo
      rw [show ixI pE x = -1 from if_neg (by omega)] at sI
      repeat' (first | (refine aops_nil ?_) | (show AOps _ _ _ _ _ _; first | (show AOps _ _ _ _ (⟨some _, .build _ _, _, _, _, none⟩ :: _) _; first | (refine o_y (y_build (cs := [.sc _, .sc _]) rfl rfl) rfl ?_)) | (show AOps _ _ _ _ (⟨some _, .move _, _, _, _, none⟩ :: _) _; first | (refine o_y (v_move (v := .sc _) rfl) rfl ?_) | (refine o_y (v_move (v := .sl _ _ _) rfl) rfl ?_)) | (show AOps _ _ _ _ (⟨some _, .assign _, _, _, _, none⟩ :: _) _; first | (refine o_y (v_assign (v := .sc _) rfl) rfl ?_) | (refine o_y (v_assign (v := .sl _ _ _) rfl) rfl ?_)) | (show AOps _ _ _ _ (⟨some _, .binOp .add _ _ _ _, _, _, _, none⟩ :: _) _; first | (refine o_y (y_bin rfl rfl rfl) rfl ?_)) | (show AOps _ _ _ _ (⟨some _, .binOp _ _ _ _ _, _, _, _, none⟩ :: _) _; first | (refine o_y (y_bin rfl rfl rfl) rfl ?_) | (refine o_y (y_binS rfl rfl rfl) rfl ?_)) | (show AOps _ _ _ _ (⟨some _, .call ⟨.value (.func 20), _, _⟩, _, _, _, none⟩ :: _) _; first | (refine o_q (q_call (sI)) rfl ?_)) | (show AOps _ _ _ _ (⟨_, .alloc _, _, _, _, none⟩ :: _) _; first | (refine o_x (a_new (by first | (simp only [AV.ofV, AV.cells, List.map_cons, List.map_nil]; rfl) | rfl) rfl rfl rfl ?_))) | (show AOps _ _ _ _ (⟨_, .buildSlice _ _ _, _, _, _, none⟩ :: _) _; first | (refine o_x (x_buildSlice (cs := [.sc _, .sc _]) (by rfl) (by rfl) (by rfl) (by rfl) (by rfl) (by rfl) rfl ?_)) | (refine o_x (x_buildSlice (cs := [.sc _, .sc _]) (by rfl) (by rfl) (by rfl) (by rfl) (by rfl) (by rfl) rfl ?_))) | (show AOps _ _ _ _ (⟨_, .call ⟨.builtin .append, _, _⟩, _, _, _, none⟩ :: _) _; first | (refine o_x (x_append (X := .sl _ _ _) rfl rfl rfl (by first | rfl | assumption | exact prs_length _ | exact strs_len1 _ | exact byts_len1 _ | exact nums_len1 _ | (simp only [byts_length, strs_length, ints_length, prs_length, List.length_append, List.length_cons, List.length_nil]; omega)) (src_sl rfl (by first | exact Nat.le_of_ble_eq_true rfl | (simp only [strs_length, byts_length]; omega)) (by first | exact take_strs _ | exact take_byts _ | rfl | exact take_bytsE _ _ (by simp only [byts_length, ints_length, List.length_append, List.length_cons, List.length_nil]; omega) | exact take_strsE _ _ (by simp only [strs_length, List.length_append, List.length_cons, List.length_nil]; omega) | (simp; done)) (by first | rfl | exact strs_one _ | exact byts_one _ | exact prs_one _)) rfl rfl (by omega) (by omega) (by first | exact prs_snoc _ _ _ | exact strs_snoc _ _ | exact byts_snoc _ _ | exact nums_snoc _ _ | exact strs_append _ _ | exact byts_append _ _ | exact byts_snoc [] _ | exact strs_snoc [] _ | exact byts_append [] _ | exact strs_append [] _ | exact byts_append _ [_, _] | rfl) (by first | exact Nat.zero_add _ | rfl) ?_)))) | (show IW _ _ _ _ _; first | (refine awp_seq ?_) | (refine awp_region ?_) | (refine awp_block ?_) | (refine awp_exit ?_) | (refine awp_skip ?_) | (refine awp_if_t rfl (by first | rfl | assumption | exact beq_self_eq_true _ | exact decide_eq_true rfl) ?_)) | (show thenQ _ _ _ _; first | (refine k_n ?_) | (refine k_x ?_)) | (show blockQ _ _ _ _; first | (refine b_hit rfl ?_) | (refine b_miss rfl ?_)))
      exact hK _ ⟨hl, smo⟩ _ ⟨[3], by decide, rfl, rfl, ⟨rfl, rfl, rfl, congrArg (fun n => AV.sl 0 0 n) (snoc_len _ _), trivial⟩, hp_is ⟨rfl, (by first | rfl | exact blk_fl rfl (prs_flat _)), trivial⟩⟩
    have hlt : ix pE x < x.size := by omega
    have hat := ix_at hlt
    rw [show ixI pE x = (ix pE x : Nat) from if_pos hlt] at sI
    by_cases hc : bt x (ix pE x : Nat) = 44
    · have o : one x = ((x.extract 0 (ix pE x), ⟨#[]⟩), x.extract (ix pE x) x.size) := by unfold one; rw [if_neg hA0, if_pos hc]
      have k61 : (bt x (ix pE x : Nat) == 61) = false := by rw [hc]; rfl
      generalize ix pE x = i at o hlt hat sI hc k61 hle hA0
      repeat' (first | (refine aops_nil ?_) | (show AOps _ _ _ _ _ _; first | (show AOps _ _ _ _ (⟨some _, .move _, _, _, _, none⟩ :: _) _; first | (refine o_y (v_move (v := .sc _) rfl) rfl ?_) | (refine o_y (v_move (v := .sl _ _ _) rfl) rfl ?_)) | (show AOps _ _ _ _ (⟨some _, .load _ _, _, _, _, none⟩ :: _) _; first | (refine o_y (y_loadW rfl rfl rfl) rfl ?_)) | (show AOps _ _ _ _ (⟨some _, .fieldAddr _ _ _, _, _, _, none⟩ :: _) _; first | (refine o_y (y_fld_ptr rfl rfl) rfl ?_)) | (show AOps _ _ _ _ (⟨some _, .assign _, _, _, _, none⟩ :: _) _; first | (refine o_y (v_assign (v := .sc _) rfl) rfl ?_) | (refine o_y (v_assign (v := .sl _ _ _) rfl) rfl ?_)) | (show AOps _ _ _ _ (⟨some _, .binOp .add _ _ _ _, _, _, _, none⟩ :: _) _; first | (refine o_y (y_bin rfl rfl rfl) rfl ?_)) | (show AOps _ _ _ _ (⟨some _, .binOp _ _ _ _ _, _, _, _, none⟩ :: _) _; first | (refine o_y (y_bin rfl rfl rfl) rfl ?_) | (refine o_y (y_binS rfl rfl rfl) rfl ?_)) | (show AOps _ _ _ _ (⟨some _, .index _ _ _, _, _, _, none⟩ :: _) _; first | (refine o_y (y_indexS rfl rfl (by omega) (by omega)) rfl ?_)) | (show AOps _ _ _ _ (⟨some _, .slice _ _ _ _ _, _, _, _, none⟩ :: _) _; first | (refine o_y (y_sliceS_l rfl rfl (by omega) (by omega)) rfl ?_) | (refine o_y (y_sliceS_h rfl rfl (by omega) (by omega)) rfl ?_)) | (show AOps _ _ _ _ (⟨some _, .call ⟨.value (.func 20), _, _⟩, _, _, _, none⟩ :: _) _; first | (refine o_q (q_call (sI)) rfl ?_)) | (show AOps _ _ _ _ (⟨_, .store _ _ _, _, _, _, none⟩ :: _) _; first | (refine o_x (s_storeN (v := .sc _) rfl rfl rfl rfl rfl (by first | (simp only [List.set_cons_zero, List.set_cons_succ]; rfl) | rfl) ?_))) | (show AOps _ _ _ _ (⟨_, .alloc _, _, _, _, none⟩ :: _) _; first | (refine o_x (a_new (by first | (simp only [AV.ofV, AV.cells, List.map_cons, List.map_nil]; rfl) | rfl) rfl rfl rfl ?_))) | (show AOps _ _ _ _ (⟨_, .buildSlice _ _ _, _, _, _, none⟩ :: _) _; first | (refine o_x (x_buildSlice (cs := [.sc _, .sc _]) (by rfl) (by rfl) (by rfl) (by rfl) (by rfl) (by rfl) rfl ?_)) | (refine o_x (x_buildSlice (cs := [.sc _, .sc _]) (by rfl) (by rfl) (by rfl) (by rfl) (by rfl) (by rfl) rfl ?_))) | (show AOps _ _ _ _ (⟨_, .call ⟨.builtin .append, _, _⟩, _, _, _, none⟩ :: _) _; first | (refine o_x (x_append (X := .sl _ _ _) rfl rfl rfl (by first | rfl | assumption | exact prs_length _ | exact strs_len1 _ | exact byts_len1 _ | exact nums_len1 _ | (simp only [byts_length, strs_length, ints_length, prs_length, List.length_append, List.length_cons, List.length_nil]; omega)) (src_sl rfl (by first | exact Nat.le_of_ble_eq_true rfl | (simp only [strs_length, byts_length]; omega)) (by first | exact take_strs _ | exact take_byts _ | rfl | exact take_bytsE _ _ (by simp only [byts_length, ints_length, List.length_append, List.length_cons, List.length_nil]; omega) | exact take_strsE _ _ (by simp only [strs_length, List.length_append, List.length_cons, List.length_nil]; omega) | (simp; done)) (by first | rfl | exact strs_one _ | exact byts_one _ | exact prs_one _)) rfl rfl (by omega) (by omega) (by first | exact prs_snoc _ _ _ | exact strs_snoc _ _ | exact byts_snoc _ _ | exact nums_snoc _ _ | exact strs_append _ _ | exact byts_append _ _ | exact byts_snoc [] _ | exact strs_snoc [] _ | exact byts_append [] _ | exact strs_append [] _ | exact byts_append _ [_, _] | rfl) (by first | exact Nat.zero_add _ | rfl) ?_)))) | (show IW _ _ [.code (.seq _ _)] _ _; first | (show AWP _ _ (.seq (.seq _ _) _) _ _; refine awp_seq ?_) | (show AWP _ _ (.seq (.region 3 _ _) _) _ _; refine awp_seq ?_) | (show AWP _ _ (.seq (.region 4 _ _) _) _ _; refine awp_seq ?_) | (show AWP _ _ (.seq (.region 5 _ _) _) _ _; refine awp_seq ?_) | (show AWP _ _ (.seq (.region 6 _ _) _) _ _; refine awp_seq ?_) | (show AWP _ _ (.seq (.region 8 _ _) _) _ _; refine awp_seq ?_) | (show AWP _ _ (.seq (.region 9 _ _) _) _ _; refine awp_seq ?_) | (show AWP _ _ (.seq (.region 17 _ _) _) _ _; refine awp_seq ?_) | (show AWP _ _ (.seq (.region 18 _ _) _) _ _; refine awp_seq ?_)) | (show IW _ _ _ _ _; first | (refine awp_region ?_) | (refine awp_block ?_) | (refine awp_skip ?_) | (refine awp_if_t rfl (by first | rfl | assumption | exact beq_self_eq_true _ | exact decide_eq_true rfl) ?_) | (refine awp_if_f rfl (by first | rfl | assumption) ?_)) | (show thenQ _ _ _ _; first | (refine k_n ?_)))
      by_cases hr0 : (one x).2.size = 0
      · have hl := at_last hA h0 hr0
        have n1 := isnil_t hr0
        rw [o] at hl smo n1
        repeat' (first | (refine aops_nil ?_) | (show AOps _ _ _ _ _ _; first | (show AOps _ _ _ _ (⟨some _, .move _, _, _, _, none⟩ :: _) _; first | (refine o_y (v_move (v := .sc _) rfl) rfl ?_)) | (show AOps _ _ _ _ (⟨some _, .binOp _ _ _ _ _, _, _, _, none⟩ :: _) _; first | (refine o_y (y_binS rfl rfl rfl) rfl ?_))) | (show IW _ _ _ _ _; first | (refine awp_seq ?_) | (refine awp_region ?_) | (refine awp_exit ?_) | (refine awp_if_t rfl (by first | rfl | assumption | exact beq_self_eq_true _ | exact decide_eq_true rfl) ?_)) | (show thenQ _ _ _ _; first | (refine k_n ?_) | (refine k_x ?_)) | (show blockQ _ _ _ _; first | (refine b_hit rfl ?_) | (refine b_miss rfl ?_)))
        exact hK _ ⟨hl, smo⟩ _ ⟨[3], by decide, rfl, rfl, ⟨rfl, rfl, rfl, congrArg (fun n => AV.sl 0 0 n) (snoc_len _ _), trivial⟩, hp_is ⟨rfl, (by first | rfl | exact blk_fl rfl (prs_flat _)), trivial⟩⟩
      have n1 := isnil_f hr0
      by_cases h2 : pre SEP (one x).2 = true ∧ 2 < (one x).2.size
      · have hm := at_more hA h0 hr0 h2
        have sc := cutP_t h2.1
        have n2 : decide ((one x).2.extract SEP.size (one x).2.size = ⟨#[]⟩) = false := isnil_f (by rw [ByteArray.size_extract]; show min (one x).2.size (one x).2.size - 2 ≠ 0; omega)
        have hos := (one_size x).2.2
        have hms : ((one x).2.extract 2 (one x).2.size).size < x.size := by rw [ByteArray.size_extract]; omega
        have ih2 := ih ((one x).2.extract 2 (one x).2.size, l ++ [(one x).1]) hm hms
        rw [o] at n1 sc n2 ih2
        repeat' (first | (refine aops_nil ?_) | (show AOps _ _ _ _ _ _; first | (show AOps _ _ _ _ (⟨some _, .move _, _, _, _, none⟩ :: _) _; first | (refine o_y (v_move (v := .sc _) rfl) rfl ?_) | (refine o_y (v_move (v := .tup _) rfl) rfl ?_)) | (show AOps _ _ _ _ (⟨some _, .assign _, _, _, _, none⟩ :: _) _; first | (refine o_y (v_assign (v := .sc _) rfl) rfl ?_)) | (show AOps _ _ _ _ (⟨some _, .binOp _ _ _ _ _, _, _, _, none⟩ :: _) _; first | (refine o_y (y_binS rfl rfl rfl) rfl ?_)) | (show AOps _ _ _ _ (⟨some _, .pick _ _ _, _, _, _, none⟩ :: _) _; first | (refine o_y (v_pick_f (v := .sc _) rfl (by first | rfl | assumption) rfl) rfl ?_)) | (show AOps _ _ _ _ (⟨some _, .unOp _ _ _, _, _, _, none⟩ :: _) _; first | (refine o_y (y_not rfl) rfl ?_)) | (show AOps _ _ _ _ (⟨some _, .extract _ _, _, _, _, none⟩ :: _) _; first | (refine o_y (y_extract (v := .sc _) rfl rfl) rfl ?_)) | (show AOps _ _ _ _ (⟨_, .call ⟨.value (.func 21), _, _⟩, _, _, _, none⟩ :: _) _; refine o_x (x_callX (sc) rfl (by rintro _ rfl; rfl) ?_); rintro _ rfl) | (show AOps _ _ _ _ (⟨_, _, _, _, _, some (_, _)⟩ :: _) _; first | (refine o_g_t rfl rfl rfl (by first | rfl | assumption | exact beq_self_eq_true _ | exact decide_eq_true rfl) ?_))) | (show IW _ _ _ _ _; first | (refine awp_seq ?_) | (refine awp_region ?_) | (refine awp_skip ?_) | (refine awp_if_f rfl (by first | rfl | assumption) ?_)) | (show thenQ _ _ _ _; first | (refine k_n ?_)) | (show blockQ _ _ _ _; first | (refine k_n' ?_)))
        exact iw_at [3] ih2 (by decide) rfl rfl rfl ⟨rfl, rfl, rfl, congrArg (fun n => AV.sl 0 0 n) (snoc_len _ _), rfl, trivial⟩ ⟨rfl, (by first | rfl | exact blk_fl rfl (prs_flat _)), trivial⟩
      have hb := at_bad hA h0 hr0 h2
      rw [hb]
      rw [o] at n1 h2 hr0
      cases hpre : pre SEP (x.extract i x.size) with
      | false =>
        have sc := cutP_f hpre
        repeat' (first | (refine aops_nil ?_) | (show AOps _ _ _ _ _ _; first | (show AOps _ _ _ _ (⟨some _, .move _, _, _, _, none⟩ :: _) _; first | (refine o_y (v_move (v := .sc _) rfl) rfl ?_) | (refine o_y (v_move (v := .tup _) rfl) rfl ?_)) | (show AOps _ _ _ _ (⟨some _, .assign _, _, _, _, none⟩ :: _) _; first | (refine o_y (v_assign (v := .sc _) rfl) rfl ?_)) | (show AOps _ _ _ _ (⟨some _, .binOp _ _ _ _ _, _, _, _, none⟩ :: _) _; first | (refine o_y (y_binS rfl rfl rfl) rfl ?_)) | (show AOps _ _ _ _ (⟨some _, .pick _ _ _, _, _, _, none⟩ :: _) _; first | (refine o_y (v_pick_t (v := .sc _) rfl (by first | rfl | assumption | exact beq_self_eq_true _ | exact decide_eq_true rfl) rfl) rfl ?_)) | (show AOps _ _ _ _ (⟨some _, .unOp _ _ _, _, _, _, none⟩ :: _) _; first | (refine o_y (y_not rfl) rfl ?_)) | (show AOps _ _ _ _ (⟨some _, .extract _ _, _, _, _, none⟩ :: _) _; first | (refine o_y (y_extract (v := .sc _) rfl rfl) rfl ?_)) | (show AOps _ _ _ _ (⟨_, .call ⟨.value (.func 21), _, _⟩, _, _, _, none⟩ :: _) _; refine o_x (x_callX (sc) rfl (by rintro _ rfl; rfl) ?_); rintro _ rfl) | (show AOps _ _ _ _ (⟨_, _, _, _, _, some (_, _)⟩ :: _) _; first | (refine o_g_f rfl rfl rfl (by first | rfl | assumption) ?_))) | (show IW _ _ _ _ _; first | (refine awp_seq ?_) | (refine awp_region ?_) | (refine awp_ret ?_) | (refine awp_skip ?_) | (refine awp_if_t rfl (by first | rfl | assumption | exact beq_self_eq_true _ | exact decide_eq_true rfl) ?_) | (refine awp_if_f rfl (by first | rfl | assumption) ?_)) | (show thenQ _ _ _ _; first | (refine k_r ?_)) | (show blockQ _ _ _ _; first | (refine b_r ?_)) | (show scopeQ _ _ _ _ _ _; first | (refine s_r ?_)))
        exact ret2 [] (by decide) rfl rfl
      | true =>
        have sc := cutP_t hpre
        have n2 : decide (((x.extract i x.size)).extract SEP.size ((x.extract i x.size)).size = ⟨#[]⟩) = true := isnil_t (by rw [ByteArray.size_extract]; show min ((x.extract i x.size)).size ((x.extract i x.size)).size - 2 = 0; have : ¬ 2 < ((x.extract i x.size)).size := fun h => h2 ⟨hpre, h⟩; omega)
        repeat' (first | (refine aops_nil ?_) | (show AOps _ _ _ _ _ _; first | (show AOps _ _ _ _ (⟨some _, .move _, _, _, _, none⟩ :: _) _; first | (refine o_y (v_move (v := .sc _) rfl) rfl ?_) | (refine o_y (v_move (v := .tup _) rfl) rfl ?_)) | (show AOps _ _ _ _ (⟨some _, .assign _, _, _, _, none⟩ :: _) _; first | (refine o_y (v_assign (v := .sc _) rfl) rfl ?_)) | (show AOps _ _ _ _ (⟨some _, .binOp _ _ _ _ _, _, _, _, none⟩ :: _) _; first | (refine o_y (y_binS rfl rfl rfl) rfl ?_)) | (show AOps _ _ _ _ (⟨some _, .pick _ _ _, _, _, _, none⟩ :: _) _; first | (refine o_y (v_pick_f (v := .sc _) rfl (by first | rfl | assumption) rfl) rfl ?_)) | (show AOps _ _ _ _ (⟨some _, .unOp _ _ _, _, _, _, none⟩ :: _) _; first | (refine o_y (y_not rfl) rfl ?_)) | (show AOps _ _ _ _ (⟨some _, .extract _ _, _, _, _, none⟩ :: _) _; first | (refine o_y (y_extract (v := .sc _) rfl rfl) rfl ?_)) | (show AOps _ _ _ _ (⟨_, .call ⟨.value (.func 21), _, _⟩, _, _, _, none⟩ :: _) _; refine o_x (x_callX (sc) rfl (by rintro _ rfl; rfl) ?_); rintro _ rfl) | (show AOps _ _ _ _ (⟨_, _, _, _, _, some (_, _)⟩ :: _) _; first | (refine o_g_t rfl rfl rfl (by first | rfl | assumption | exact beq_self_eq_true _ | exact decide_eq_true rfl) ?_))) | (show IW _ _ _ _ _; first | (refine awp_seq ?_) | (refine awp_region ?_) | (refine awp_ret ?_) | (refine awp_skip ?_) | (refine awp_if_t rfl (by first | rfl | assumption | exact beq_self_eq_true _ | exact decide_eq_true rfl) ?_) | (refine awp_if_f rfl (by first | rfl | assumption) ?_)) | (show thenQ _ _ _ _; first | (refine k_r ?_)) | (show blockQ _ _ _ _; first | (refine b_r ?_)) | (show scopeQ _ _ _ _ _ _; first | (refine s_r ?_)))
        exact ret2 [] (by decide) rfl rfl
    have h61 : bt x (ix pE x : Nat) = 61 := by
      have := pE_iff.1 hat
      omega
    have k61 : (bt x (ix pE x : Nat) == 61) = true := by rw [h61]; rfl
    have o : one x = oneE (x.extract 0 (ix pE x)) (x.extract (ix pE x + 1) x.size) := by unfold one; rw [if_neg hA0, if_neg hc]
    generalize ix pE x = i at o hlt sI h61 k61 hle
    have htz : (x.extract (i + 1) x.size).size = x.size - (i + 1) := by rw [ByteArray.size_extract]; omega
    obtain ⟨t, ht⟩ : ∃ t, x.extract (i + 1) x.size = t := ⟨_, rfl⟩
    rw [ht] at o htz
    repeat' (first | (refine aops_nil ?_) | (show AOps _ _ _ _ _ _; first | (show AOps _ _ _ _ (⟨some _, .move _, _, _, _, none⟩ :: _) _; first | (refine o_y (v_move (v := .sc _) rfl) rfl ?_)) | (show AOps _ _ _ _ (⟨some _, .fieldAddr _ _ _, _, _, _, none⟩ :: _) _; first | (refine o_y (y_fld_ptr rfl rfl) rfl ?_)) | (show AOps _ _ _ _ (⟨some _, .assign _, _, _, _, none⟩ :: _) _; first | (refine o_y (v_assign (v := .sc _) rfl) rfl ?_)) | (show AOps _ _ _ _ (⟨some _, .binOp .add _ _ _ _, _, _, _, none⟩ :: _) _; first | (refine o_y (z_add rfl rfl (by omega) (by omega)) rfl ?_) | (refine o_y (y_bin rfl rfl rfl) rfl ?_)) | (show AOps _ _ _ _ (⟨some _, .binOp _ _ _ _ _, _, _, _, none⟩ :: _) _; first | (refine o_y (y_bin rfl rfl rfl) rfl ?_) | (refine o_y (y_binS rfl rfl rfl) rfl ?_)) | (show AOps _ _ _ _ (⟨some _, .index _ _ _, _, _, _, none⟩ :: _) _; first | (refine o_y (y_indexS rfl rfl (by omega) (by omega)) rfl ?_)) | (show AOps _ _ _ _ (⟨some _, .slice _ _ _ _ _, _, _, _, none⟩ :: _) _; first | (refine o_y (y_sliceS_l rfl rfl (by omega) (by omega)) rfl ?_) | (refine o_y (y_sliceS_h rfl rfl (by omega) (by omega)) rfl ?_)) | (show AOps _ _ _ _ (⟨some _, .call ⟨.value (.func 20), _, _⟩, _, _, _, none⟩ :: _) _; first | (refine o_q (q_call (sI)) rfl ?_)) | (show AOps _ _ _ _ (⟨_, .store _ _ _, _, _, _, none⟩ :: _) _; first | (refine o_x (s_storeN (v := .sc _) rfl rfl rfl rfl rfl (by first | (simp only [List.set_cons_zero, List.set_cons_succ]; rfl) | rfl) ?_))) | (show AOps _ _ _ _ (⟨_, .alloc _, _, _, _, none⟩ :: _) _; first | (refine o_x (a_new (by first | (simp only [AV.ofV, AV.cells, List.map_cons, List.map_nil]; rfl) | rfl) rfl rfl rfl ?_)))) | (show IW _ _ [.code (.seq _ _)] _ _; first | (show AWP _ _ (.seq (.seq _ _) _) _ _; refine awp_seq ?_) | (show AWP _ _ (.seq (.region 3 _ _) _) _ _; refine awp_seq ?_) | (show AWP _ _ (.seq (.region 4 _ _) _) _ _; refine awp_seq ?_) | (show AWP _ _ (.seq (.region 5 _ _) _) _ _; refine awp_seq ?_) | (show AWP _ _ (.seq (.region 6 _ _) _) _ _; refine awp_seq ?_) | (show AWP _ _ (.seq (.region 8 _ _) _) _ _; refine awp_seq ?_) | (show AWP _ _ (.seq (.region 9 _ _) _) _ _; refine awp_seq ?_) | (show AWP _ _ (.seq (.region 10 _ _) _) _ _; refine awp_seq ?_)) | (show IW _ _ _ _ _; first | (refine awp_region ?_) | (refine awp_block ?_) | (refine awp_skip ?_) | (refine awp_if_t rfl (by first | rfl | assumption | exact beq_self_eq_true _ | exact decide_eq_true rfl) ?_) | (refine awp_if_f rfl (by first | rfl | assumption) ?_)) | (show thenQ _ _ _ _; first | (refine k_n ?_)))
    rw [show x.extract ((i : Int) + 1).toNat x.size = t from ht]
    unfold oneE at o
    cases hq : pre QU t with
    | true =>
      have sq := cutP_t hq
      rw [if_pos hq] at o
      have hqz : (t.extract 1 t.size).size = t.size - 1 := by rw [ByteArray.size_extract]; omega
      have s22 := cutS_spec (t.extract 1 t.size) (by omega)
      generalize cutq (t.extract 1 t.size) = q at o s22
      obtain ⟨q1, q2, q3⟩ := q
      dsimp only at o s22
      repeat' (first | (refine aops_nil ?_) | (show AOps _ _ _ _ _ _; first | (show AOps _ _ _ _ (⟨some _, .move _, _, _, _, none⟩ :: _) _; first | (refine o_y (v_move (v := .sc _) rfl) rfl ?_) | (refine o_y (v_move (v := .sl _ _ _) rfl) rfl ?_) | (refine o_y (v_move (v := .tup _) rfl) rfl ?_)) | (show AOps _ _ _ _ (⟨some _, .load _ _, _, _, _, none⟩ :: _) _; first | (refine o_y (y_loadW rfl rfl rfl) rfl ?_)) | (show AOps _ _ _ _ (⟨some _, .fieldAddr _ _ _, _, _, _, none⟩ :: _) _; first | (refine o_y (y_fld_ptr rfl rfl) rfl ?_)) | (show AOps _ _ _ _ (⟨some _, .assign _, _, _, _, none⟩ :: _) _; first | (refine o_y (v_assign (v := .sc _) rfl) rfl ?_) | (refine o_y (v_assign (v := .sl _ _ _) rfl) rfl ?_)) | (show AOps _ _ _ _ (⟨some _, .slice _ _ _ _ _, _, _, _, none⟩ :: _) _; first | (refine o_y (y_sliceS_l rfl rfl (by omega) (by omega)) rfl ?_)) | (show AOps _ _ _ _ (⟨some _, .extract _ _, _, _, _, none⟩ :: _) _; first | (refine o_y (y_extract (v := .sc _) rfl rfl) rfl ?_)) | (show AOps _ _ _ _ (⟨_, .call ⟨.value (.func 21), _, _⟩, _, _, _, none⟩ :: _) _; refine o_x (x_callX (sq) rfl (by rintro _ rfl; rfl) ?_); rintro _ rfl) | (show AOps _ _ _ _ (⟨_, .call ⟨.value (.func 22), _, _⟩, _, _, _, none⟩ :: _) _; refine o_x (x_callX (s22) rfl (by rintro _ rfl; rfl) ?_); rintro _ rfl) | (show AOps _ _ _ _ (⟨_, .store _ _ _, _, _, _, none⟩ :: _) _; first | (refine o_x (s_storeN (v := .sc _) rfl rfl rfl rfl rfl (by first | (simp only [List.set_cons_zero, List.set_cons_succ]; rfl) | rfl) ?_))) | (show AOps _ _ _ _ (⟨_, .buildSlice _ _ _, _, _, _, none⟩ :: _) _; first | (refine o_x (x_buildSlice (cs := [.sc _, .sc _]) (by rfl) (by rfl) (by rfl) (by rfl) (by rfl) (by rfl) rfl ?_)) | (refine o_x (x_buildSlice (cs := [.sc _, .sc _]) (by rfl) (by rfl) (by rfl) (by rfl) (by rfl) (by rfl) rfl ?_))) | (show AOps _ _ _ _ (⟨_, .call ⟨.builtin .append, _, _⟩, _, _, _, none⟩ :: _) _; first | (refine o_x (x_append (X := .sl _ _ _) rfl rfl rfl (by first | rfl | assumption | exact prs_length _ | exact strs_len1 _ | exact byts_len1 _ | exact nums_len1 _ | (simp only [byts_length, strs_length, ints_length, prs_length, List.length_append, List.length_cons, List.length_nil]; omega)) (src_sl rfl (by first | exact Nat.le_of_ble_eq_true rfl | (simp only [strs_length, byts_length]; omega)) (by first | exact take_strs _ | exact take_byts _ | rfl | exact take_bytsE _ _ (by simp only [byts_length, ints_length, List.length_append, List.length_cons, List.length_nil]; omega) | exact take_strsE _ _ (by simp only [strs_length, List.length_append, List.length_cons, List.length_nil]; omega) | (simp; done)) (by first | rfl | exact strs_one _ | exact byts_one _ | exact prs_one _)) rfl rfl (by omega) (by omega) (by first | exact prs_snoc _ _ _ | exact strs_snoc _ _ | exact byts_snoc _ _ | exact nums_snoc _ _ | exact strs_append _ _ | exact byts_append _ _ | exact byts_snoc [] _ | exact strs_snoc [] _ | exact byts_append [] _ | exact strs_append [] _ | exact byts_append _ [_, _] | rfl) (by first | exact Nat.zero_add _ | rfl) ?_)))) | (show IW _ _ [.code (.seq _ _)] _ _; first | (show AWP _ _ (.seq (.seq _ _) _) _ _; refine awp_seq ?_) | (show AWP _ _ (.seq (.region 11 _ _) _) _ _; refine awp_seq ?_) | (show AWP _ _ (.seq (.region 12 _ _) _) _ _; refine awp_seq ?_) | (show AWP _ _ (.seq (.region 13 _ _) _) _ _; refine awp_seq ?_) | (show AWP _ _ (.seq (.region 17 _ _) _) _ _; refine awp_seq ?_) | (show AWP _ _ (.seq (.region 18 _ _) _) _ _; refine awp_seq ?_)) | (show IW _ _ _ _ _; first | (refine awp_region ?_) | (refine awp_if_t rfl (by first | rfl | assumption | exact beq_self_eq_true _ | exact decide_eq_true rfl) ?_)) | (show thenQ _ _ _ _; first | (refine k_n ?_)))
      rw [show q2.extract (Int.toNat 0) q2.size = q2 from ext0 q2]
      by_cases hr0 : (one x).2.size = 0
      · have hl := at_last hA h0 hr0
        have n1 := isnil_t hr0
        rw [o] at hl smo n1
        repeat' (first | (refine aops_nil ?_) | (show AOps _ _ _ _ _ _; first | (show AOps _ _ _ _ (⟨some _, .move _, _, _, _, none⟩ :: _) _; first | (refine o_y (v_move (v := .sc _) rfl) rfl ?_)) | (show AOps _ _ _ _ (⟨some _, .binOp _ _ _ _ _, _, _, _, none⟩ :: _) _; first | (refine o_y (y_binS rfl rfl rfl) rfl ?_))) | (show IW _ _ _ _ _; first | (refine awp_seq ?_) | (refine awp_region ?_) | (refine awp_exit ?_) | (refine awp_if_t rfl (by first | rfl | assumption | exact beq_self_eq_true _ | exact decide_eq_true rfl) ?_)) | (show thenQ _ _ _ _; first | (refine k_n ?_) | (refine k_x ?_)) | (show blockQ _ _ _ _; first | (refine b_hit rfl ?_) | (refine b_miss rfl ?_)))
        exact hK _ ⟨hl, smo⟩ _ ⟨[3], by decide, rfl, rfl, ⟨rfl, rfl, rfl, congrArg (fun n => AV.sl 0 0 n) (snoc_len _ _), trivial⟩, hp_is ⟨rfl, (by first | rfl | exact blk_fl rfl (prs_flat _)), trivial⟩⟩
      have n1 := isnil_f hr0
      by_cases h2 : pre SEP (one x).2 = true ∧ 2 < (one x).2.size
      · have hm := at_more hA h0 hr0 h2
        have sc := cutP_t h2.1
        have n2 : decide ((one x).2.extract SEP.size (one x).2.size = ⟨#[]⟩) = false := isnil_f (by rw [ByteArray.size_extract]; show min (one x).2.size (one x).2.size - 2 ≠ 0; omega)
        have hos := (one_size x).2.2
        have hms : ((one x).2.extract 2 (one x).2.size).size < x.size := by rw [ByteArray.size_extract]; omega
        have ih2 := ih ((one x).2.extract 2 (one x).2.size, l ++ [(one x).1]) hm hms
        rw [o] at n1 sc n2 ih2
        repeat' (first | (refine aops_nil ?_) | (show AOps _ _ _ _ _ _; first | (show AOps _ _ _ _ (⟨some _, .move _, _, _, _, none⟩ :: _) _; first | (refine o_y (v_move (v := .sc _) rfl) rfl ?_) | (refine o_y (v_move (v := .tup _) rfl) rfl ?_)) | (show AOps _ _ _ _ (⟨some _, .assign _, _, _, _, none⟩ :: _) _; first | (refine o_y (v_assign (v := .sc _) rfl) rfl ?_)) | (show AOps _ _ _ _ (⟨some _, .binOp _ _ _ _ _, _, _, _, none⟩ :: _) _; first | (refine o_y (y_binS rfl rfl rfl) rfl ?_)) | (show AOps _ _ _ _ (⟨some _, .pick _ _ _, _, _, _, none⟩ :: _) _; first | (refine o_y (v_pick_f (v := .sc _) rfl (by first | rfl | assumption) rfl) rfl ?_)) | (show AOps _ _ _ _ (⟨some _, .unOp _ _ _, _, _, _, none⟩ :: _) _; first | (refine o_y (y_not rfl) rfl ?_)) | (show AOps _ _ _ _ (⟨some _, .extract _ _, _, _, _, none⟩ :: _) _; first | (refine o_y (y_extract (v := .sc _) rfl rfl) rfl ?_)) | (show AOps _ _ _ _ (⟨_, .call ⟨.value (.func 21), _, _⟩, _, _, _, none⟩ :: _) _; refine o_x (x_callX (sc) rfl (by rintro _ rfl; rfl) ?_); rintro _ rfl) | (show AOps _ _ _ _ (⟨_, _, _, _, _, some (_, _)⟩ :: _) _; first | (refine o_g_t rfl rfl rfl (by first | rfl | assumption | exact beq_self_eq_true _ | exact decide_eq_true rfl) ?_))) | (show IW _ _ _ _ _; first | (refine awp_seq ?_) | (refine awp_region ?_) | (refine awp_skip ?_) | (refine awp_if_f rfl (by first | rfl | assumption) ?_)) | (show thenQ _ _ _ _; first | (refine k_n ?_)) | (show blockQ _ _ _ _; first | (refine k_n' ?_)))
        exact iw_at [3] ih2 (by decide) rfl rfl rfl ⟨rfl, rfl, rfl, congrArg (fun n => AV.sl 0 0 n) (snoc_len _ _), rfl, trivial⟩ ⟨rfl, (by first | rfl | exact blk_fl rfl (prs_flat _)), trivial⟩
      have hb := at_bad hA h0 hr0 h2
      rw [hb]
      rw [o] at n1 h2 hr0
      cases hpre : pre SEP q2 with
      | false =>
        have sc := cutP_f hpre
        repeat' (first | (refine aops_nil ?_) | (show AOps _ _ _ _ _ _; first | (show AOps _ _ _ _ (⟨some _, .move _, _, _, _, none⟩ :: _) _; first | (refine o_y (v_move (v := .sc _) rfl) rfl ?_) | (refine o_y (v_move (v := .tup _) rfl) rfl ?_)) | (show AOps _ _ _ _ (⟨some _, .assign _, _, _, _, none⟩ :: _) _; first | (refine o_y (v_assign (v := .sc _) rfl) rfl ?_)) | (show AOps _ _ _ _ (⟨some _, .binOp _ _ _ _ _, _, _, _, none⟩ :: _) _; first | (refine o_y (y_binS rfl rfl rfl) rfl ?_)) | (show AOps _ _ _ _ (⟨some _, .pick _ _ _, _, _, _, none⟩ :: _) _; first | (refine o_y (v_pick_t (v := .sc _) rfl (by first | rfl | assumption | exact beq_self_eq_true _ | exact decide_eq_true rfl) rfl) rfl ?_)) | (show AOps _ _ _ _ (⟨some _, .unOp _ _ _, _, _, _, none⟩ :: _) _; first | (refine o_y (y_not rfl) rfl ?_)) | (show AOps _ _ _ _ (⟨some _, .extract _ _, _, _, _, none⟩ :: _) _; first | (refine o_y (y_extract (v := .sc _) rfl rfl) rfl ?_)) | (show AOps _ _ _ _ (⟨_, .call ⟨.value (.func 21), _, _⟩, _, _, _, none⟩ :: _) _; refine o_x (x_callX (sc) rfl (by rintro _ rfl; rfl) ?_); rintro _ rfl) | (show AOps _ _ _ _ (⟨_, _, _, _, _, some (_, _)⟩ :: _) _; first | (refine o_g_f rfl rfl rfl (by first | rfl | assumption) ?_))) | (show IW _ _ _ _ _; first | (refine awp_seq ?_) | (refine awp_region ?_) | (refine awp_ret ?_) | (refine awp_skip ?_) | (refine awp_if_t rfl (by first | rfl | assumption | exact beq_self_eq_true _ | exact decide_eq_true rfl) ?_) | (refine awp_if_f rfl (by first | rfl | assumption) ?_)) | (show thenQ _ _ _ _; first | (refine k_r ?_)) | (show blockQ _ _ _ _; first | (refine b_r ?_)) | (show scopeQ _ _ _ _ _ _; first | (refine s_r ?_)))
        exact ret2 [] (by decide) rfl rfl
      | true =>
        have sc := cutP_t hpre
        have n2 : decide ((q2).extract SEP.size (q2).size = ⟨#[]⟩) = true := isnil_t (by rw [ByteArray.size_extract]; show min (q2).size (q2).size - 2 = 0; have : ¬ 2 < (q2).size := fun h => h2 ⟨hpre, h⟩; omega)
        repeat' (first | (refine aops_nil ?_) | (show AOps _ _ _ _ _ _; first | (show AOps _ _ _ _ (⟨some _, .move _, _, _, _, none⟩ :: _) _; first | (refine o_y (v_move (v := .sc _) rfl) rfl ?_) | (refine o_y (v_move (v := .tup _) rfl) rfl ?_)) | (show AOps _ _ _ _ (⟨some _, .assign _, _, _, _, none⟩ :: _) _; first | (refine o_y (v_assign (v := .sc _) rfl) rfl ?_)) | (show AOps _ _ _ _ (⟨some _, .binOp _ _ _ _ _, _, _, _, none⟩ :: _) _; first | (refine o_y (y_binS rfl rfl rfl) rfl ?_)) | (show AOps _ _ _ _ (⟨some _, .pick _ _ _, _, _, _, none⟩ :: _) _; first | (refine o_y (v_pick_f (v := .sc _) rfl (by first | rfl | assumption) rfl) rfl ?_)) | (show AOps _ _ _ _ (⟨some _, .unOp _ _ _, _, _, _, none⟩ :: _) _; first | (refine o_y (y_not rfl) rfl ?_)) | (show AOps _ _ _ _ (⟨some _, .extract _ _, _, _, _, none⟩ :: _) _; first | (refine o_y (y_extract (v := .sc _) rfl rfl) rfl ?_)) | (show AOps _ _ _ _ (⟨_, .call ⟨.value (.func 21), _, _⟩, _, _, _, none⟩ :: _) _; refine o_x (x_callX (sc) rfl (by rintro _ rfl; rfl) ?_); rintro _ rfl) | (show AOps _ _ _ _ (⟨_, _, _, _, _, some (_, _)⟩ :: _) _; first | (refine o_g_t rfl rfl rfl (by first | rfl | assumption | exact beq_self_eq_true _ | exact decide_eq_true rfl) ?_))) | (show IW _ _ _ _ _; first | (refine awp_seq ?_) | (refine awp_region ?_) | (refine awp_ret ?_) | (refine awp_skip ?_) | (refine awp_if_t rfl (by first | rfl | assumption | exact beq_self_eq_true _ | exact decide_eq_true rfl) ?_) | (refine awp_if_f rfl (by first | rfl | assumption) ?_)) | (show thenQ _ _ _ _; first | (refine k_r ?_)) | (show blockQ _ _ _ _; first | (refine b_r ?_)) | (show scopeQ _ _ _ _ _ _; first | (refine s_r ?_)))
        exact ret2 [] (by decide) rfl rfl
    | false =>
      have sq := cutP_f hq
      rw [if_neg (by rw [hq]; decide)] at o
      have s23 := idxS_spec (t ++ ⟨#[44]⟩) 44 (by decide)
      rw [ix_comma] at s23
      have kle := ix_le (pB 44) t
      have z1 : (⟨#[44]⟩ : ByteArray).size = 1 := rfl
      generalize ix (pB 44) t = k at o s23 kle
      repeat' (first | (refine aops_nil ?_) | (show AOps _ _ _ _ _ _; first | (show AOps _ _ _ _ (⟨some _, .call ⟨.builtin .max, _, _⟩, _, _, _, none⟩ :: _) _; first | (refine o_y (y_maxK rfl rfl) rfl ?_)) | (show AOps _ _ _ _ (⟨some _, .move _, _, _, _, none⟩ :: _) _; first | (refine o_y (v_move (v := .sc _) rfl) rfl ?_) | (refine o_y (v_move (v := .sl _ _ _) rfl) rfl ?_) | (refine o_y (v_move (v := .tup _) rfl) rfl ?_)) | (show AOps _ _ _ _ (⟨some _, .load _ _, _, _, _, none⟩ :: _) _; first | (refine o_y (y_loadW rfl rfl rfl) rfl ?_)) | (show AOps _ _ _ _ (⟨some _, .fieldAddr _ _ _, _, _, _, none⟩ :: _) _; first | (refine o_y (y_fld_ptr rfl rfl) rfl ?_)) | (show AOps _ _ _ _ (⟨some _, .assign _, _, _, _, none⟩ :: _) _; first | (refine o_y (v_assign (v := .sc _) rfl) rfl ?_) | (refine o_y (v_assign (v := .sl _ _ _) rfl) rfl ?_)) | (show AOps _ _ _ _ (⟨some _, .binOp .add _ _ _ _, _, _, _, none⟩ :: _) _; first | (refine o_y (y_cat rfl rfl (by omega)) rfl ?_)) | (show AOps _ _ _ _ (⟨some _, .slice _ _ _ _ _, _, _, _, none⟩ :: _) _; first | (refine o_y (y_sliceS_l rfl rfl (by omega) (by omega)) rfl ?_) | (refine o_y (y_sliceS_h rfl rfl (by omega) (by omega)) rfl ?_)) | (show AOps _ _ _ _ (⟨some _, .extract _ _, _, _, _, none⟩ :: _) _; first | (refine o_y (y_extract (v := .sc _) rfl rfl) rfl ?_)) | (show AOps _ _ _ _ (⟨some _, .call ⟨.value (.func 23), _, _⟩, _, _, _, none⟩ :: _) _; first | (refine o_q (q_call (s23)) rfl ?_)) | (show AOps _ _ _ _ (⟨_, .call ⟨.value (.func 21), _, _⟩, _, _, _, none⟩ :: _) _; refine o_x (x_callX (sq) rfl (by rintro _ rfl; rfl) ?_); rintro _ rfl) | (show AOps _ _ _ _ (⟨_, .store _ _ _, _, _, _, none⟩ :: _) _; first | (refine o_x (s_storeN (v := .sc _) rfl rfl rfl rfl rfl (by first | (simp only [List.set_cons_zero, List.set_cons_succ]; rfl) | rfl) ?_))) | (show AOps _ _ _ _ (⟨_, .buildSlice _ _ _, _, _, _, none⟩ :: _) _; first | (refine o_x (x_buildSlice (cs := [.sc _, .sc _]) (by rfl) (by rfl) (by rfl) (by rfl) (by rfl) (by rfl) rfl ?_)) | (refine o_x (x_buildSlice (cs := [.sc _, .sc _]) (by rfl) (by rfl) (by rfl) (by rfl) (by rfl) (by rfl) rfl ?_))) | (show AOps _ _ _ _ (⟨_, .call ⟨.builtin .append, _, _⟩, _, _, _, none⟩ :: _) _; first | (refine o_x (x_append (X := .sl _ _ _) rfl rfl rfl (by first | rfl | assumption | exact prs_length _ | exact strs_len1 _ | exact byts_len1 _ | exact nums_len1 _ | (simp only [byts_length, strs_length, ints_length, prs_length, List.length_append, List.length_cons, List.length_nil]; omega)) (src_sl rfl (by first | exact Nat.le_of_ble_eq_true rfl | (simp only [strs_length, byts_length]; omega)) (by first | exact take_strs _ | exact take_byts _ | rfl | exact take_bytsE _ _ (by simp only [byts_length, ints_length, List.length_append, List.length_cons, List.length_nil]; omega) | exact take_strsE _ _ (by simp only [strs_length, List.length_append, List.length_cons, List.length_nil]; omega) | (simp; done)) (by first | rfl | exact strs_one _ | exact byts_one _ | exact prs_one _)) rfl rfl (by omega) (by omega) (by first | exact prs_snoc _ _ _ | exact strs_snoc _ _ | exact byts_snoc _ _ | exact nums_snoc _ _ | exact strs_append _ _ | exact byts_append _ _ | exact byts_snoc [] _ | exact strs_snoc [] _ | exact byts_append [] _ | exact strs_append [] _ | exact byts_append _ [_, _] | rfl) (by first | exact Nat.zero_add _ | rfl) ?_)))) | (show IW _ _ [.code (.seq _ _)] _ _; first | (show AWP _ _ (.seq (.seq _ _) _) _ _; refine awp_seq ?_) | (show AWP _ _ (.seq (.region 11 _ _) _) _ _; refine awp_seq ?_) | (show AWP _ _ (.seq (.region 12 _ _) _) _ _; refine awp_seq ?_) | (show AWP _ _ (.seq (.region 13 _ _) _) _ _; refine awp_seq ?_) | (show AWP _ _ (.seq (.region 15 _ _) _) _ _; refine awp_seq ?_) | (show AWP _ _ (.seq (.region 17 _ _) _) _ _; refine awp_seq ?_) | (show AWP _ _ (.seq (.region 18 _ _) _) _ _; refine awp_seq ?_)) | (show IW _ _ _ _ _; first | (refine awp_region ?_) | (refine awp_if_f rfl (by first | rfl | assumption) ?_)) | (show thenQ _ _ _ _; first | (refine k_n ?_)))
      by_cases hr0 : (one x).2.size = 0
      · have hl := at_last hA h0 hr0
        have n1 := isnil_t hr0
        rw [o] at hl smo n1
        repeat' (first | (refine aops_nil ?_) | (show AOps _ _ _ _ _ _; first | (show AOps _ _ _ _ (⟨some _, .move _, _, _, _, none⟩ :: _) _; first | (refine o_y (v_move (v := .sc _) rfl) rfl ?_)) | (show AOps _ _ _ _ (⟨some _, .binOp _ _ _ _ _, _, _, _, none⟩ :: _) _; first | (refine o_y (y_binS rfl rfl rfl) rfl ?_))) | (show IW _ _ _ _ _; first | (refine awp_seq ?_) | (refine awp_region ?_) | (refine awp_exit ?_) | (refine awp_if_t rfl (by first | rfl | assumption | exact beq_self_eq_true _ | exact decide_eq_true rfl) ?_)) | (show thenQ _ _ _ _; first | (refine k_n ?_) | (refine k_x ?_)) | (show blockQ _ _ _ _; first | (refine b_hit rfl ?_) | (refine b_miss rfl ?_)))
        exact hK _ ⟨hl, smo⟩ _ ⟨[3], by decide, rfl, rfl, ⟨rfl, rfl, rfl, congrArg (fun n => AV.sl 0 0 n) (snoc_len _ _), trivial⟩, hp_is ⟨rfl, (by first | rfl | exact blk_fl rfl (prs_flat _)), trivial⟩⟩
      have n1 := isnil_f hr0
      by_cases h2 : pre SEP (one x).2 = true ∧ 2 < (one x).2.size
      · have hm := at_more hA h0 hr0 h2
        have sc := cutP_t h2.1
        have n2 : decide ((one x).2.extract SEP.size (one x).2.size = ⟨#[]⟩) = false := isnil_f (by rw [ByteArray.size_extract]; show min (one x).2.size (one x).2.size - 2 ≠ 0; omega)
        have hos := (one_size x).2.2
        have hms : ((one x).2.extract 2 (one x).2.size).size < x.size := by rw [ByteArray.size_extract]; omega
        have ih2 := ih ((one x).2.extract 2 (one x).2.size, l ++ [(one x).1]) hm hms
        rw [o] at n1 sc n2 ih2
        repeat' (first | (refine aops_nil ?_) | (show AOps _ _ _ _ _ _; first | (show AOps _ _ _ _ (⟨some _, .move _, _, _, _, none⟩ :: _) _; first | (refine o_y (v_move (v := .sc _) rfl) rfl ?_) | (refine o_y (v_move (v := .tup _) rfl) rfl ?_)) | (show AOps _ _ _ _ (⟨some _, .assign _, _, _, _, none⟩ :: _) _; first | (refine o_y (v_assign (v := .sc _) rfl) rfl ?_)) | (show AOps _ _ _ _ (⟨some _, .binOp _ _ _ _ _, _, _, _, none⟩ :: _) _; first | (refine o_y (y_binS rfl rfl rfl) rfl ?_)) | (show AOps _ _ _ _ (⟨some _, .pick _ _ _, _, _, _, none⟩ :: _) _; first | (refine o_y (v_pick_f (v := .sc _) rfl (by first | rfl | assumption) rfl) rfl ?_)) | (show AOps _ _ _ _ (⟨some _, .unOp _ _ _, _, _, _, none⟩ :: _) _; first | (refine o_y (y_not rfl) rfl ?_)) | (show AOps _ _ _ _ (⟨some _, .extract _ _, _, _, _, none⟩ :: _) _; first | (refine o_y (y_extract (v := .sc _) rfl rfl) rfl ?_)) | (show AOps _ _ _ _ (⟨_, .call ⟨.value (.func 21), _, _⟩, _, _, _, none⟩ :: _) _; refine o_x (x_callX (sc) rfl (by rintro _ rfl; rfl) ?_); rintro _ rfl) | (show AOps _ _ _ _ (⟨_, _, _, _, _, some (_, _)⟩ :: _) _; first | (refine o_g_t rfl rfl rfl (by first | rfl | assumption | exact beq_self_eq_true _ | exact decide_eq_true rfl) ?_))) | (show IW _ _ _ _ _; first | (refine awp_seq ?_) | (refine awp_region ?_) | (refine awp_skip ?_) | (refine awp_if_f rfl (by first | rfl | assumption) ?_)) | (show thenQ _ _ _ _; first | (refine k_n ?_)) | (show blockQ _ _ _ _; first | (refine k_n' ?_)))
        exact iw_at [3] ih2 (by decide) rfl rfl rfl ⟨rfl, rfl, rfl, congrArg (fun n => AV.sl 0 0 n) (snoc_len _ _), rfl, trivial⟩ ⟨rfl, (by first | rfl | exact blk_fl rfl (prs_flat _)), trivial⟩
      have hb := at_bad hA h0 hr0 h2
      rw [hb]
      rw [o] at n1 h2 hr0
      cases hpre : pre SEP (t.extract k t.size) with
      | false =>
        have sc := cutP_f hpre
        repeat' (first | (refine aops_nil ?_) | (show AOps _ _ _ _ _ _; first | (show AOps _ _ _ _ (⟨some _, .move _, _, _, _, none⟩ :: _) _; first | (refine o_y (v_move (v := .sc _) rfl) rfl ?_) | (refine o_y (v_move (v := .tup _) rfl) rfl ?_)) | (show AOps _ _ _ _ (⟨some _, .assign _, _, _, _, none⟩ :: _) _; first | (refine o_y (v_assign (v := .sc _) rfl) rfl ?_)) | (show AOps _ _ _ _ (⟨some _, .binOp _ _ _ _ _, _, _, _, none⟩ :: _) _; first | (refine o_y (y_binS rfl rfl rfl) rfl ?_)) | (show AOps _ _ _ _ (⟨some _, .pick _ _ _, _, _, _, none⟩ :: _) _; first | (refine o_y (v_pick_t (v := .sc _) rfl (by first | rfl | assumption | exact beq_self_eq_true _ | exact decide_eq_true rfl) rfl) rfl ?_)) | (show AOps _ _ _ _ (⟨some _, .unOp _ _ _, _, _, _, none⟩ :: _) _; first | (refine o_y (y_not rfl) rfl ?_)) | (show AOps _ _ _ _ (⟨some _, .extract _ _, _, _, _, none⟩ :: _) _; first | (refine o_y (y_extract (v := .sc _) rfl rfl) rfl ?_)) | (show AOps _ _ _ _ (⟨_, .call ⟨.value (.func 21), _, _⟩, _, _, _, none⟩ :: _) _; refine o_x (x_callX (sc) rfl (by rintro _ rfl; rfl) ?_); rintro _ rfl) | (show AOps _ _ _ _ (⟨_, _, _, _, _, some (_, _)⟩ :: _) _; first | (refine o_g_f rfl rfl rfl (by first | rfl | assumption) ?_))) | (show IW _ _ _ _ _; first | (refine awp_seq ?_) | (refine awp_region ?_) | (refine awp_ret ?_) | (refine awp_skip ?_) | (refine awp_if_t rfl (by first | rfl | assumption | exact beq_self_eq_true _ | exact decide_eq_true rfl) ?_) | (refine awp_if_f rfl (by first | rfl | assumption) ?_)) | (show thenQ _ _ _ _; first | (refine k_r ?_)) | (show blockQ _ _ _ _; first | (refine b_r ?_)) | (show scopeQ _ _ _ _ _ _; first | (refine s_r ?_)))
        exact ret2 [] (by decide) rfl rfl
      | true =>
        have sc := cutP_t hpre
        have n2 : decide (((t.extract k t.size)).extract SEP.size ((t.extract k t.size)).size = ⟨#[]⟩) = true := isnil_t (by rw [ByteArray.size_extract]; show min ((t.extract k t.size)).size ((t.extract k t.size)).size - 2 = 0; have : ¬ 2 < ((t.extract k t.size)).size := fun h => h2 ⟨hpre, h⟩; omega)
        repeat' (first | (refine aops_nil ?_) | (show AOps _ _ _ _ _ _; first | (show AOps _ _ _ _ (⟨some _, .move _, _, _, _, none⟩ :: _) _; first | (refine o_y (v_move (v := .sc _) rfl) rfl ?_) | (refine o_y (v_move (v := .tup _) rfl) rfl ?_)) | (show AOps _ _ _ _ (⟨some _, .assign _, _, _, _, none⟩ :: _) _; first | (refine o_y (v_assign (v := .sc _) rfl) rfl ?_)) | (show AOps _ _ _ _ (⟨some _, .binOp _ _ _ _ _, _, _, _, none⟩ :: _) _; first | (refine o_y (y_binS rfl rfl rfl) rfl ?_)) | (show AOps _ _ _ _ (⟨some _, .pick _ _ _, _, _, _, none⟩ :: _) _; first | (refine o_y (v_pick_f (v := .sc _) rfl (by first | rfl | assumption) rfl) rfl ?_)) | (show AOps _ _ _ _ (⟨some _, .unOp _ _ _, _, _, _, none⟩ :: _) _; first | (refine o_y (y_not rfl) rfl ?_)) | (show AOps _ _ _ _ (⟨some _, .extract _ _, _, _, _, none⟩ :: _) _; first | (refine o_y (y_extract (v := .sc _) rfl rfl) rfl ?_)) | (show AOps _ _ _ _ (⟨_, .call ⟨.value (.func 21), _, _⟩, _, _, _, none⟩ :: _) _; refine o_x (x_callX (sc) rfl (by rintro _ rfl; rfl) ?_); rintro _ rfl) | (show AOps _ _ _ _ (⟨_, _, _, _, _, some (_, _)⟩ :: _) _; first | (refine o_g_t rfl rfl rfl (by first | rfl | assumption | exact beq_self_eq_true _ | exact decide_eq_true rfl) ?_))) | (show IW _ _ _ _ _; first | (refine awp_seq ?_) | (refine awp_region ?_) | (refine awp_ret ?_) | (refine awp_skip ?_) | (refine awp_if_t rfl (by first | rfl | assumption | exact beq_self_eq_true _ | exact decide_eq_true rfl) ?_) | (refine awp_if_f rfl (by first | rfl | assumption) ?_)) | (show thenQ _ _ _ _; first | (refine k_r ?_)) | (show blockQ _ _ _ _; first | (refine b_r ?_)) | (show scopeQ _ _ _ _ _ _; first | (refine s_r ?_)))
        exact ret2 [] (by decide) rfl rfl
  · rintro l ⟨hl, sm⟩
    have pl := prs_length l
    show IW _ _ [.code _] _ _
    refine iw_frzS 4 0 rfl rfl (prs_flat _) (by rw [pl]; omega) ?_
    have sl := list_spec l sm
    cases hv : listV l with
    | none =>
      rw [hv] at sl
      rw [readV_no hl (by rw [hv]; intro h; cases h)]
      repeat' (first | (refine aops_nil ?_) | (show AOps _ _ _ _ _ _; first | (show AOps _ _ _ _ (⟨some _, .move _, _, _, _, none⟩ :: _) _; first | (refine o_y (v_move (v := .sc _) rfl) rfl ?_) | (refine o_y (v_move (v := .vsl _ _ _ _) rfl) rfl ?_) | (refine o_y (v_move (v := .tup _) rfl) rfl ?_)) | (show AOps _ _ _ _ (⟨some _, .assign _, _, _, _, none⟩ :: _) _; first | (refine o_y (v_assign (v := .sc _) rfl) rfl ?_)) | (show AOps _ _ _ _ (⟨some _, .binOp .add _ _ _ _, _, _, _, none⟩ :: _) _; first | (refine o_y (y_bin rfl rfl rfl) rfl ?_)) | (show AOps _ _ _ _ (⟨some _, .binOp _ _ _ _ _, _, _, _, none⟩ :: _) _; first | (refine o_y (y_bin rfl rfl rfl) rfl ?_)) | (show AOps _ _ _ _ (⟨some _, .pick _ _ _, _, _, _, none⟩ :: _) _; first | (refine o_y (v_pick_t (v := .sc _) rfl (by first | rfl | assumption | exact beq_self_eq_true _ | exact decide_eq_true rfl) rfl) rfl ?_)) | (show AOps _ _ _ _ (⟨some _, .extract _ _, _, _, _, none⟩ :: _) _; first | (refine o_y (y_extract (v := .sc _) rfl rfl) rfl ?_)) | (show AOps _ _ _ _ (⟨_, .call ⟨.value (.func 6), _, _⟩, _, _, _, none⟩ :: _) _; refine o_x (x_callX (sl) rfl (by rintro _ rfl; rfl) ?_); rintro _ rfl) | (show AOps _ _ _ _ (⟨_, _, _, _, _, some (_, _)⟩ :: _) _; first | (refine o_g_f rfl rfl rfl (by first | rfl | assumption) ?_))) | (show IW _ _ _ _ _; first | (refine awp_seq ?_) | (refine awp_region ?_) | (refine awp_ret ?_) | (refine awp_if_t rfl (by first | rfl | assumption | exact beq_self_eq_true _ | exact decide_eq_true rfl) ?_)) | (show thenQ _ _ _ _; first | (refine k_r ?_)) | (show scopeQ _ _ _ _ _ _; first | (refine s_r ?_)))
      all_goals first
        | exact ret2 [] (by decide) rfl rfl
        | (exfalso; contradiction)
        | trace_state
    | some t =>
      rw [hv] at sl
      by_cases ht : t = s
      · subst ht
        rw [readV_ok hl hv]
        have e : (!decide (t = t)) = false := by simp
        repeat' (first | (refine aops_nil ?_) | (show AOps _ _ _ _ _ _; first | (show AOps _ _ _ _ (⟨some _, .move _, _, _, _, none⟩ :: _) _; first | (refine o_y (v_move (v := .sc _) rfl) rfl ?_) | (refine o_y (v_move (v := .vsl _ _ _ _) rfl) rfl ?_) | (refine o_y (v_move (v := .tup _) rfl) rfl ?_)) | (show AOps _ _ _ _ (⟨some _, .assign _, _, _, _, none⟩ :: _) _; first | (refine o_y (v_assign (v := .sc _) rfl) rfl ?_) | (refine o_y (v_assign (v := .vsl _ _ _ _) rfl) rfl ?_)) | (show AOps _ _ _ _ (⟨some _, .binOp .add _ _ _ _, _, _, _, none⟩ :: _) _; first | (refine o_y (y_bin rfl rfl rfl) rfl ?_)) | (show AOps _ _ _ _ (⟨some _, .binOp _ _ _ _ _, _, _, _, none⟩ :: _) _; first | (refine o_y (y_bin rfl rfl rfl) rfl ?_) | (refine o_y (y_binS rfl rfl rfl) rfl ?_)) | (show AOps _ _ _ _ (⟨some _, .pick _ _ _, _, _, _, none⟩ :: _) _; first | (refine o_y (v_pick_f (v := .sc _) rfl (by first | rfl | assumption) rfl) rfl ?_)) | (show AOps _ _ _ _ (⟨some _, .extract _ _, _, _, _, none⟩ :: _) _; first | (refine o_y (y_extract (v := .sc _) rfl rfl) rfl ?_)) | (show AOps _ _ _ _ (⟨_, .call ⟨.value (.func 6), _, _⟩, _, _, _, none⟩ :: _) _; refine o_x (x_callX (sl) rfl (by rintro _ rfl; rfl) ?_); rintro _ rfl) | (show AOps _ _ _ _ (⟨_, _, _, _, _, some (_, _)⟩ :: _) _; first | (refine o_g_t rfl rfl rfl (by first | rfl | assumption | exact beq_self_eq_true _ | exact decide_eq_true rfl) ?_))) | (show IW _ _ _ _ _; first | (refine awp_seq ?_) | (refine awp_region ?_) | (refine awp_ret ?_) | (refine awp_skip ?_) | (refine awp_if_f rfl (by first | rfl | assumption) ?_)) | (show scopeQ _ _ _ _ _ _; first | (refine s_r ?_)))
        all_goals first
          | exact ret2 [] (by decide) rfl rfl
          | trace_state
      · rw [readV_no hl (by rw [hv]; intro h; exact ht (Option.some.inj h))]
        have e : (!decide (t = s)) = true := by simp [ht]
        repeat' (first | (refine aops_nil ?_) | (show AOps _ _ _ _ _ _; first | (show AOps _ _ _ _ (⟨some _, .move _, _, _, _, none⟩ :: _) _; first | (refine o_y (v_move (v := .sc _) rfl) rfl ?_) | (refine o_y (v_move (v := .vsl _ _ _ _) rfl) rfl ?_) | (refine o_y (v_move (v := .tup _) rfl) rfl ?_)) | (show AOps _ _ _ _ (⟨some _, .assign _, _, _, _, none⟩ :: _) _; first | (refine o_y (v_assign (v := .sc _) rfl) rfl ?_)) | (show AOps _ _ _ _ (⟨some _, .binOp .add _ _ _ _, _, _, _, none⟩ :: _) _; first | (refine o_y (y_bin rfl rfl rfl) rfl ?_)) | (show AOps _ _ _ _ (⟨some _, .binOp _ _ _ _ _, _, _, _, none⟩ :: _) _; first | (refine o_y (y_bin rfl rfl rfl) rfl ?_) | (refine o_y (y_binS rfl rfl rfl) rfl ?_)) | (show AOps _ _ _ _ (⟨some _, .pick _ _ _, _, _, _, none⟩ :: _) _; first | (refine o_y (v_pick_f (v := .sc _) rfl (by first | rfl | assumption) rfl) rfl ?_)) | (show AOps _ _ _ _ (⟨some _, .extract _ _, _, _, _, none⟩ :: _) _; first | (refine o_y (y_extract (v := .sc _) rfl rfl) rfl ?_)) | (show AOps _ _ _ _ (⟨_, .call ⟨.value (.func 6), _, _⟩, _, _, _, none⟩ :: _) _; refine o_x (x_callX (sl) rfl (by rintro _ rfl; rfl) ?_); rintro _ rfl) | (show AOps _ _ _ _ (⟨_, _, _, _, _, some (_, _)⟩ :: _) _; first | (refine o_g_t rfl rfl rfl (by first | rfl | assumption | exact beq_self_eq_true _ | exact decide_eq_true rfl) ?_))) | (show IW _ _ _ _ _; first | (refine awp_seq ?_) | (refine awp_region ?_) | (refine awp_ret ?_) | (refine awp_if_t rfl (by first | rfl | assumption | exact beq_self_eq_true _ | exact decide_eq_true rfl) ?_)) | (show thenQ _ _ _ _; first | (refine k_r ?_)) | (show scopeQ _ _ _ _ _ _; first | (refine s_r ?_)))
        all_goals first
          | exact ret2 [] (by decide) rfl rfl
          | trace_state
end Go.Proofs.Ytkdckdfbilmnhaa.Sx
