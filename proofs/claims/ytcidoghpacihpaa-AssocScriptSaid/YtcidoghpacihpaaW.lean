/- The document's table: what is read of it. The document's table where it is owned; what lies below an association. -/
import Derived.Test.YtcidoghpacihpaaS
import Derived.Test.YtcidoghpacihpaaSx40
namespace Go.Proofs.Ytcidoghpacihpaa.Sx
open Go Go.RowKit
attribute [local irreducible] IW AOps AQuiet GQ GY AExec QY Yld ACalls ACallsD
def rws (l : List Ro) : List AV := l.flatMap Ro.cs
theorem rws_length (l : List Ro) : (rws l).length = l.length * 16 := flat_length (f := Ro.cs) (fun _ => rfl) l
theorem rws_flat (l : List Ro) : (rws l).all AV.flat = true := by simp [rws, Ro.cs, AV.flat]
theorem rws_snoc (l : List Ro) (e : Ro) : rws l ++ e.cs = rws (l ++ [e]) := by simp [rws]
theorem rws_at {l : List Ro} {i : Nat} {e : Ro} (h : l[i]? = some e) : ((rws l).drop ((0 + Int.toNat i) * 16)).take 16 = e.cs := by
  rw [Nat.zero_add]
  exact flat_at (f := Ro.cs) (esz := 16) (fun _ => rfl) h
/-- The document's table, as it is read. -/
def dV (l : List Ro) : AV := .vptr [.vsl (rws l) 16 0 l.length] 0
def lp (l : List Ro) (p : Ro → Bool) (j : Nat) : Bool := match l[j]? with | none => false | some e => p e
theorem lp_at {l : List Ro} {p : Ro → Bool} {i : Nat} {e : Ro} (h : l[i]? = some e) : lp l p i = p e := by unfold lp; rw [h]
def idp (id : Int) (e : Ro) : Bool := decide (e.id = id)
def atL (l : List Ro) (id : Int) : Int := fst (lp l (idp id)) l.length
def pickId (l : List Ro) (k : Int) : Int := if k < 0 then 0 else ((l[k.toNat]?).map Ro.id).getD 0
def findL (l : List Ro) (addr : Int) : Int := pickId l (fst (lp l (findP addr)) l.length)
def gEL (l : List Ro) (id : Int) : AV := if atL l id < 0 then .tup [.agg zRo.en, .sc (.bool false)] else match l[(atL l id).toNat]? with | none => .tup [.agg zRo.en, .sc (.bool false)] | some e => .tup [.agg e.en, .sc (.bool true)]
theorem atL_cases (l : List Ro) (id : Int) : (atL l id = -1 ∧ ∀ (j : Nat) e, l[j]? = some e → e.id ≠ id) ∨ ∃ (i : Nat) (e : Ro), atL l id = i ∧ i < l.length ∧ l[i]? = some e ∧ e.id = id := by
  unfold atL
  rcases fst_cases (lp l (idp id)) l.length with ⟨h1, h2⟩ | ⟨i, h1, h2, h3, _⟩
  · refine .inl ⟨h1, fun j e he hid => ?_⟩
    have := h2 j (List.getElem?_eq_some_iff.1 he).1
    rw [lp_at he] at this
    exact absurd hid (of_decide_eq_false this)
  · obtain ⟨e, he⟩ : ∃ e, l[i]? = some e := ⟨_, List.getElem?_eq_getElem h2⟩
    rw [lp_at he] at h3
    exact .inr ⟨i, e, h1, h2, he, of_decide_eq_true h3⟩
theorem clashR_spec (a b : As) : ACalls Try.prog 33 [.agg a.cs, .agg b.cs] ⟨0, []⟩ (fun r _ => r = .sc (.bool (clash a b))) := by
  by_cases ha : a.addr = b.addr
  · refine enter2 Try.func33 rfl 19 0 [.tmp 4] rfl rfl rfl ?_
    repeat' (first | (refine aops_nil ?_) | (show AOps _ _ _ _ _ _; first | (show AOps _ _ _ _ (⟨some _, .move _, _, _, _, none⟩ :: _) _; first | (refine o_y (v_move (v := .sc _) rfl) rfl ?_)) | (show AOps _ _ _ _ (⟨some _, .load _ _, _, _, _, none⟩ :: _) _; first | (refine o_y (y_load1 (v := .sc _) rfl rfl rfl) rfl ?_)) | (show AOps _ _ _ _ (⟨some _, .fieldAddr _ _ _, _, _, _, none⟩ :: _) _; first | (refine o_y (y_fld_ptr rfl rfl) rfl ?_)) | (show AOps _ _ _ _ (⟨some _, .assign _, _, _, _, none⟩ :: _) _; first | (refine o_y (v_assign (v := .sc _) rfl) rfl ?_)) | (show AOps _ _ _ _ (⟨some _, .binOp _ _ _ _ _, _, _, _, none⟩ :: _) _; first | (refine o_y (y_bin rfl rfl rfl) rfl ?_) | (refine o_y (y_eqB rfl rfl) rfl ?_)) | (show AOps _ _ _ _ (⟨some _, .pick _ _ _, _, _, _, none⟩ :: _) _; first | (refine o_y (v_pick_t (v := .sc _) rfl (by first | rfl | assumption | exact beq_self_eq_true _ | exact decide_eq_true rfl) rfl) rfl ?_) | (refine o_y (v_pick_f (v := .sc _) rfl (by first | rfl | assumption) rfl) rfl ?_)) | (show AOps _ _ _ _ (⟨_, .box _ _, _, _, _, none⟩ :: _) _; first | (refine o_x (b_agg rfl rfl rfl ?_))) | (show AOps _ _ _ _ (⟨_, _, _, _, _, some (_, _)⟩ :: _) _; first | (refine o_g_t rfl rfl rfl (by first | rfl | assumption | exact beq_self_eq_true _ | exact decide_eq_true rfl) ?_) | (refine o_g_f rfl rfl rfl (by first | rfl | assumption) ?_) | (refine o_if rfl rfl rfl (fun h hp => ?_) (fun h hp => ?_)))) | (show IW _ _ _ _ _; first | (refine awp_seq ?_) | (refine awp_region ?_) | (refine awp_ret ?_)))
    all_goals first
      | (exfalso; omega)
      | exact ret1 [] (by decide) rfl (congrArg (fun b => AV.sc (.bool b)) (by unfold clash clk; rw [decide_eq_true ha, Bool.true_and]; rfl))
  · refine enter2 Try.func33 rfl 19 0 [.tmp 4] rfl rfl rfl ?_
    repeat' (first | (refine aops_nil ?_) | (show AOps _ _ _ _ _ _; first | (show AOps _ _ _ _ (⟨some _, .move _, _, _, _, none⟩ :: _) _; first | (refine o_y (v_move (v := .sc _) rfl) rfl ?_)) | (show AOps _ _ _ _ (⟨some _, .load _ _, _, _, _, none⟩ :: _) _; first | (refine o_y (y_load1 (v := .sc _) rfl rfl rfl) rfl ?_)) | (show AOps _ _ _ _ (⟨some _, .fieldAddr _ _ _, _, _, _, none⟩ :: _) _; first | (refine o_y (y_fld_ptr rfl rfl) rfl ?_)) | (show AOps _ _ _ _ (⟨some _, .assign _, _, _, _, none⟩ :: _) _; first | (refine o_y (v_assign (v := .sc _) rfl) rfl ?_)) | (show AOps _ _ _ _ (⟨some _, .binOp _ _ _ _ _, _, _, _, none⟩ :: _) _; first | (refine o_y (y_bin rfl rfl rfl) rfl ?_) | (refine o_y (y_eqB rfl rfl) rfl ?_)) | (show AOps _ _ _ _ (⟨some _, .pick _ _ _, _, _, _, none⟩ :: _) _; first | (refine o_y (v_pick_t (v := .sc _) rfl (by first | rfl | assumption | exact beq_self_eq_true _ | exact decide_eq_true rfl) rfl) rfl ?_) | (refine o_y (v_pick_f (v := .sc _) rfl (by first | rfl | assumption) rfl) rfl ?_)) | (show AOps _ _ _ _ (⟨_, .box _ _, _, _, _, none⟩ :: _) _; first | (refine o_x (b_agg rfl rfl rfl ?_))) | (show AOps _ _ _ _ (⟨_, _, _, _, _, some (_, _)⟩ :: _) _; first | (refine o_g_t rfl rfl rfl (by first | rfl | assumption | exact beq_self_eq_true _ | exact decide_eq_true rfl) ?_) | (refine o_g_f rfl rfl rfl (by first | rfl | assumption) ?_) | (refine o_if rfl rfl rfl (fun h hp => ?_) (fun h hp => ?_)))) | (show IW _ _ _ _ _; first | (refine awp_seq ?_) | (refine awp_region ?_) | (refine awp_ret ?_)))
    all_goals first
      | (exfalso; omega)
      | exact ret1 [] (by decide) rfl (congrArg (fun b => AV.sc (.bool b)) (by unfold clash; rw [decide_eq_false ha, Bool.false_and]))
theorem laterR_spec (now : Int) (h0 : -9223372036854775808 ≤ now) : ACalls Try.prog 52 [.sc (.int .i64 now)] ⟨0, []⟩ (fun r _ => r = .sc (.int .i64 (later now))) := by
  refine enter1 Try.func52 rfl 9 0 [.tmp 2] rfl rfl rfl ?_
  repeat' (first | (refine aops_nil ?_) | (show AOps _ _ _ _ _ _; first | (show AOps _ _ _ _ (⟨some _, .move _, _, _, _, none⟩ :: _) _; first | (refine o_y (v_move (v := .sc _) rfl) rfl ?_)) | (show AOps _ _ _ _ (⟨some _, .assign _, _, _, _, none⟩ :: _) _; first | (refine o_y (v_assign (v := .sc _) rfl) rfl ?_)) | (show AOps _ _ _ _ (⟨some _, .binOp .add _ _ _ _, _, _, _, none⟩ :: _) _; first | (refine o_y (z_add rfl rfl (by omega) (by omega)) rfl ?_) | (refine o_y (y_bin rfl rfl rfl) rfl ?_)) | (show AOps _ _ _ _ (⟨some _, .binOp _ _ _ _ _, _, _, _, none⟩ :: _) _; first | (refine o_y (y_bin rfl rfl rfl) rfl ?_))) | (show IW _ _ _ _ _; first | (refine awp_seq ?_) | (refine awp_region ?_) | (refine awp_ret ?_) | (refine awp_skip ?_) | (refine awp_if rfl (fun h hp => ?_) (fun h hp => ?_))) | (show thenQ _ _ _ _; first | (refine k_r ?_)))
  all_goals exact ret1 [] (by decide) rfl (congrArg (fun x => AV.sc (.int .i64 x)) (by first | rfl | omega | (simp only [later]; omega)))
theorem groupR_spec (a : Int) : ACalls Try.prog 56 [.sc (.int .u32 a)] ⟨0, []⟩ (fun r _ => r = .sc (.bool (grp a))) := by
  refine enter1 Try.func56 rfl 10 0 [.tmp 2] rfl rfl rfl ?_
  repeat' (first | (refine aops_nil ?_) | (show AOps _ _ _ _ _ _; first | (show AOps _ _ _ _ (⟨some _, .move _, _, _, _, none⟩ :: _) _; first | (refine o_y (v_move (v := .sc _) rfl) rfl ?_)) | (show AOps _ _ _ _ (⟨some _, .assign _, _, _, _, none⟩ :: _) _; first | (refine o_y (v_assign (v := .sc _) rfl) rfl ?_)) | (show AOps _ _ _ _ (⟨some _, .binOp .shr _ _ _ _, _, _, _, none⟩ :: _) _; first | (refine o_y (y_shr rfl rfl (by omega)) rfl ?_)) | (show AOps _ _ _ _ (⟨some _, .binOp _ _ _ _ _, _, _, _, none⟩ :: _) _; first | (refine o_y (y_bin rfl rfl rfl) rfl ?_)) | (show AOps _ _ _ _ (⟨some _, .pick _ _ _, _, _, _, none⟩ :: _) _; first | (refine o_y (v_pick_t (v := .sc _) rfl (by first | rfl | assumption | exact beq_self_eq_true _ | exact decide_eq_true rfl) rfl) rfl ?_) | (refine o_y (v_pick_f (v := .sc _) rfl (by first | rfl | assumption) rfl) rfl ?_)) | (show AOps _ _ _ _ (⟨_, _, _, _, _, some (_, _)⟩ :: _) _; first | (refine o_g_t rfl rfl rfl (by first | rfl | assumption | exact beq_self_eq_true _ | exact decide_eq_true rfl) ?_) | (refine o_g_f rfl rfl rfl (by first | rfl | assumption) ?_) | (refine o_un rfl rfl rfl (fun h hp => ?_) (fun h hp => ?_)))) | (show IW _ _ _ _ _; first | (refine awp_seq ?_) | (refine awp_region ?_) | (refine awp_ret ?_)))
  all_goals
    rw [show (2 : Int) ^ min (Int.toNat 28) IntKind.u32.bits = 268435456 from rfl] at hp
    exact ret1 [] (by decide) rfl (congrArg (fun b => AV.sc (.bool b)) (by simp [grp, hp]))
theorem at_spec (l : List Ro) (hl : l.length ≤ 16) (id : Int) : ACalls Try.prog 51 [dV l, .sc (.int .i64 id)] ⟨0, []⟩ (fun r _ => r = .sc (.int .i64 (atL l id))) := by
  unfold dV
  refine enter2 Try.func51 rfl 24 0 [.tmp 4] rfl rfl rfl ?_
  repeat' (first | (refine aops_nil ?_) | (show AOps _ _ _ _ _ _; first | (show AOps _ _ _ _ (⟨some _, .move _, _, _, _, none⟩ :: _) _; first | (refine o_y (v_move (v := .sc _) rfl) rfl ?_) | (refine o_y (v_move (v := .vptr _ _) rfl) rfl ?_)) | (show AOps _ _ _ _ (⟨some _, .load _ _, _, _, _, none⟩ :: _) _; first | (refine o_y (y_vload1 (v := .vsl _ _ _ _) rfl rfl) rfl ?_)) | (show AOps _ _ _ _ (⟨some _, .fieldAddr _ _ _, _, _, _, none⟩ :: _) _; first | (refine o_y (y_fld_vptr rfl rfl) rfl ?_)) | (show AOps _ _ _ _ (⟨some _, .nilCheck _, _, _, _, none⟩ :: _) _; first | (refine o_y (y_nil_vptr rfl) rfl ?_)) | (show AOps _ _ _ _ (⟨some _, .assign _, _, _, _, none⟩ :: _) _; first | (refine o_y (v_assign (v := .sc _) rfl) rfl ?_)) | (show AOps _ _ _ _ (⟨some _, .call ⟨.builtin .len, _, _⟩, _, _, _, none⟩ :: _) _; first | (refine o_y (y_lenV rfl) rfl ?_))) | (show IW _ _ [.code (.seq _ _)] _ _; first | (show AWP _ _ (.seq (.region _ _ _) _) _ _; refine awp_seq ?_) | (show AWP _ _ (.seq (.seq _ _) _) _ _; refine awp_seq ?_)) | (show IW _ _ _ _ _; first | (refine awp_region ?_) | (refine awp_block ?_)))
  refine awp_loopI (fun i : Nat => i ≤ l.length ∧ ∀ j, j < i → lp l (idp id) j = false) (fun i => l.length - i) (fun i => [(1, .sc (.int .i64 id)), (10, .vsl (rws l) 16 0 l.length), (11, .sc (.int .i64 l.length)), (12, .sc (.int .i64 i))]) 0 (fun _ => []) 0 [] (by decide) rfl rfl rfl ⟨Nat.zero_le _, fun j hj => by omega⟩ ⟨rfl, rfl, rfl, rfl, trivial⟩ trivial ?_
  rintro i ⟨h1, h2⟩ ih
  by_cases hlt : i < l.length
  · obtain ⟨e, he⟩ : ∃ e, l[i]? = some e := ⟨_, List.getElem?_eq_getElem hlt⟩
    have ve := rws_at he
    have hp0 : lp l (idp id) i = decide (e.id = id) := lp_at he
    repeat' (first | (refine aops_nil ?_) | (show AOps _ _ _ _ _ _; first | (show AOps _ _ _ _ (⟨some _, .move _, _, _, _, none⟩ :: _) _; first | (refine o_y (v_move (v := .sc _) rfl) rfl ?_)) | (show AOps _ _ _ _ (⟨some _, .load _ _, _, _, _, none⟩ :: _) _; first | (refine o_y (y_load1 (v := .sc _) rfl rfl rfl) rfl ?_) | (refine o_y (y_vloadE rfl (by assumption) (by rfl) rfl) rfl ?_)) | (show AOps _ _ _ _ (⟨some _, .fieldAddr _ _ _, _, _, _, none⟩ :: _) _; first | (refine o_y (y_fld_ptr rfl rfl) rfl ?_)) | (show AOps _ _ _ _ (⟨some _, .assign _, _, _, _, none⟩ :: _) _; first | (refine o_y (v_assign (v := .sc _) rfl) rfl ?_)) | (show AOps _ _ _ _ (⟨some _, .binOp .add _ _ _ _, _, _, _, none⟩ :: _) _; first | (refine o_y (z_add rfl rfl (by omega) (by omega)) rfl ?_) | (refine o_y (y_bin rfl rfl rfl) rfl ?_)) | (show AOps _ _ _ _ (⟨some _, .binOp _ _ _ _ _, _, _, _, none⟩ :: _) _; first | (refine o_y (y_bin rfl rfl rfl) rfl ?_)) | (show AOps _ _ _ _ (⟨some _, .indexAddr _ _ _, _, _, _, none⟩ :: _) _; first | (refine o_y (y_ix_vsl rfl rfl rfl (by omega) (by omega)) rfl ?_)) | (show AOps _ _ _ _ (⟨_, .store _ _ _, _, _, _, none⟩ :: _) _; first | (refine o_x (s_storeW rfl rfl rfl rfl rfl (by first | rfl | assumption) ?_))) | (show AOps _ _ _ _ (⟨_, .alloc _, _, _, _, none⟩ :: _) _; first | (refine o_x (a_new (by first | (simp only [AV.ofV, AV.cells, List.map_cons, List.map_nil]; rfl) | rfl) rfl rfl rfl ?_)))) | (show IW _ _ _ _ _; first | (refine awp_seq ?_) | (refine awp_region ?_) | (refine awp_block ?_) | (refine awp_exit ?_) | (refine awp_ret ?_) | (refine awp_skip ?_) | (refine awp_if rfl (fun h hp => ?_) (fun h hp => ?_))) | (show thenQ _ _ _ _; first | (refine k_n ?_) | (refine k_r ?_)) | (show blockQ _ _ _ _; first | (refine b_r ?_)))
    all_goals first
      | (exfalso; omega)
      | exact iw_at [] (ih (i + 1) ⟨hlt, stepF h2 (by rw [hp0]; exact decide_eq_false (by omega))⟩ (by omega)) (by decide) rfl rfl rfl ⟨rfl, rfl, rfl, rfl, trivial⟩ trivial
      | exact ret1 [] (by decide) rfl (congrArg (fun x => AV.sc (.int .i64 x)) (by unfold atL; rw [fst_hit (i := i) (by rw [hp0]; exact decide_eq_true (by omega)) h2 hlt]))
  · have : atL l id = -1 := by unfold atL; exact fst_none fun j hj => h2 j (by omega)
    rw [this]
    repeat' (first | (refine aops_nil ?_) | (show AOps _ _ _ _ _ _; first | (show AOps _ _ _ _ (⟨some _, .move _, _, _, _, none⟩ :: _) _; first | (refine o_y (v_move (v := .sc _) rfl) rfl ?_)) | (show AOps _ _ _ _ (⟨some _, .assign _, _, _, _, none⟩ :: _) _; first | (refine o_y (v_assign (v := .sc _) rfl) rfl ?_)) | (show AOps _ _ _ _ (⟨some _, .binOp .add _ _ _ _, _, _, _, none⟩ :: _) _; first | (refine o_y (y_bin rfl rfl rfl) rfl ?_)) | (show AOps _ _ _ _ (⟨some _, .binOp _ _ _ _ _, _, _, _, none⟩ :: _) _; first | (refine o_y (y_bin rfl rfl rfl) rfl ?_)) | (show AOps _ _ _ _ (⟨some _, .indexAddr _ _ _, _, _, _, none⟩ :: _) _; first | (refine o_y (y_ix_vsl rfl rfl rfl (by omega) (by omega)) rfl ?_))) | (show IW _ _ _ _ _; first | (refine awp_seq ?_) | (refine awp_region ?_) | (refine awp_block ?_) | (refine awp_exit ?_) | (refine awp_ret ?_) | (refine awp_skip ?_) | (refine awp_if rfl (fun h hp => ?_) (fun h hp => ?_))))
    all_goals first | (exfalso; omega) | exact ret1 [] (by decide) rfl rfl
theorem findR_spec (l : List Ro) (hl : l.length ≤ 16) (addr : Int) : ACalls Try.prog 44 [dV l, .sc (.int .u32 addr)] ⟨0, []⟩ (fun r _ => r = .sc (.int .i64 (findL l addr))) := by
  unfold dV
  refine enter2 Try.func44 rfl 33 0 [.tmp 4] rfl rfl rfl ?_
  repeat' (first | (refine aops_nil ?_) | (show AOps _ _ _ _ _ _; first | (show AOps _ _ _ _ (⟨some _, .move _, _, _, _, none⟩ :: _) _; first | (refine o_y (v_move (v := .sc _) rfl) rfl ?_) | (refine o_y (v_move (v := .vptr _ _) rfl) rfl ?_)) | (show AOps _ _ _ _ (⟨some _, .load _ _, _, _, _, none⟩ :: _) _; first | (refine o_y (y_vload1 (v := .vsl _ _ _ _) rfl rfl) rfl ?_)) | (show AOps _ _ _ _ (⟨some _, .fieldAddr _ _ _, _, _, _, none⟩ :: _) _; first | (refine o_y (y_fld_vptr rfl rfl) rfl ?_)) | (show AOps _ _ _ _ (⟨some _, .nilCheck _, _, _, _, none⟩ :: _) _; first | (refine o_y (y_nil_vptr rfl) rfl ?_)) | (show AOps _ _ _ _ (⟨some _, .assign _, _, _, _, none⟩ :: _) _; first | (refine o_y (v_assign (v := .sc _) rfl) rfl ?_)) | (show AOps _ _ _ _ (⟨some _, .call ⟨.builtin .len, _, _⟩, _, _, _, none⟩ :: _) _; first | (refine o_y (y_lenV rfl) rfl ?_))) | (show IW _ _ [.code (.seq _ _)] _ _; first | (show AWP _ _ (.seq (.region _ _ _) _) _ _; refine awp_seq ?_) | (show AWP _ _ (.seq (.seq _ _) _) _ _; refine awp_seq ?_)) | (show IW _ _ _ _ _; first | (refine awp_region ?_) | (refine awp_block ?_)))
  refine awp_loopI (fun i : Nat => i ≤ l.length ∧ ∀ j, j < i → lp l (findP addr) j = false) (fun i => l.length - i) (fun i => [(1, .sc (.int .u32 addr)), (10, .vsl (rws l) 16 0 l.length), (11, .sc (.int .i64 l.length)), (12, .sc (.int .i64 i))]) 0 (fun _ => []) 0 [] (by decide) rfl rfl rfl ⟨Nat.zero_le _, fun j hj => by omega⟩ ⟨rfl, rfl, rfl, rfl, trivial⟩ trivial ?_
  rintro i ⟨h1, h2⟩ ih
  by_cases hlt : i < l.length
  · obtain ⟨e, he⟩ : ∃ e, l[i]? = some e := ⟨_, List.getElem?_eq_getElem hlt⟩
    have ve := rws_at he
    have hp0 : lp l (findP addr) i = findP addr e := lp_at he
    by_cases hp1 : findP addr e = true
    · have hr : findL l addr = e.id := by
        unfold findL pickId
        rw [fst_hit (i := i) (by rw [hp0]; exact hp1) h2 hlt, if_neg (by omega), Int.toNat_natCast, he]
        rfl
      rw [hr]
      unfold findP clk at hp1
      simp only [Bool.and_eq_true, Bool.not_eq_true', decide_eq_false_iff_not, decide_eq_true_eq] at hp1
      repeat' (first | (refine aops_nil ?_) | (show AOps _ _ _ _ _ _; first | (show AOps _ _ _ _ (⟨some _, .move _, _, _, _, none⟩ :: _) _; first | (refine o_y (v_move (v := .sc _) rfl) rfl ?_)) | (show AOps _ _ _ _ (⟨some _, .load _ _, _, _, _, none⟩ :: _) _; first | (refine o_y (y_load1 (v := .sc _) rfl rfl rfl) rfl ?_) | (refine o_y (y_vloadE rfl (by assumption) (by rfl) rfl) rfl ?_)) | (show AOps _ _ _ _ (⟨some _, .fieldAddr _ _ _, _, _, _, none⟩ :: _) _; first | (refine o_y (y_fld_ptr rfl rfl) rfl ?_)) | (show AOps _ _ _ _ (⟨some _, .assign _, _, _, _, none⟩ :: _) _; first | (refine o_y (v_assign (v := .sc _) rfl) rfl ?_)) | (show AOps _ _ _ _ (⟨some _, .binOp .add _ _ _ _, _, _, _, none⟩ :: _) _; first | (refine o_y (z_add rfl rfl (by omega) (by omega)) rfl ?_) | (refine o_y (y_bin rfl rfl rfl) rfl ?_)) | (show AOps _ _ _ _ (⟨some _, .binOp _ _ _ _ _, _, _, _, none⟩ :: _) _; first | (refine o_y (y_bin rfl rfl rfl) rfl ?_)) | (show AOps _ _ _ _ (⟨some _, .pick _ _ _, _, _, _, none⟩ :: _) _; first | (refine o_y (v_pick_t (v := .sc _) rfl (by first | rfl | assumption | exact beq_self_eq_true _ | exact decide_eq_true rfl) rfl) rfl ?_) | (refine o_y (v_pick_f (v := .sc _) rfl (by first | rfl | assumption) rfl) rfl ?_)) | (show AOps _ _ _ _ (⟨some _, .indexAddr _ _ _, _, _, _, none⟩ :: _) _; first | (refine o_y (y_ix_vsl rfl rfl rfl (by omega) (by omega)) rfl ?_)) | (show AOps _ _ _ _ (⟨_, .store _ _ _, _, _, _, none⟩ :: _) _; first | (refine o_x (s_storeW rfl rfl rfl rfl rfl (by first | rfl | assumption) ?_))) | (show AOps _ _ _ _ (⟨_, .alloc _, _, _, _, none⟩ :: _) _; first | (refine o_x (a_new (by first | (simp only [AV.ofV, AV.cells, List.map_cons, List.map_nil]; rfl) | rfl) rfl rfl rfl ?_))) | (show AOps _ _ _ _ (⟨_, _, _, _, _, some (_, _)⟩ :: _) _; first | (refine o_g_t rfl rfl rfl (by first | rfl | assumption | exact beq_self_eq_true _ | exact decide_eq_true rfl) ?_) | (refine o_g_f rfl rfl rfl (by first | rfl | assumption) ?_) | (refine o_if rfl rfl rfl (fun h hp => ?_) (fun h hp => ?_)))) | (show IW _ _ _ _ _; first | (refine awp_seq ?_) | (refine awp_region ?_) | (refine awp_block ?_) | (refine awp_exit ?_) | (refine awp_ret ?_) | (refine awp_skip ?_) | (refine awp_if_f rfl (by first | rfl | assumption) ?_) | (refine awp_if rfl (fun h hp => ?_) (fun h hp => ?_))) | (show thenQ _ _ _ _; first | (refine k_n ?_) | (refine k_r ?_)) | (show blockQ _ _ _ _; first | (refine b_r ?_)))
      all_goals first
        | (exfalso; omega)
        | exact ret1 [] (by decide) rfl rfl
    · have hp1 : findP addr e = false := by simpa using hp1
      have hq : ¬ (e.a.kind ≠ 6 ∧ e.a.addr = addr) := by
        unfold findP clk at hp1
        simpa using hp1
      repeat' (first | (refine aops_nil ?_) | (show AOps _ _ _ _ _ _; first | (show AOps _ _ _ _ (⟨some _, .move _, _, _, _, none⟩ :: _) _; first | (refine o_y (v_move (v := .sc _) rfl) rfl ?_)) | (show AOps _ _ _ _ (⟨some _, .load _ _, _, _, _, none⟩ :: _) _; first | (refine o_y (y_load1 (v := .sc _) rfl rfl rfl) rfl ?_) | (refine o_y (y_vloadE rfl (by assumption) (by rfl) rfl) rfl ?_)) | (show AOps _ _ _ _ (⟨some _, .fieldAddr _ _ _, _, _, _, none⟩ :: _) _; first | (refine o_y (y_fld_ptr rfl rfl) rfl ?_)) | (show AOps _ _ _ _ (⟨some _, .assign _, _, _, _, none⟩ :: _) _; first | (refine o_y (v_assign (v := .sc _) rfl) rfl ?_)) | (show AOps _ _ _ _ (⟨some _, .binOp .add _ _ _ _, _, _, _, none⟩ :: _) _; first | (refine o_y (z_add rfl rfl (by omega) (by omega)) rfl ?_) | (refine o_y (y_bin rfl rfl rfl) rfl ?_)) | (show AOps _ _ _ _ (⟨some _, .binOp _ _ _ _ _, _, _, _, none⟩ :: _) _; first | (refine o_y (y_bin rfl rfl rfl) rfl ?_)) | (show AOps _ _ _ _ (⟨some _, .pick _ _ _, _, _, _, none⟩ :: _) _; first | (refine o_y (v_pick_t (v := .sc _) rfl (by first | rfl | assumption | exact beq_self_eq_true _ | exact decide_eq_true rfl) rfl) rfl ?_) | (refine o_y (v_pick_f (v := .sc _) rfl (by first | rfl | assumption) rfl) rfl ?_)) | (show AOps _ _ _ _ (⟨some _, .indexAddr _ _ _, _, _, _, none⟩ :: _) _; first | (refine o_y (y_ix_vsl rfl rfl rfl (by omega) (by omega)) rfl ?_)) | (show AOps _ _ _ _ (⟨_, .store _ _ _, _, _, _, none⟩ :: _) _; first | (refine o_x (s_storeW rfl rfl rfl rfl rfl (by first | rfl | assumption) ?_))) | (show AOps _ _ _ _ (⟨_, .alloc _, _, _, _, none⟩ :: _) _; first | (refine o_x (a_new (by first | (simp only [AV.ofV, AV.cells, List.map_cons, List.map_nil]; rfl) | rfl) rfl rfl rfl ?_))) | (show AOps _ _ _ _ (⟨_, _, _, _, _, some (_, _)⟩ :: _) _; first | (refine o_g_t rfl rfl rfl (by first | rfl | assumption | exact beq_self_eq_true _ | exact decide_eq_true rfl) ?_) | (refine o_g_f rfl rfl rfl (by first | rfl | assumption) ?_) | (refine o_if rfl rfl rfl (fun h hp => ?_) (fun h hp => ?_)))) | (show IW _ _ _ _ _; first | (refine awp_seq ?_) | (refine awp_region ?_) | (refine awp_block ?_) | (refine awp_exit ?_) | (refine awp_ret ?_) | (refine awp_skip ?_) | (refine awp_if_f rfl (by first | rfl | assumption) ?_) | (refine awp_if rfl (fun h hp => ?_) (fun h hp => ?_))) | (show thenQ _ _ _ _; first | (refine k_n ?_) | (refine k_r ?_)) | (show blockQ _ _ _ _; first | (refine b_r ?_)))
      all_goals first
        | (exfalso; omega)
        | exact iw_at [] (ih (i + 1) ⟨hlt, stepF h2 (by rw [hp0]; exact hp1)⟩ (by omega)) (by decide) rfl rfl rfl ⟨rfl, rfl, rfl, rfl, trivial⟩ trivial
  · have : findL l addr = 0 := by unfold findL; rw [fst_none fun j hj => h2 j (by omega)]; rfl
    rw [this]
    repeat' (first | (refine aops_nil ?_) | (show AOps _ _ _ _ _ _; first | (show AOps _ _ _ _ (⟨some _, .assign _, _, _, _, none⟩ :: _) _; first | (refine o_y (v_assign (v := .sc _) rfl) rfl ?_)) | (show AOps _ _ _ _ (⟨some _, .binOp .add _ _ _ _, _, _, _, none⟩ :: _) _; first | (refine o_y (y_bin rfl rfl rfl) rfl ?_)) | (show AOps _ _ _ _ (⟨some _, .binOp _ _ _ _ _, _, _, _, none⟩ :: _) _; first | (refine o_y (y_bin rfl rfl rfl) rfl ?_)) | (show AOps _ _ _ _ (⟨some _, .indexAddr _ _ _, _, _, _, none⟩ :: _) _; first | (refine o_y (y_ix_vsl rfl rfl rfl (by omega) (by omega)) rfl ?_))) | (show IW _ _ _ _ _; first | (refine awp_seq ?_) | (refine awp_region ?_) | (refine awp_block ?_) | (refine awp_exit ?_) | (refine awp_ret ?_) | (refine awp_skip ?_) | (refine awp_if rfl (fun h hp => ?_) (fun h hp => ?_))))
    all_goals first | (exfalso; omega) | exact ret1 [] (by decide) rfl rfl
theorem getR_spec (l : List Ro) (hl : l.length ≤ 16) (id : Int) : ACalls Try.prog 55 [dV l, .sc (.int .i64 id)] ⟨0, []⟩ (fun r _ => r = gEL l id) := by
  have sa := at_spec l hl id
  unfold gEL
  unfold dV at sa ⊢
  rcases atL_cases l id with ⟨h1, _⟩ | ⟨i, e, h1, h2, h3, _⟩
  · rw [h1] at sa ⊢
    rw [if_pos (by omega)]
    refine enter2 Try.func55 rfl 21 0 [.cell 4 92, .tmp 5] rfl rfl rfl ?_
    repeat' (first | (refine aops_nil ?_) | (show AOps _ _ _ _ _ _; first | (show AOps _ _ _ _ (⟨some _, .build _ _, _, _, _, none⟩ :: _) _; first | (refine o_y (y_build (cs := zRo.en) rfl rfl) rfl ?_)) | (show AOps _ _ _ _ (⟨some _, .move _, _, _, _, none⟩ :: _) _; first | (refine o_y (v_move (v := .sc _) rfl) rfl ?_) | (refine o_y (v_move (v := .vptr _ _) rfl) rfl ?_)) | (show AOps _ _ _ _ (⟨some _, .assign _, _, _, _, none⟩ :: _) _; first | (refine o_y (v_assign (v := .sc _) rfl) rfl ?_)) | (show AOps _ _ _ _ (⟨some _, .binOp _ _ _ _ _, _, _, _, none⟩ :: _) _; first | (refine o_y (y_bin rfl rfl rfl) rfl ?_)) | (show AOps _ _ _ _ (⟨some _, .call ⟨.value (.func 51), _, _⟩, _, _, _, none⟩ :: _) _; first | (refine o_q (q_call (sa)) rfl ?_)) | (show AOps _ _ _ _ (⟨_, .store _ _ _, _, _, _, none⟩ :: _) _; first | (refine o_x (s_storeW rfl rfl rfl rfl rfl (by first | rfl | assumption) ?_))) | (show AOps _ _ _ _ (⟨_, .alloc _, _, _, _, none⟩ :: _) _; first | (refine o_x (a_new (by first | (simp only [AV.ofV, AV.cells, List.map_cons, List.map_nil]; rfl) | rfl) rfl rfl rfl ?_)))) | (show IW _ _ _ _ _; first | (refine awp_seq ?_) | (refine awp_region ?_) | (refine awp_ret ?_) | (refine awp_skip ?_) | (refine awp_if_f rfl (by first | rfl | assumption) ?_)))
    all_goals first | (exfalso; omega) | exact ret2c [] (by decide) rfl rfl rfl rfl rfl
  · rw [h1] at sa ⊢
    rw [if_neg (by omega), Int.toNat_natCast, h3]
    have ve : ((rws l).drop ((0 + Int.toNat i) * 16 + 0)).take 15 = e.en := by
      rw [Nat.add_zero]
      have := congrArg (List.take 15) (rws_at h3)
      rw [List.take_take] at this
      exact this
    refine enter2 Try.func55 rfl 21 0 [.cell 4 92, .tmp 5] rfl rfl rfl ?_
    repeat' (first | (refine aops_nil ?_) | (show AOps _ _ _ _ _ _; first | (show AOps _ _ _ _ (⟨some _, .move _, _, _, _, none⟩ :: _) _; first | (refine o_y (v_move (v := .sc _) rfl) rfl ?_) | (refine o_y (v_move (v := .vptr _ _) rfl) rfl ?_)) | (show AOps _ _ _ _ (⟨some _, .load _ _, _, _, _, none⟩ :: _) _; first | (refine o_y (y_vload1 (v := .vsl _ _ _ _) rfl rfl) rfl ?_) | (refine o_y (y_vloadE rfl (by assumption) (by rfl) rfl) rfl ?_)) | (show AOps _ _ _ _ (⟨some _, .fieldAddr _ _ _, _, _, _, none⟩ :: _) _; first | (refine o_y (y_fld_vptr rfl rfl) rfl ?_)) | (show AOps _ _ _ _ (⟨some _, .nilCheck _, _, _, _, none⟩ :: _) _; first | (refine o_y (y_nil_vptr rfl) rfl ?_)) | (show AOps _ _ _ _ (⟨some _, .assign _, _, _, _, none⟩ :: _) _; first | (refine o_y (v_assign (v := .sc _) rfl) rfl ?_)) | (show AOps _ _ _ _ (⟨some _, .binOp _ _ _ _ _, _, _, _, none⟩ :: _) _; first | (refine o_y (y_bin rfl rfl rfl) rfl ?_)) | (show AOps _ _ _ _ (⟨some _, .indexAddr _ _ _, _, _, _, none⟩ :: _) _; first | (refine o_y (y_ix_vsl rfl rfl rfl (by omega) (by omega)) rfl ?_)) | (show AOps _ _ _ _ (⟨some _, .call ⟨.value (.func 51), _, _⟩, _, _, _, none⟩ :: _) _; first | (refine o_q (q_call (sa)) rfl ?_)) | (show AOps _ _ _ _ (⟨_, .store _ _ _, _, _, _, none⟩ :: _) _; first | (refine o_x (s_storeW rfl rfl rfl rfl rfl (by first | rfl | assumption) ?_))) | (show AOps _ _ _ _ (⟨_, .alloc _, _, _, _, none⟩ :: _) _; first | (refine o_x (a_new (by first | (simp only [AV.ofV, AV.cells, List.map_cons, List.map_nil]; rfl) | rfl) rfl rfl rfl ?_)))) | (show IW _ _ _ _ _; first | (refine awp_seq ?_) | (refine awp_region ?_) | (refine awp_ret ?_) | (refine awp_if_t rfl (by first | rfl | assumption | exact beq_self_eq_true _ | exact decide_eq_true rfl) ?_)) | (show thenQ _ _ _ _; first | (refine k_r ?_)))
    all_goals first | (exfalso; omega) | exact ret2c [] (by decide) rfl rfl rfl rfl rfl
theorem take_snoc {α : Type} {l : List α} {i : Nat} {x : α} (h : l[i]? = some x) : l.take (i + 1) = l.take i ++ [x] := by
  rw [List.take_add_one, h]
  rfl
theorem hasR_spec (l : List Int) (hl : l.length ≤ maxLen) (n : Int) : ACalls Try.prog 57 [.vsl (nums l) 1 0 l.length, .sc (.int .i64 n)] ⟨0, []⟩ (fun r _ => r = .sc (.bool (decide (n ∈ l)))) := by
  have hM : l.length ≤ 9223372036854775807 := Nat.le_trans hl (by decide)
  refine enter2 Try.func57 rfl 17 0 [.tmp 4] rfl rfl rfl ?_
  repeat' (first | (refine aops_nil ?_) | (show AOps _ _ _ _ _ _; first | (show AOps _ _ _ _ (⟨some _, .move _, _, _, _, none⟩ :: _) _; first | (refine o_y (v_move (v := .sc _) rfl) rfl ?_) | (refine o_y (v_move (v := .vsl _ _ _ _) rfl) rfl ?_)) | (show AOps _ _ _ _ (⟨some _, .assign _, _, _, _, none⟩ :: _) _; first | (refine o_y (v_assign (v := .sc _) rfl) rfl ?_)) | (show AOps _ _ _ _ (⟨some _, .call ⟨.builtin .len, _, _⟩, _, _, _, none⟩ :: _) _; first | (refine o_y (y_lenV rfl) rfl ?_))) | (show IW _ _ [.code (.seq _ _)] _ _; first | (show AWP _ _ (.seq (.region _ _ _) _) _ _; refine awp_seq ?_) | (show AWP _ _ (.seq (.seq _ _) _) _ _; refine awp_seq ?_)) | (show IW _ _ _ _ _; first | (refine awp_region ?_) | (refine awp_block ?_)))
  refine awp_loopI (fun i : Nat => i ≤ l.length ∧ n ∉ l.take i) (fun i => l.length - i) (fun i => [(1, .sc (.int .i64 n)), (7, .vsl (nums l) 1 0 l.length), (8, .sc (.int .i64 l.length)), (9, .sc (.int .i64 i))]) 0 (fun _ => []) 0 [] (by decide) rfl rfl rfl ⟨Nat.zero_le _, by simp⟩ ⟨rfl, rfl, rfl, rfl, trivial⟩ trivial ?_
  rintro i ⟨h1, h2⟩ ih
  by_cases hlt : i < l.length
  · obtain ⟨x, hx⟩ : ∃ x, l[i]? = some x := ⟨_, List.getElem?_eq_getElem hlt⟩
    have vn : (nums l)[(0 + Int.toNat i) * 1]? = some (.sc (.int .i64 x)) := by rw [Nat.zero_add, Nat.mul_one]; exact nums_at hx
    by_cases hxn : x = n
    · have : decide (n ∈ l) = true := decide_eq_true (by rw [← hxn]; exact List.mem_of_getElem? hx)
      rw [this]
      repeat' (first | (refine aops_nil ?_) | (show AOps _ _ _ _ _ _; first | (show AOps _ _ _ _ (⟨some _, .move _, _, _, _, none⟩ :: _) _; first | (refine o_y (v_move (v := .sc _) rfl) rfl ?_)) | (show AOps _ _ _ _ (⟨some _, .load _ _, _, _, _, none⟩ :: _) _; first | (refine o_y (y_vload rfl (by assumption)) rfl ?_)) | (show AOps _ _ _ _ (⟨some _, .assign _, _, _, _, none⟩ :: _) _; first | (refine o_y (v_assign (v := .sc _) rfl) rfl ?_)) | (show AOps _ _ _ _ (⟨some _, .binOp .add _ _ _ _, _, _, _, none⟩ :: _) _; first | (refine o_y (z_add rfl rfl (by omega) (by omega)) rfl ?_) | (refine o_y (y_bin rfl rfl rfl) rfl ?_)) | (show AOps _ _ _ _ (⟨some _, .binOp _ _ _ _ _, _, _, _, none⟩ :: _) _; first | (refine o_y (y_bin rfl rfl rfl) rfl ?_)) | (show AOps _ _ _ _ (⟨some _, .indexAddr _ _ _, _, _, _, none⟩ :: _) _; first | (refine o_y (y_ix_vsl rfl rfl rfl (by omega) (by omega)) rfl ?_))) | (show IW _ _ _ _ _; first | (refine awp_seq ?_) | (refine awp_region ?_) | (refine awp_block ?_) | (refine awp_exit ?_) | (refine awp_ret ?_) | (refine awp_skip ?_) | (refine awp_if rfl (fun h hp => ?_) (fun h hp => ?_))) | (show thenQ _ _ _ _; first | (refine k_n ?_) | (refine k_r ?_)) | (show blockQ _ _ _ _; first | (refine b_r ?_)))
      all_goals first | (exfalso; omega) | exact ret1 [] (by decide) rfl rfl
    · repeat' (first | (refine aops_nil ?_) | (show AOps _ _ _ _ _ _; first | (show AOps _ _ _ _ (⟨some _, .move _, _, _, _, none⟩ :: _) _; first | (refine o_y (v_move (v := .sc _) rfl) rfl ?_)) | (show AOps _ _ _ _ (⟨some _, .load _ _, _, _, _, none⟩ :: _) _; first | (refine o_y (y_vload rfl (by assumption)) rfl ?_)) | (show AOps _ _ _ _ (⟨some _, .assign _, _, _, _, none⟩ :: _) _; first | (refine o_y (v_assign (v := .sc _) rfl) rfl ?_)) | (show AOps _ _ _ _ (⟨some _, .binOp .add _ _ _ _, _, _, _, none⟩ :: _) _; first | (refine o_y (z_add rfl rfl (by omega) (by omega)) rfl ?_) | (refine o_y (y_bin rfl rfl rfl) rfl ?_)) | (show AOps _ _ _ _ (⟨some _, .binOp _ _ _ _ _, _, _, _, none⟩ :: _) _; first | (refine o_y (y_bin rfl rfl rfl) rfl ?_)) | (show AOps _ _ _ _ (⟨some _, .indexAddr _ _ _, _, _, _, none⟩ :: _) _; first | (refine o_y (y_ix_vsl rfl rfl rfl (by omega) (by omega)) rfl ?_))) | (show IW _ _ _ _ _; first | (refine awp_seq ?_) | (refine awp_region ?_) | (refine awp_block ?_) | (refine awp_exit ?_) | (refine awp_ret ?_) | (refine awp_skip ?_) | (refine awp_if rfl (fun h hp => ?_) (fun h hp => ?_))) | (show thenQ _ _ _ _; first | (refine k_n ?_) | (refine k_r ?_)) | (show blockQ _ _ _ _; first | (refine b_r ?_)))
      all_goals first
        | (exfalso; omega)
        | exact iw_at [] (ih (i + 1) ⟨hlt, by rw [take_snoc hx]; simp only [List.mem_append, List.mem_singleton, not_or]; exact ⟨h2, fun e => hxn e.symm⟩⟩ (by omega)) (by decide) rfl rfl rfl ⟨rfl, rfl, rfl, rfl, trivial⟩ trivial
  · have : decide (n ∈ l) = false := decide_eq_false (by rwa [List.take_of_length_le (by omega)] at h2)
    rw [this]
    repeat' (first | (refine aops_nil ?_) | (show AOps _ _ _ _ _ _; first | (show AOps _ _ _ _ (⟨some _, .assign _, _, _, _, none⟩ :: _) _; first | (refine o_y (v_assign (v := .sc _) rfl) rfl ?_)) | (show AOps _ _ _ _ (⟨some _, .binOp .add _ _ _ _, _, _, _, none⟩ :: _) _; first | (refine o_y (y_bin rfl rfl rfl) rfl ?_)) | (show AOps _ _ _ _ (⟨some _, .binOp _ _ _ _ _, _, _, _, none⟩ :: _) _; first | (refine o_y (y_bin rfl rfl rfl) rfl ?_)) | (show AOps _ _ _ _ (⟨some _, .indexAddr _ _ _, _, _, _, none⟩ :: _) _; first | (refine o_y (y_ix_vsl rfl rfl rfl (by omega) (by omega)) rfl ?_))) | (show IW _ _ _ _ _; first | (refine awp_seq ?_) | (refine awp_region ?_) | (refine awp_block ?_) | (refine awp_exit ?_) | (refine awp_ret ?_) | (refine awp_skip ?_) | (refine awp_if rfl (fun h hp => ?_) (fun h hp => ?_))))
    all_goals first | (exfalso; omega) | exact ret1 [] (by decide) rfl rfl
theorem listR_spec (l : List Ro) (hl : l.length ≤ 16) : ACalls Try.prog 45 [dV l] ⟨0, []⟩ (fun r S => r = .sl 0 0 l.length ∧ S = ⟨1, [(0, some ⟨ens l, 15, 92⟩)]⟩) := by
  unfold dV
  refine enter1 Try.func45 rfl 22 0 [.tmp 2] rfl rfl rfl ?_
  repeat' (first | (refine aops_nil ?_) | (show AOps _ _ _ _ _ _; first | (show AOps _ _ _ _ (⟨some _, .assign _, _, _, _, none⟩ :: _) _; first | (refine o_y (v_assign (v := .sc _) rfl) rfl ?_))) | (show IW _ _ [.code (.seq _ _)] _ _; first | (show AWP _ _ (.seq (.seq _ _) _) _ _; refine awp_seq ?_) | (show AWP _ _ (.seq (.region 0 _ _) _) _ _; refine awp_seq ?_) | (show AWP _ _ (.seq (.region 1 _ _) _) _ _; refine awp_seq ?_)) | (show IW _ _ _ _ _; first | (refine awp_region ?_)))
  refine iw_nil 3 15 92 rfl ?_
  repeat' (first | (refine aops_nil ?_) | (show AOps _ _ _ _ _ _; first | (show AOps _ _ _ _ (⟨some _, .move _, _, _, _, none⟩ :: _) _; first | (refine o_y (v_move (v := .sc _) rfl) rfl ?_) | (refine o_y (v_move (v := .vptr _ _) rfl) rfl ?_)) | (show AOps _ _ _ _ (⟨some _, .load _ _, _, _, _, none⟩ :: _) _; first | (refine o_y (y_vload1 (v := .vsl _ _ _ _) rfl rfl) rfl ?_)) | (show AOps _ _ _ _ (⟨some _, .fieldAddr _ _ _, _, _, _, none⟩ :: _) _; first | (refine o_y (y_fld_vptr rfl rfl) rfl ?_)) | (show AOps _ _ _ _ (⟨some _, .nilCheck _, _, _, _, none⟩ :: _) _; first | (refine o_y (y_nil_vptr rfl) rfl ?_)) | (show AOps _ _ _ _ (⟨some _, .call ⟨.builtin .len, _, _⟩, _, _, _, none⟩ :: _) _; first | (refine o_y (y_lenV rfl) rfl ?_))) | (show IW _ _ [.code (.seq _ _)] _ _; first | (show AWP _ _ (.seq (.region _ _ _) _) _ _; refine awp_seq ?_)) | (show IW _ _ _ _ _; first | (refine awp_region ?_) | (refine awp_block ?_)))
  refine awp_loopI (fun i : Nat => i ≤ l.length) (fun i => l.length - i) (fun i => [(3, .sl 0 0 (l.take i).length), (9, .vsl (rws l) 16 0 l.length), (10, .sc (.int .i64 l.length)), (11, .sc (.int .i64 i))]) 1 (fun i => [(0, some ⟨ens (l.take i), 15, 92⟩)]) 0 [0] (by decide) rfl rfl rfl (Nat.zero_le _) ⟨rfl, rfl, rfl, rfl, trivial⟩ ⟨rfl, rfl, trivial⟩ ?_
  rintro i h1 ih
  have hle : (l.take i).length ≤ 16 := by rw [List.length_take]; omega
  have hL := ens_length (l.take i)
  by_cases hlt : i < l.length
  · obtain ⟨e, he⟩ : ∃ e, l[i]? = some e := ⟨_, List.getElem?_eq_getElem hlt⟩
    have ve := rws_at he
    have hr := take_snoc he
    repeat' (first | (refine aops_nil ?_) | (show AOps _ _ _ _ _ _; first | (show AOps _ _ _ _ (⟨some _, .move _, _, _, _, none⟩ :: _) _; first | (refine o_y (v_move (v := .sc _) rfl) rfl ?_) | (refine o_y (v_move (v := .sl _ _ _) rfl) rfl ?_)) | (show AOps _ _ _ _ (⟨some _, .load _ _, _, _, _, none⟩ :: _) _; first | (refine o_y (y_loadA rfl rfl rfl) rfl ?_) | (refine o_y (y_vloadE rfl (by assumption) (by rfl) rfl) rfl ?_)) | (show AOps _ _ _ _ (⟨some _, .fieldAddr _ _ _, _, _, _, none⟩ :: _) _; first | (refine o_y (y_fld_ptr rfl rfl) rfl ?_)) | (show AOps _ _ _ _ (⟨some _, .assign _, _, _, _, none⟩ :: _) _; first | (refine o_y (v_assign (v := .sl _ _ _) rfl) rfl ?_)) | (show AOps _ _ _ _ (⟨some _, .binOp .add _ _ _ _, _, _, _, none⟩ :: _) _; first | (refine o_y (z_add rfl rfl (by omega) (by omega)) rfl ?_) | (refine o_y (y_bin rfl rfl rfl) rfl ?_)) | (show AOps _ _ _ _ (⟨some _, .binOp _ _ _ _ _, _, _, _, none⟩ :: _) _; first | (refine o_y (y_bin rfl rfl rfl) rfl ?_)) | (show AOps _ _ _ _ (⟨some _, .indexAddr _ _ _, _, _, _, none⟩ :: _) _; first | (refine o_y (y_ix_vsl rfl rfl rfl (by omega) (by omega)) rfl ?_)) | (show AOps _ _ _ _ (⟨_, .store _ _ _, _, _, _, none⟩ :: _) _; first | (refine o_x (s_storeW rfl rfl rfl rfl rfl (by first | rfl | assumption) ?_))) | (show AOps _ _ _ _ (⟨_, .alloc _, _, _, _, none⟩ :: _) _; first | (refine o_x (a_new (by first | (simp only [AV.ofV, AV.cells, List.map_cons, List.map_nil]; rfl) | rfl) rfl rfl rfl ?_))) | (show AOps _ _ _ _ (⟨_, .buildSlice _ _ _, _, _, _, none⟩ :: _) _; first | (refine o_x (x_buildSlice (cs := e.en) (by rfl) (by rfl) (by rfl) (by rfl) (by rfl) (by rfl) rfl ?_))) | (show AOps _ _ _ _ (⟨_, .call ⟨.builtin .append, _, _⟩, _, _, _, none⟩ :: _) _; first | (refine o_x (x_append (X := .sl _ _ _) rfl rfl rfl (by first | rfl | assumption | exact prs_length _ | exact strs_len1 _ | exact byts_len1 _ | exact nums_len1 _ | (simp only [byts_length, strs_length, ints_length, prs_length, List.length_append, List.length_cons, List.length_nil]; omega)) (src_sl rfl (by first | exact Nat.le_of_ble_eq_true rfl | (simp only [strs_length, byts_length]; omega)) (by first | exact take_strs _ | exact take_byts _ | rfl | exact take_bytsE _ _ (by simp only [byts_length, ints_length, List.length_append, List.length_cons, List.length_nil]; omega) | exact take_strsE _ _ (by simp only [strs_length, List.length_append, List.length_cons, List.length_nil]; omega) | (simp; done)) (by first | rfl | exact strs_one _ | exact byts_one _ | exact prs_one _)) rfl rfl (by omega) (by omega) (by first | exact ens_snoc (l.take i) e | exact prs_snoc _ _ _ | exact strs_snoc _ _ | exact byts_snoc _ _ | exact nums_snoc _ _ | exact strs_append _ _ | exact byts_append _ _ | exact byts_snoc [] _ | exact strs_snoc [] _ | exact byts_append [] _ | exact strs_append [] _ | exact byts_append _ [_, _] | rfl) (by first | exact Nat.zero_add _ | rfl) ?_)))) | (show IW _ _ _ _ _; first | (refine awp_seq ?_) | (refine awp_region ?_) | (refine awp_block ?_) | (refine awp_exit ?_) | (refine awp_ret ?_) | (refine awp_skip ?_) | (refine awp_if rfl (fun h hp => ?_) (fun h hp => ?_))) | (show thenQ _ _ _ _; first | (refine k_n ?_)))
    all_goals first
      | (exfalso; omega)
      | exact iw_at [3] (ih (i + 1) hlt (by omega)) (by decide) rfl rfl rfl ⟨by rw [hr, List.length_append]; rfl, rfl, rfl, rfl, trivial⟩ ⟨rfl, by rw [hr]; exact blk_fl rfl (ens_flat _), trivial⟩
  · have : l.take i = l := List.take_of_length_le (by omega)
    rw [this]
    repeat' (first | (refine aops_nil ?_) | (show AOps _ _ _ _ _ _; first | (show AOps _ _ _ _ (⟨some _, .move _, _, _, _, none⟩ :: _) _; first | (refine o_y (v_move (v := .sl _ _ _) rfl) rfl ?_)) | (show AOps _ _ _ _ (⟨some _, .assign _, _, _, _, none⟩ :: _) _; first | (refine o_y (v_assign (v := .sl _ _ _) rfl) rfl ?_)) | (show AOps _ _ _ _ (⟨some _, .binOp .add _ _ _ _, _, _, _, none⟩ :: _) _; first | (refine o_y (y_bin rfl rfl rfl) rfl ?_)) | (show AOps _ _ _ _ (⟨some _, .binOp _ _ _ _ _, _, _, _, none⟩ :: _) _; first | (refine o_y (y_bin rfl rfl rfl) rfl ?_)) | (show AOps _ _ _ _ (⟨some _, .indexAddr _ _ _, _, _, _, none⟩ :: _) _; first | (refine o_y (y_ix_vsl rfl rfl rfl (by omega) (by omega)) rfl ?_))) | (show IW _ _ _ _ _; first | (refine awp_seq ?_) | (refine awp_region ?_) | (refine awp_block ?_) | (refine awp_exit ?_) | (refine awp_ret ?_) | (refine awp_skip ?_) | (refine awp_if rfl (fun h hp => ?_) (fun h hp => ?_))))
    all_goals first | (exfalso; omega) | exact ret1 [0] (by decide) rfl ⟨rfl, hp_is ⟨rfl, (by first | rfl | exact blk_fl rfl (ens_flat _)), trivial⟩⟩
theorem entry_spec (e : Ro) : ACalls Try.prog 46 [.agg e.en] ⟨0, []⟩ (fun r _ => r = .agg e.en) := by
  refine enter1 Try.func46 rfl 4 0 [.cell 2 56] rfl rfl rfl ?_
  repeat' (first | (refine aops_nil ?_) | (show AOps _ _ _ _ _ _; first | (show AOps _ _ _ _ (⟨some _, .load _ _, _, _, _, none⟩ :: _) _; first | (refine o_y (y_loadW rfl rfl rfl) rfl ?_)) | (show AOps _ _ _ _ (⟨_, .store _ _ _, _, _, _, none⟩ :: _) _; first | (refine o_x (s_storeW rfl rfl rfl rfl rfl (by first | rfl | assumption) ?_))) | (show AOps _ _ _ _ (⟨_, .box _ _, _, _, _, none⟩ :: _) _; first | (refine o_x (b_agg rfl rfl rfl ?_))) | (show AOps _ _ _ _ (⟨_, .alloc _, _, _, _, none⟩ :: _) _; first | (refine o_x (a_new (by first | (simp only [AV.ofV, AV.cells, List.map_cons, List.map_nil]; rfl) | rfl) rfl rfl rfl ?_)))) | (show IW _ _ _ _ _; first | (refine awp_seq ?_) | (refine awp_region ?_) | (refine awp_ret ?_)))
  all_goals exact retc1 [] (by decide) rfl rfl rfl rfl rfl
end Go.Proofs.Ytcidoghpacihpaa.Sx
namespace Go.Proofs.Ytcidoghpacihpaa.Sx
open Go Go.RowKit
attribute [local irreducible] IW AOps AQuiet GQ GY AExec QY Yld ACalls ACallsD
structure DH (d k : Nat) (l : List Ro) (S : Hp) : Prop where
  tb : find d S.bs = some ⟨[.sl k 0 l.length], 1, 91⟩
  rw : find k S.bs = some ⟨rws l, 16, 94⟩
  ne : d ≠ k
  ld : d < S.nxt
  lk : k < S.nxt
theorem DH.keep {d k : Nat} {l : List Ro} {S S' : Hp} {x : Nat → Prop} (h : DH d k l S) (hf : Fr S S' x) (h1 : ¬ x d) (h2 : ¬ x k) : DH d k l S' :=
  ⟨(hf.2 d h.ld h1).trans h.tb, (hf.2 k h.lk h2).trans h.rw, h.ne, Nat.lt_of_lt_of_le h.ld hf.1, Nat.lt_of_lt_of_le h.lk hf.1⟩
theorem frzD {d k : Nat} {l : List Ro} {S : Hp} (h : DH d k l S) : FrzS S (.ptr d 0) (dV l) := fun ρ Z F w u hp hr => by
  obtain ⟨g, hg, g0, rfl⟩ := hr
  obtain ⟨cur, h1, h2, h3, h4⟩ := hp.liveAt (b := ⟨[.sl k 0 l.length], 1, 91⟩) h.tb hg g0
  refine ⟨g.blk, 0, cur, 91, (0, 0), by simp, h1, ?_⟩
  rw [List.drop_zero]
  have hs := frzS_of (frz_sl (o := 0) (len := l.length) h.rw (rws_flat l) (by rw [rws_length]; omega)) ρ Z F w
  generalize cur.toList = us at h4
  match us, h4 with
  | x :: _, ⟨ha, _⟩ => exact ⟨hs x hp ha, trivial⟩
theorem DH.psh {d k : Nat} {l : List Ro} {n : Nat} {bs : List (Nat × Option Blk)} (h : DH d k l ⟨n, bs⟩) {i m : Nat} (b : Option Blk) (hk : n ≤ i) (hm : n ≤ m) : DH d k l ⟨m, (i, b) :: bs⟩ :=
  h.keep (x := fun _ => False) ((Fr.refl _ _).push (k := i) (m := m) (.inr hk) hm) (by simp) (by simp)
theorem DH.psh2 {d k : Nat} {l : List Ro} {n : Nat} {bs : List (Nat × Option Blk)} (h : DH d k l ⟨n, bs⟩) (b b' : Option Blk) : DH d k l ⟨n + 1, (n, b) :: (n, b') :: bs⟩ :=
  h.keep (x := fun _ => False) (((Fr.refl _ _).push (k := n) (m := n + 1) (.inr (Nat.le_refl _)) (Nat.le_succ _)).push (k := n) (m := n + 1) (.inr (Nat.le_refl _)) (Nat.le_refl _)) (by simp) (by simp)
theorem fr3 {n : Nat} {bs : List (Nat × Option Blk)} (b b' b'' : Option Blk) : Fr ⟨n, bs⟩ ⟨n + 1, (n, b) :: (n, b') :: (n, b'') :: bs⟩ (fun _ => False) := (((Fr.refl _ _).push (k := n) (m := n + 1) (.inr (Nat.le_refl _)) (Nat.le_succ _)).push (k := n) (m := n + 1) (.inr (Nat.le_refl _)) (Nat.le_refl _)).push (k := n) (m := n + 1) (.inr (Nat.le_refl _)) (Nat.le_refl _)
/-- Below an association. -/
inductive Ds (l : List Ro) (id : Int) : Int → Prop
  | base : Ds l id id
  | step {r : Ro} : r ∈ l → Ds l id r.par → Ds l id r.id
structure Bel (l : List Ro) (id : Int) (L : List Int) : Prop where
  me : id ∈ L
  cl : ∀ r ∈ l, r.par ∈ L → r.id ∈ L
  ds : ∀ n ∈ L, Ds l id n
theorem nodup_le : ∀ {L M : List Int}, L.Nodup → (∀ n ∈ L, n ∈ M) → L.length ≤ M.length
  | [], _, _, _ => Nat.zero_le _
  | a :: L, M, hn, hs => by
    obtain ⟨M1, M2, rfl⟩ := List.append_of_mem (hs a (by simp))
    rw [List.nodup_cons] at hn
    have := nodup_le (L := L) (M := M1 ++ M2) hn.2 fun n h => by
      have h1 := hs n (by simp [h])
      simp only [List.mem_append, List.mem_cons] at h1 ⊢
      rcases h1 with h1 | h1 | h1
      · exact .inl h1
      · subst h1; exact absurd h hn.1
      · exact .inr h1
    simp only [List.length_append, List.length_cons] at this ⊢
    omega
/-- While it is found: the first i have been looked at. -/
structure BelI (l : List Ro) (id : Int) (L : List Int) (i : Nat) : Prop where
  le : i ≤ L.length
  me : id ∈ L
  nd : L.Nodup
  sb : ∀ n ∈ L, n ∈ id :: l.map Ro.id
  ds : ∀ n ∈ L, Ds l id n
  cl : ∀ r ∈ l, r.par ∈ L.take i → r.id ∈ L
theorem BelI.len {l : List Ro} {id : Int} {L : List Int} {i : Nat} (h : BelI l id L i) : L.length ≤ l.length + 1 := by
  have := nodup_le h.nd h.sb
  simpa using this
theorem BelI.start (l : List Ro) (id : Int) : BelI l id [id] 0 := ⟨by simp, by simp, by simp, by simp, fun n h => by
  have : n = id := by simpa using h
  subst this
  exact .base, fun r _ h => by simp at h⟩
theorem BelI.fin {l : List Ro} {id : Int} {L : List Int} (h : BelI l id L L.length) : Bel l id L := ⟨h.me, fun r hr hp => h.cl r hr (by rwa [List.take_length]), h.ds⟩
/-- .. and of the i-th one the first j rows. -/
structure BelJ (l : List Ro) (id : Int) (L : List Int) (i : Nat) (c : Int) (j : Nat) : Prop where
  b : BelI l id L i
  at_ : L[i]? = some c
  le : j ≤ l.length
  cj : ∀ q r, q < j → l[q]? = some r → r.par = c → r.id ∈ L
theorem BelJ.no {l : List Ro} {id : Int} {L : List Int} {i j : Nat} {c : Int} (h : BelJ l id L i c j) {r : Ro} (hr : l[j]? = some r) (hn : r.par = c → r.id ∈ L) : BelJ l id L i c (j + 1) :=
  ⟨h.b, h.at_, (List.getElem?_eq_some_iff.1 hr).1, fun q x hq hx hc => by
    by_cases e : q = j
    · subst e
      rw [hr] at hx
      cases hx
      exact hn hc
    · exact h.cj q x (by omega) hx hc⟩
theorem BelJ.yes {l : List Ro} {id : Int} {L : List Int} {i j : Nat} {c : Int} (h : BelJ l id L i c j) {r : Ro} (hr : l[j]? = some r) (hc : r.par = c) (hL : r.id ∉ L) : BelJ l id (L ++ [r.id]) i c (j + 1) := by
  have hm := List.mem_of_getElem? hr
  have hi : i < L.length := (List.getElem?_eq_some_iff.1 h.at_).1
  refine ⟨⟨?_, ?_, ?_, ?_, ?_, ?_⟩, ?_, (List.getElem?_eq_some_iff.1 hr).1, ?_⟩
  · rw [List.length_append]; omega
  · exact List.mem_append_left _ h.b.me
  · rw [List.nodup_append]
    refine ⟨h.b.nd, by simp, fun a ha b hb e => hL ?_⟩
    have : b = r.id := by simpa using hb
    rw [← this, ← e]
    exact ha
  · intro n hn
    rcases List.mem_append.1 hn with hn | hn
    · exact h.b.sb n hn
    · have : n = r.id := by simpa using hn
      subst this
      exact List.mem_cons_of_mem _ (List.mem_map_of_mem hm)
  · intro n hn
    rcases List.mem_append.1 hn with hn | hn
    · exact h.b.ds n hn
    · have : n = r.id := by simpa using hn
      subst this
      exact .step hm (hc ▸ h.b.ds c (List.mem_of_getElem? h.at_))
  · intro x hx hp
    rw [List.take_append_of_le_length (by omega)] at hp
    exact List.mem_append_left _ (h.b.cl x hx hp)
  · rw [List.getElem?_append_left hi]
    exact h.at_
  · intro q x hq hx hxc
    by_cases e : q = j
    · subst e
      rw [hr] at hx
      cases hx
      exact List.mem_append_right _ (by simp)
    · exact List.mem_append_left _ (h.cj q x (by omega) hx hxc)
theorem BelJ.start {l : List Ro} {id : Int} {L : List Int} {i : Nat} {c : Int} (h : BelI l id L i) (hc : L[i]? = some c) : BelJ l id L i c 0 := ⟨h, hc, Nat.zero_le _, fun q _ hq => by omega⟩
theorem BelJ.fin {l : List Ro} {id : Int} {L : List Int} {i : Nat} {c : Int} (h : BelJ l id L i c l.length) : BelI l id L (i + 1) :=
  ⟨(List.getElem?_eq_some_iff.1 h.at_).1, h.b.me, h.b.nd, h.b.sb, h.b.ds, fun r hr hp => by
    rw [take_snoc h.at_, List.mem_append] at hp
    rcases hp with hp | hp
    · exact h.b.cl r hr hp
    · obtain ⟨q, hq, e⟩ := List.getElem_of_mem hr
      exact h.cj q r hq (by rw [List.getElem?_eq_getElem hq, e]) (by simpa using hp)⟩
/-- What is below an association is found. -/
def BelR (l : List Ro) (id : Int) (S : Hp) (r : AV) (S' : Hp) : Prop := ∃ L b, r = .sl b 0 L.length ∧ find b S'.bs = some ⟨nums L, 1, 3⟩ ∧ S.nxt ≤ b ∧ b < S'.nxt ∧ Fr S S' (fun _ => False) ∧ L.length ≤ 17 ∧ Bel l id L
set_option maxHeartbeats 4000000 in
theorem below_spec {d k : Nat} {l : List Ro} {S : Hp} (hD : DH d k l S) (hl : l.length ≤ 16) (id : Int) : ACalls Try.prog 54 [.ptr d 0, .sc (.int .i64 id)] S (BelR l id S) := by
  obtain ⟨n, bs⟩ := S
  refine enterA2 Try.func54 rfl 57 [.tmp 4] rfl rfl ?_
  repeat' (first | (refine aops_nil ?_) | (show AOps _ _ _ _ _ _; first | (show AOps _ _ _ _ (⟨some _, .move _, _, _, _, none⟩ :: _) _; first | (refine o_y (v_move (v := .sc _) rfl) rfl ?_)) | (show AOps _ _ _ _ (⟨some _, .assign _, _, _, _, none⟩ :: _) _; first | (refine o_y (v_assign (v := .sc _) rfl) rfl ?_) | (refine o_y (v_assign (v := .sl _ _ _) rfl) rfl ?_)) | (show AOps _ _ _ _ (⟨_, .buildSlice _ _ _, _, _, _, none⟩ :: _) _; first | (refine o_x (x_buildSlice (cs := [.sc (.int .i64 id)]) (by rfl) (by rfl) (by rfl) (by rfl) (by rfl) (by rfl) rfl ?_)))) | (show IW _ _ [.code (.seq _ _)] _ _; first | (show AWP _ _ (.seq (.region _ _ _) _) _ _; refine awp_seq ?_) | (show AWP _ _ (.seq (.seq _ _) _) _ _; refine awp_seq ?_)) | (show IW _ _ _ _ _; first | (refine awp_region ?_) | (refine awp_block ?_)))
  refine awp_loopA (fun x : Nat × List Int × Nat × Hp => BelI l id x.2.1 x.1 ∧ DH d k l x.2.2.2 ∧ find x.2.2.1 x.2.2.2.bs = some ⟨nums x.2.1, 1, 3⟩ ∧ n ≤ x.2.2.1 ∧ x.2.2.1 < x.2.2.2.nxt ∧ Fr ⟨n, bs⟩ x.2.2.2 (fun _ => False)) (fun x => 18 - x.1) (fun x => [(0, .ptr d 0), (1, .sc (.int .i64 id)), (5, .sl x.2.2.1 0 x.2.1.length), (6, .sc (.int .i64 x.1))]) (fun x => x.2.2.2)
    (0, [id], n, ⟨n + 1, (n, some ⟨nums [id], 1, 3⟩) :: bs⟩) rfl ⟨BelI.start l id, hD.psh _ (Nat.le_refl _) (Nat.le_succ _), find_at _ _ _, Nat.le_refl _, Nat.lt_succ_self _, (Fr.refl _ _).push (.inr (Nat.le_refl _)) (Nat.le_succ _)⟩ ⟨rfl, rfl, rfl, rfl, trivial⟩ (hpEq_refl _) ?_
  rintro ⟨i, L, b, ⟨m, cs⟩⟩ ⟨h1, h2, h3, h4, h5, h6⟩ ih
  dsimp only at h1 h2 h3 h4 h5 h6 ih ⊢
  have hlen := h1.len
  have hile := h1.le
  have htb := h2.tb
  have hdm := h2.ld
  dsimp only at htb hdm
  by_cases hi : i < L.length
  · obtain ⟨c, hc⟩ : ∃ c, L[i]? = some c := ⟨_, List.getElem?_eq_getElem hi⟩
    repeat' (first | (refine aops_nil ?_) | (show AOps _ _ _ _ _ _; first | (show AOps _ _ _ _ (⟨some _, .move _, _, _, _, none⟩ :: _) _; first | (refine o_y (v_move (v := .sc _) rfl) rfl ?_) | (refine o_y (v_move (v := .ptr _ _) rfl) rfl ?_) | (refine o_y (v_move (v := .sl _ _ _) rfl) rfl ?_)) | (show AOps _ _ _ _ (⟨some _, .load _ _, _, _, _, none⟩ :: _) _; first | (refine o_y (y_load1 (v := .sl _ _ _) rfl (by first | rfl | (repeat (first | assumption | exact find_at _ _ _ | refine find_sk (by omega) ?_))) (by rfl)) rfl ?_)) | (show AOps _ _ _ _ (⟨some _, .fieldAddr _ _ _, _, _, _, none⟩ :: _) _; first | (refine o_y (y_fld_ptr rfl rfl) rfl ?_)) | (show AOps _ _ _ _ (⟨some _, .nilCheck _, _, _, _, none⟩ :: _) _; first | (refine o_y (y_nil_ptr rfl) rfl ?_)) | (show AOps _ _ _ _ (⟨some _, .binOp _ _ _ _ _, _, _, _, none⟩ :: _) _; first | (refine o_y (y_bin rfl rfl rfl) rfl ?_)) | (show AOps _ _ _ _ (⟨some _, .call ⟨.builtin .len, _, _⟩, _, _, _, none⟩ :: _) _; first | (refine o_y (y_lenL rfl) rfl ?_))) | (show IW _ _ [.code (.seq _ _)] _ _; first | (show AWP _ _ (.seq (.region _ _ _) _) _ _; refine awp_seq ?_) | (show AWP _ _ (.seq (.block _ _) _) _ _; refine awp_seq ?_) | (show AWP _ _ (.seq (.seq _ _) _) _ _; refine awp_seq ?_)) | (show IW _ _ _ _ _; first | (refine awp_region ?_) | (refine awp_block ?_) | (refine awp_exit ?_) | (refine awp_skip ?_) | (refine awp_if rfl (fun h hp => ?_) (fun h hp => ?_))))
    all_goals try (exfalso; omega)
    refine awp_loopA (fun x : Nat × List Int × Nat × Hp => BelJ l id x.2.1 i c x.1 ∧ DH d k l x.2.2.2 ∧ find x.2.2.1 x.2.2.2.bs = some ⟨nums x.2.1, 1, 3⟩ ∧ n ≤ x.2.2.1 ∧ x.2.2.1 < x.2.2.2.nxt ∧ Fr ⟨n, bs⟩ x.2.2.2 (fun _ => False)) (fun x => l.length - x.1) (fun x => [(0, .ptr d 0), (1, .sc (.int .i64 id)), (5, .sl x.2.2.1 0 x.2.1.length), (6, .sc (.int .i64 i)), (20, .sl k 0 l.length), (21, .sc (.int .i64 l.length)), (22, .sc (.int .i64 x.1))]) (fun x => x.2.2.2)
      (0, L, b, ⟨m, cs⟩) rfl ⟨BelJ.start h1 hc, h2, h3, h4, h5, h6⟩ ⟨rfl, rfl, rfl, rfl, rfl, rfl, rfl, trivial⟩ (hpEq_refl _) ?_
    clear hlen hile htb hdm h1 h2 h3 h4 h5 h6 hc hi
    rintro ⟨j, L, b, ⟨m, cs⟩⟩ ⟨q1, q2, q3, q4, q5, q6⟩ ih2
    dsimp only at q1 q2 q3 q4 q5 q6 ih2 ⊢
    have hlen := q1.b.len
    have hjle := q1.le
    have hi : i < L.length := (List.getElem?_eq_some_iff.1 q1.at_).1
    have hrw := q2.rw
    have hkm := q2.lk
    dsimp only at hrw hkm
    by_cases hj : j < l.length
    · obtain ⟨r, hr⟩ : ∃ r, l[j]? = some r := ⟨_, List.getElem?_eq_getElem hj⟩
      have vr := rws_at hr
      have vc : (nums L)[(0 + Int.toNat i) * 1]? = some (.sc (.int .i64 c)) := by rw [Nat.zero_add, Nat.mul_one]; exact nums_at q1.at_
      have hnl : (nums L).length = L.length * 1 := nums_len1 _
      repeat' (first | (refine aops_nil ?_) | (show AOps _ _ _ _ _ _; first | (show AOps _ _ _ _ (⟨some _, .load _ _, _, _, _, none⟩ :: _) _; first | (refine o_y (y_loadE rfl (by first | rfl | (repeat (first | assumption | exact find_at _ _ _ | refine find_sk (by omega) ?_))) (by assumption) (by rfl) (by rfl)) rfl ?_)) | (show AOps _ _ _ _ (⟨some _, .binOp _ _ _ _ _, _, _, _, none⟩ :: _) _; first | (refine o_y (y_bin rfl rfl rfl) rfl ?_)) | (show AOps _ _ _ _ (⟨some _, .indexAddr _ _ _, _, _, _, none⟩ :: _) _; first | (refine o_y (y_ix_sl rfl rfl (by first | rfl | (repeat (first | assumption | exact find_at _ _ _ | refine find_sk (by omega) ?_))) (by rfl) (by omega) (by omega)) rfl ?_)) | (show AOps _ _ _ _ (⟨_, .store _ _ _, _, _, _, none⟩ :: _) _; first | (refine o_x (s_storeW rfl rfl (by first | rfl | (repeat (first | assumption | exact find_at _ _ _ | refine find_sk (by omega) ?_))) (by rfl) (by rfl) (by first | rfl | assumption) ?_))) | (show AOps _ _ _ _ (⟨_, .alloc _, _, _, _, none⟩ :: _) _; first | (refine o_x (a_new (by first | (simp only [AV.ofV, AV.cells, List.map_cons, List.map_nil]; rfl) | rfl) rfl rfl rfl ?_)))) | (show IW _ _ [.code (.seq _ _)] _ _; first | (show AWP _ _ (.seq (.cond _ _ _) _) _ _; refine awp_seq ?_) | (show AWP _ _ (.seq (.block _ _) _) _ _; refine awp_seq ?_) | (show AWP _ _ (.seq (.region 6 _ _) _) _ _; refine awp_seq ?_) | (show AWP _ _ (.seq (.region 7 _ _) _) _ _; refine awp_seq ?_)) | (show IW _ _ _ _ _; first | (refine awp_region ?_) | (refine awp_block ?_) | (refine awp_exit ?_) | (refine awp_skip ?_) | (refine awp_if rfl (fun h hp => ?_) (fun h hp => ?_))) | (show thenQ _ _ _ _; first | (refine k_n ?_)))
      all_goals try (exfalso; omega)
      refine iw_frzP 8 m rfl (find_at _ _ _) rfl ?_
      have hfz : ∀ S : Hp, find b S.bs = some ⟨nums L, 1, 3⟩ → FrzSL S [.sl b 0 L.length, .sc (.int .i64 r.id)] [.vsl (nums L) 1 0 L.length, .sc (.int .i64 r.id)] := fun S hb => ⟨frzS_of (frz_sl (o := 0) (len := L.length) hb (nums_flat _) (by rw [nums_len1]; omega)), frzS_of rfl, trivial⟩
      have hM : L.length ≤ maxLen := Nat.le_trans (show L.length ≤ 17 by omega) (by decide)
      have h3' : Fr ⟨m, cs⟩ ⟨m + 1, (m, none) :: (m, some ⟨r.cs, 16, 94⟩) :: (m, some ⟨(zRo).cs, 16, 94⟩) :: cs⟩ (fun _ => False) := fr3 _ _ _
      refine awp_cutA [(0, .ptr d 0), (1, .sc (.int .i64 id)), (5, .sl b 0 L.length), (6, .sc (.int .i64 i)), (20, .sl k 0 l.length), (21, .sc (.int .i64 l.length)), (22, .sc (.int .i64 j)), (8, .vptr r.cs 0), (48, .sc (.bool ((r.par == c) && ((r.id != id) && !decide (r.id ∈ L)))))] ⟨m + 1, (m, none) :: (m, some ⟨r.cs, 16, 94⟩) :: (m, some ⟨(zRo).cs, 16, 94⟩) :: cs⟩ ?_ ?_
      · repeat' (first | (show AWP _ _ (.region 8 _ true) _ _; refine awp_draw 23 (by kernel_rfl) ?_) | (refine aops_nil ?_) | (refine aq_nil ?_) | (show AQuiet _ _ _ _ _ _; first | (show AQuiet _ _ _ (⟨some _, .move _, _, _, _, none⟩ :: _) _ _; first | (refine q_y (v_move (v := .sc _) rfl) rfl ?_) | (refine q_y (v_move (v := .sl _ _ _) rfl) rfl ?_)) | (show AQuiet _ _ _ (⟨some _, .load _ _, _, _, _, none⟩ :: _) _ _; first | (refine q_y (y_vload1 (v := .sc _) rfl rfl) rfl ?_) | (refine q_y (y_load1 rfl (by first | rfl | (repeat (first | assumption | exact find_at _ _ _ | refine find_sk (by omega) ?_))) (by assumption)) rfl ?_)) | (show AQuiet _ _ _ (⟨some _, .fieldAddr _ _ _, _, _, _, none⟩ :: _) _ _; first | (refine q_y (y_fld_vptr rfl rfl) rfl ?_)) | (show AQuiet _ _ _ (⟨some _, .binOp _ _ _ _ _, _, _, _, none⟩ :: _) _ _; first | (refine q_y (y_bin rfl rfl rfl) rfl ?_)) | (show AQuiet _ _ _ (⟨some _, .pick _ _ _, _, _, _, none⟩ :: _) _ _; first | (refine q_y (v_pick_t (v := .sc _) rfl (by first | rfl | assumption | exact beq_self_eq_true _ | exact decide_eq_true rfl) rfl) rfl ?_) | (refine q_y (v_pick_f (v := .sc _) rfl (by first | rfl | assumption) rfl) rfl ?_)) | (show AQuiet _ _ _ (⟨some _, .unOp _ _ _, _, _, _, none⟩ :: _) _ _; first | (refine q_y (y_not rfl) rfl ?_)) | (show AQuiet _ _ _ (⟨some _, .indexAddr _ _ _, _, _, _, none⟩ :: _) _ _; first | (refine q_y (y_ix_sl rfl rfl (by first | rfl | (repeat (first | assumption | exact find_at _ _ _ | refine find_sk (by omega) ?_))) (by rfl) (by omega) (by omega)) rfl ?_)) | (show AQuiet _ _ _ (⟨some _, .call ⟨.value (.func 57), _, _⟩, _, _, _, none⟩ :: _) _ _; refine q_c (q_callS (hasR_spec L hM r.id) (hfz _ (by repeat (first | assumption | exact find_at _ _ _ | refine find_sk (by omega) ?_)))) rfl ?_) | (show AQuiet _ _ _ (⟨_, _, _, _, _, some (_, _)⟩ :: _) _ _; first | (refine q_g_t rfl rfl rfl (by first | rfl | assumption | exact beq_self_eq_true _ | exact decide_eq_true rfl) ?_) | (refine q_g_f rfl rfl rfl (by first | rfl | assumption) ?_) | (refine q_if rfl rfl rfl (fun h hp => ?_) (fun h hp => ?_)))) | (show thenQ _ _ _ _; first | (refine k_n ?_)))
        all_goals first
          | (exfalso; omega)
          | exact ⟨⟨rfl, rfl, rfl, rfl, rfl, rfl, rfl, rfl, congrArg (fun b => AV.sc (.bool b)) (by simp [*]), trivial⟩, rfl, hpEq_refl _⟩
      · by_cases hb : (r.par = c ∧ r.id ≠ id) ∧ r.id ∉ L
        · rw [show ((r.par == c) && ((r.id != id) && !decide (r.id ∈ L))) = true by simp [hb.1.1, hb.1.2, hb.2]]
          have hL : (nums L).length = L.length * 1 := nums_len1 _
          repeat' (first | (refine aops_nil ?_) | (show AOps _ _ _ _ _ _; first | (show AOps _ _ _ _ (⟨some _, .move _, _, _, _, none⟩ :: _) _; first | (refine o_y (v_move (v := .sc _) rfl) rfl ?_) | (refine o_y (v_move (v := .sl _ _ _) rfl) rfl ?_)) | (show AOps _ _ _ _ (⟨some _, .load _ _, _, _, _, none⟩ :: _) _; first | (refine o_y (y_vload1 (v := .sc _) rfl rfl) rfl ?_)) | (show AOps _ _ _ _ (⟨some _, .fieldAddr _ _ _, _, _, _, none⟩ :: _) _; first | (refine o_y (y_fld_vptr rfl rfl) rfl ?_)) | (show AOps _ _ _ _ (⟨some _, .assign _, _, _, _, none⟩ :: _) _; first | (refine o_y (v_assign (v := .sl _ _ _) rfl) rfl ?_)) | (show AOps _ _ _ _ (⟨some _, .binOp .add _ _ _ _, _, _, _, none⟩ :: _) _; first | (refine o_y (z_add rfl rfl (by omega) (by omega)) rfl ?_)) | (show AOps _ _ _ _ (⟨_, .buildSlice _ _ _, _, _, _, none⟩ :: _) _; first | (refine o_x (x_buildSlice (cs := [.sc (.int .i64 r.id)]) (by rfl) (by rfl) (by rfl) (by rfl) (by rfl) (by rfl) rfl ?_))) | (show AOps _ _ _ _ (⟨_, .call ⟨.builtin .append, _, _⟩, _, _, _, none⟩ :: _) _; first | (refine o_x (x_append (X := .sl _ _ _) rfl rfl (by first | rfl | (repeat (first | assumption | exact find_at _ _ _ | refine find_sk (by omega) ?_))) (by first | rfl | assumption | exact prs_length _ | exact strs_len1 _ | exact byts_len1 _ | exact nums_len1 _ | (simp only [byts_length, strs_length, ints_length, prs_length, List.length_append, List.length_cons, List.length_nil]; omega)) (src_sl (by first | rfl | (repeat (first | assumption | exact find_at _ _ _ | refine find_sk (by omega) ?_))) (by first | exact Nat.le_of_ble_eq_true rfl | (simp only [strs_length, byts_length]; omega)) (by first | exact take_strs _ | exact take_byts _ | rfl | exact take_bytsE _ _ (by simp only [byts_length, ints_length, List.length_append, List.length_cons, List.length_nil]; omega) | exact take_strsE _ _ (by simp only [strs_length, List.length_append, List.length_cons, List.length_nil]; omega) | (simp; done)) (by first | rfl | exact strs_one _ | exact byts_one _ | exact prs_one _)) (by rfl) (by rfl) (by omega) (by omega) (by first | exact nums_snoc L r.id | exact prs_snoc _ _ _ | exact strs_snoc _ _ | exact byts_snoc _ _ | exact nums_snoc _ _ | exact strs_append _ _ | exact byts_append _ _ | exact byts_snoc [] _ | exact strs_snoc [] _ | exact byts_append [] _ | exact strs_append [] _ | exact byts_append _ [_, _] | rfl) (by first | exact Nat.zero_add _ | rfl) ?_)))) | (show IW _ _ _ _ _; first | (refine awp_region ?_) | (refine awp_if_t rfl (by first | rfl | assumption | exact beq_self_eq_true _ | exact decide_eq_true rfl) ?_)) | (show thenQ _ _ _ _; first | (refine k_n ?_)))
          all_goals try (exfalso; omega)
          have hnm : n ≤ m := q6.1
          have h8 := (((q6.trans h3').push (b := some ⟨[.sc (.int .i64 r.id)], 1, 3⟩) (k := m + 1) (m := m + 1 + 1) (.inr (by dsimp only; omega)) (Nat.le_succ _)).push (b := none) (k := b) (m := m + 1 + 1) (.inr (by dsimp only; omega)) (Nat.le_refl _)).push (b := some ⟨nums (L ++ [r.id]), 1, 3⟩) (k := m + 1 + 1) (m := m + 1 + 1 + 1) (.inr (by dsimp only; omega)) (Nat.le_succ _)
          refine iw_atA (ih2 (j + 1, L ++ [r.id], m + 1 + 1, ⟨m + 1 + 1 + 1, _⟩) ⟨q1.yes hr hb.1.1 hb.2, hD.keep h8 (by simp) (by simp), find_at _ _ _, by dsimp only; omega, by dsimp only; omega, h8⟩ (by dsimp only; omega)) rfl ⟨rfl, rfl, by dsimp only; rw [List.length_append]; rfl, rfl, rfl, rfl, rfl, trivial⟩ (hpEq_refl _)
        · rw [show ((r.par == c) && ((r.id != id) && !decide (r.id ∈ L))) = false by
            have : r.par = c → r.id ≠ id → r.id ∈ L := fun h1 h2 => Decidable.byContradiction fun h3 => hb ⟨⟨h1, h2⟩, h3⟩
            by_cases h1 : r.par = c <;> by_cases h2 : r.id = id <;> simp [h1, h2, this]]
          have hq : r.par = c → r.id ∈ L := fun h1 => by
            by_cases h2 : r.id = id
            · rw [h2]; exact q1.b.me
            · exact Decidable.byContradiction fun h3 => hb ⟨⟨h1, h2⟩, h3⟩
          repeat' (first | (refine aops_nil ?_) | (show AOps _ _ _ _ _ _; first | (show AOps _ _ _ _ (⟨some _, .move _, _, _, _, none⟩ :: _) _; first | (refine o_y (v_move (v := .sc _) rfl) rfl ?_)) | (show AOps _ _ _ _ (⟨some _, .binOp .add _ _ _ _, _, _, _, none⟩ :: _) _; first | (refine o_y (z_add rfl rfl (by omega) (by omega)) rfl ?_))) | (show IW _ _ _ _ _; first | (refine awp_region ?_) | (refine awp_skip ?_) | (refine awp_if_f rfl (by first | rfl | assumption) ?_)) | (show thenQ _ _ _ _; first | (refine k_n ?_)))
          all_goals try (exfalso; omega)
          exact iw_atA (ih2 (j + 1, L, b, ⟨m + 1, _⟩) ⟨q1.no hr hq, q2.keep h3' (by simp) (by simp), find_sk (show m ≠ b by omega) (find_sk (show m ≠ b by omega) (find_sk (show m ≠ b by omega) q3)), q4, Nat.lt_succ_of_lt q5, q6.trans h3'⟩ (by dsimp only; omega)) rfl ⟨rfl, rfl, rfl, rfl, rfl, rfl, rfl, trivial⟩ (hpEq_refl _)
    · repeat' (first | (refine aops_nil ?_) | (show AOps _ _ _ _ _ _; first | (show AOps _ _ _ _ (⟨some _, .move _, _, _, _, none⟩ :: _) _; first | (refine o_y (v_move (v := .sc _) rfl) rfl ?_)) | (show AOps _ _ _ _ (⟨some _, .assign _, _, _, _, none⟩ :: _) _; first | (refine o_y (v_assign (v := .sc _) rfl) rfl ?_)) | (show AOps _ _ _ _ (⟨some _, .binOp .add _ _ _ _, _, _, _, none⟩ :: _) _; first | (refine o_y (z_add rfl rfl (by omega) (by omega)) rfl ?_) | (refine o_y (y_bin rfl rfl rfl) rfl ?_)) | (show AOps _ _ _ _ (⟨some _, .binOp _ _ _ _ _, _, _, _, none⟩ :: _) _; first | (refine o_y (y_bin rfl rfl rfl) rfl ?_))) | (show IW _ _ [.code (.seq _ _)] _ _; first | (show AWP _ _ (.seq (.region _ _ _) _) _ _; refine awp_seq ?_) | (show AWP _ _ (.seq (.cond _ _ _) _) _ _; refine awp_seq ?_) | (show AWP _ _ (.seq (.block _ _) _) _ _; refine awp_seq ?_)) | (show IW _ _ _ _ _; first | (refine awp_region ?_) | (refine awp_block ?_) | (refine awp_exit ?_) | (refine awp_skip ?_) | (refine awp_if rfl (fun h hp => ?_) (fun h hp => ?_))) | (show thenQ _ _ _ _; first | (refine k_n ?_)))
      all_goals try (exfalso; omega)
      obtain rfl : j = l.length := by omega
      exact iw_atA (ih (i + 1, L, b, ⟨m, cs⟩) ⟨q1.fin, q2, q3, q4, q5, q6⟩ (by dsimp only; omega)) rfl ⟨rfl, rfl, rfl, rfl, trivial⟩ (hpEq_refl _)
  · repeat' (first | (refine aops_nil ?_) | (show AOps _ _ _ _ _ _; first | (show AOps _ _ _ _ (⟨some _, .move _, _, _, _, none⟩ :: _) _; first | (refine o_y (v_move (v := .sc _) rfl) rfl ?_) | (refine o_y (v_move (v := .ptr _ _) rfl) rfl ?_) | (refine o_y (v_move (v := .sl _ _ _) rfl) rfl ?_)) | (show AOps _ _ _ _ (⟨some _, .assign _, _, _, _, none⟩ :: _) _; first | (refine o_y (v_assign (v := .sl _ _ _) rfl) rfl ?_)) | (show AOps _ _ _ _ (⟨some _, .binOp _ _ _ _ _, _, _, _, none⟩ :: _) _; first | (refine o_y (y_bin rfl rfl rfl) rfl ?_)) | (show AOps _ _ _ _ (⟨some _, .call ⟨.builtin .len, _, _⟩, _, _, _, none⟩ :: _) _; first | (refine o_y (y_lenL rfl) rfl ?_))) | (show IW _ _ _ _ _; first | (refine awp_seq ?_) | (refine awp_region ?_) | (refine awp_block ?_) | (refine awp_exit ?_) | (refine awp_ret ?_) | (refine awp_skip ?_) | (refine awp_if rfl (fun h hp => ?_) (fun h hp => ?_))))
    all_goals try (exfalso; omega)
    obtain rfl : i = L.length := by omega
    exact retA1 ⟨L, b, rfl, h3, h4, h5, h6, by omega, h1.fin⟩
end Go.Proofs.Ytcidoghpacihpaa.Sx
