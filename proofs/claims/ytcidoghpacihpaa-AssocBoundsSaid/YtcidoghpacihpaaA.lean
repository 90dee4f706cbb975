/- Associations in their slots: what a table is. What is read of a table: the first free slot; whether an address is taken; a slot by its number. -/
import Derived.Test.YtcidoghpacihpaaT
import Derived.Test.YtcidoghpacihpaaSx38
import Derived.KernelRfl
namespace Go.Proofs.Ytcidoghpacihpaa.Sx
open Go Go.RowKit
attribute [local irreducible] IW AOps AQuiet GQ GY AExec QY Yld ACalls ACallsD
structure As where
  kind : Int
  addr : Int
  key : Int
  minp : Int
  maxp : Int
  burst : Bool
  iburst : Bool
  prefer : Bool
  ttl : Int
  pulse : Bool
  fudge : Int
  stratum : Int
deriving DecidableEq
def As.cs (a : As) : List AV := [.sc (.int .i64 a.kind), .sc (.int .u32 a.addr), .sc (.int .i64 a.key), .sc (.int .i64 a.minp), .sc (.int .i64 a.maxp), .sc (.bool a.burst), .sc (.bool a.iburst), .sc (.bool a.prefer), .sc (.int .i64 a.ttl), .sc (.bool a.pulse), .sc (.int .i64 a.fudge), .sc (.int .i64 a.stratum)]
/-- An entry, and how far its last request went. -/
structure Ro where
  id : Int
  a : As
  par : Int
  ends : Int
  hops : Int
deriving DecidableEq
def Ro.en (e : Ro) : List AV := [.sc (.int .i64 e.id), .sc (.int .i64 e.a.kind), .sc (.int .u32 e.a.addr), .sc (.int .i64 e.a.key), .sc (.int .i64 e.a.minp), .sc (.int .i64 e.a.maxp), .sc (.bool e.a.burst), .sc (.bool e.a.iburst), .sc (.bool e.a.prefer), .sc (.int .i64 e.a.ttl), .sc (.bool e.a.pulse), .sc (.int .i64 e.a.fudge), .sc (.int .i64 e.a.stratum), .sc (.int .i64 e.par), .sc (.int .i64 e.ends)]
def Ro.cs (e : Ro) : List AV := [.sc (.int .i64 e.id), .sc (.int .i64 e.a.kind), .sc (.int .u32 e.a.addr), .sc (.int .i64 e.a.key), .sc (.int .i64 e.a.minp), .sc (.int .i64 e.a.maxp), .sc (.bool e.a.burst), .sc (.bool e.a.iburst), .sc (.bool e.a.prefer), .sc (.int .i64 e.a.ttl), .sc (.bool e.a.pulse), .sc (.int .i64 e.a.fudge), .sc (.int .i64 e.a.stratum), .sc (.int .i64 e.par), .sc (.int .i64 e.ends), .sc (.int .i64 e.hops)]
abbrev Tb := Nat → Option Ro
def pnil : AV := .sc (.pointer none)
def sV (T : Tb) (j : Nat) : AV := match T j with | none => pnil | some e => .vptr e.cs 0
def tvs (T : Tb) : List AV := (List.range 16).map (sV T)
theorem tvs_length (T : Tb) : (tvs T).length = 16 := by simp [tvs]
theorem tvs_get {T : Tb} {i : Nat} (h : i < 16) : (tvs T)[i]? = some (sV T i) := by simp [tvs, h]
theorem tvs_none {T : Tb} {i k : Nat} (h : i < 16) (hk : k = i) (hT : T i = none) : (tvs T)[k]? = some (.sc (.pointer none)) := by subst hk; rw [tvs_get h, sV, hT]; rfl
theorem tvs_some {T : Tb} {i k : Nat} {e : Ro} (h : i < 16) (hk : k = i) (hT : T i = some e) : (tvs T)[k]? = some (.vptr e.cs 0) := by subst hk; rw [tvs_get h, sV, hT]
/-- The first place below n that ..; -1: there is none. -/
def fst (p : Nat → Bool) : Nat → Int
  | 0 => -1
  | n + 1 => if fst p n = -1 then (if p n then (n : Int) else -1) else fst p n
theorem fst_none {p : Nat → Bool} : ∀ {n : Nat}, (∀ j, j < n → p j = false) → fst p n = -1
  | 0, _ => rfl
  | n + 1, h => by
    have h1 : fst p n = -1 := fst_none fun j hj => h j (by omega)
    have h2 := h n (by omega)
    simp [fst, h1, h2]
theorem fst_hit {p : Nat → Bool} {i : Nat} (hp : p i = true) (h : ∀ j, j < i → p j = false) : ∀ {n : Nat}, i < n → fst p n = i
  | 0, hn => by omega
  | n + 1, hn => by
    unfold fst
    by_cases e : n = i
    · subst e
      rw [if_pos (fst_none h), if_pos hp]
    · rw [if_neg (by rw [fst_hit hp h (by omega : i < n)]; omega), fst_hit hp h (by omega)]
theorem fst_cases (p : Nat → Bool) : ∀ n : Nat, (fst p n = -1 ∧ ∀ j, j < n → p j = false) ∨ ∃ i, fst p n = (i : Nat) ∧ i < n ∧ p i = true ∧ ∀ j, j < i → p j = false
  | 0 => .inl ⟨rfl, fun j hj => by omega⟩
  | n + 1 => by
    rcases fst_cases p n with ⟨h1, h2⟩ | ⟨i, h1, h2, h3, h4⟩
    · cases hp : p n with
      | true => exact .inr ⟨n, fst_hit hp h2 (by omega), by omega, hp, h2⟩
      | false =>
        have : ∀ j, j < n + 1 → p j = false := fun j hj => by
          by_cases e : j = n
          · subst e; exact hp
          · exact h2 j (by omega)
        exact .inl ⟨fst_none this, this⟩
    · exact .inr ⟨i, fst_hit h3 h4 (by omega), by omega, h3, h4⟩
def isNone (T : Tb) (j : Nat) : Bool := (T j).isNone
def free (T : Tb) : Int := fst (isNone T) 16
def clk (a : As) : Bool := decide (a.kind = 6)
def clash (a b : As) : Bool := decide (a.addr = b.addr) && (clk a == clk b)
def hasP (T : Tb) (p : Ro → Bool) (j : Nat) : Bool := match T j with | none => false | some e => p e
def taken (T : Tb) (a : As) : Bool := decide (0 ≤ fst (hasP T fun e => clash e.a a) 16)
def get (T : Tb) (id : Int) : Option Ro := if 1 ≤ id ∧ id ≤ 16 then T (id - 1).toNat else none
def gV (T : Tb) (id : Int) : AV := match get T id with | none => pnil | some e => .vptr e.cs 0
def later (now : Int) : Int := if now > 9223372036854771711 then 9223372036854775807 else if now = -4096 then 1 else now + 4096
def findP (addr : Int) (e : Ro) : Bool := !clk e.a && decide (e.a.addr = addr)
end Go.Proofs.Ytcidoghpacihpaa.Sx
namespace Go.Proofs.Ytcidoghpacihpaa.Sx
open Go Go.RowKit
attribute [local irreducible] IW AOps AQuiet GQ GY AExec QY Yld ACalls ACallsD
theorem clock_spec (a : As) : ACalls Try.prog 50 [.agg a.cs] ⟨0, []⟩ (fun r _ => r = .sc (.bool (clk a))) := by
  refine enter1 Try.func50 rfl 6 0 [.tmp 2] rfl rfl rfl ?_
  repeat' (first | (refine aops_nil ?_) | (show AOps _ _ _ _ _ _; first | (show AOps _ _ _ _ (⟨some _, .load _ _, _, _, _, none⟩ :: _) _; first | (refine o_y (y_load1 (v := .sc _) rfl rfl rfl) rfl ?_)) | (show AOps _ _ _ _ (⟨some _, .fieldAddr _ _ _, _, _, _, none⟩ :: _) _; first | (refine o_y (y_fld_ptr rfl rfl) rfl ?_)) | (show AOps _ _ _ _ (⟨some _, .assign _, _, _, _, none⟩ :: _) _; first | (refine o_y (v_assign (v := .sc _) rfl) rfl ?_)) | (show AOps _ _ _ _ (⟨some _, .binOp _ _ _ _ _, _, _, _, none⟩ :: _) _; first | (refine o_y (y_bin rfl rfl rfl) rfl ?_)) | (show AOps _ _ _ _ (⟨_, .box _ _, _, _, _, none⟩ :: _) _; first | (refine o_x (b_agg rfl rfl rfl ?_)))) | (show IW _ _ _ _ _; first | (refine awp_seq ?_) | (refine awp_region ?_) | (refine awp_ret ?_)))
  exact ret1 [] (by decide) rfl (congrArg (fun b => AV.sc (.bool b)) (by first | rfl | (rw [Bool.eq_iff_iff]; simp only [clk, decide_eq_true_eq, beq_iff_eq, bne_iff_ne, ne_eq, Bool.and_eq_true, Bool.or_eq_true, Bool.not_eq_true', decide_eq_false_iff_not, beq_eq_false_iff_ne, bne_eq_false_iff_eq, Bool.not_eq_true, Bool.false_eq_true, false_iff, true_iff, iff_true, iff_false, and_true, true_and, false_and, and_false, or_true, true_or, or_false, false_or, not_true_eq_false, not_false_eq_true, reduceCtorEq, not_and, not_or, not_not]; first | omega | (constructor <;> intro hh <;> omega)) | (simp [clk, *]; done) | (rw [Bool.eq_iff_iff]; simp [clk, *]; done)))
def srch (a : As) : Bool := decide (a.kind = 4) || decide (a.kind = 5)
theorem search_spec (a : As) : ACalls Try.prog 28 [.agg a.cs] ⟨0, []⟩ (fun r _ => r = .sc (.bool (srch a))) := by
  refine enter1 Try.func28 rfl 11 0 [.tmp 2] rfl rfl rfl ?_
  repeat' (first | (refine aops_nil ?_) | (show AOps _ _ _ _ _ _; first | (show AOps _ _ _ _ (⟨some _, .move _, _, _, _, none⟩ :: _) _; first | (refine o_y (v_move (v := .sc _) rfl) rfl ?_)) | (show AOps _ _ _ _ (⟨some _, .load _ _, _, _, _, none⟩ :: _) _; first | (refine o_y (y_load1 (v := .sc _) rfl rfl rfl) rfl ?_)) | (show AOps _ _ _ _ (⟨some _, .fieldAddr _ _ _, _, _, _, none⟩ :: _) _; first | (refine o_y (y_fld_ptr rfl rfl) rfl ?_)) | (show AOps _ _ _ _ (⟨some _, .assign _, _, _, _, none⟩ :: _) _; first | (refine o_y (v_assign (v := .sc _) rfl) rfl ?_)) | (show AOps _ _ _ _ (⟨some _, .binOp _ _ _ _ _, _, _, _, none⟩ :: _) _; first | (refine o_y (y_bin rfl rfl rfl) rfl ?_)) | (show AOps _ _ _ _ (⟨some _, .pick _ _ _, _, _, _, none⟩ :: _) _; first | (refine o_y (v_pick_t (v := .sc _) rfl (by first | rfl | assumption | exact beq_self_eq_true _ | exact decide_eq_true rfl) rfl) rfl ?_) | (refine o_y (v_pick_f (v := .sc _) rfl (by first | rfl | assumption) rfl) rfl ?_)) | (show AOps _ _ _ _ (⟨_, .box _ _, _, _, _, none⟩ :: _) _; first | (refine o_x (b_agg rfl rfl rfl ?_))) | (show AOps _ _ _ _ (⟨_, _, _, _, _, some (_, _)⟩ :: _) _; first | (refine o_g_t rfl rfl rfl (by first | rfl | assumption | exact beq_self_eq_true _ | exact decide_eq_true rfl) ?_) | (refine o_g_f rfl rfl rfl (by first | rfl | assumption) ?_) | (refine o_un rfl rfl rfl (fun h hp => ?_) (fun h hp => ?_)))) | (show IW _ _ _ _ _; first | (refine awp_seq ?_) | (refine awp_region ?_) | (refine awp_ret ?_)))
  all_goals exact ret1 [] (by decide) rfl (congrArg (fun b => AV.sc (.bool b)) (by first | rfl | (rw [Bool.eq_iff_iff]; simp only [srch, decide_eq_true_eq, beq_iff_eq, bne_iff_ne, ne_eq, Bool.and_eq_true, Bool.or_eq_true, Bool.not_eq_true', decide_eq_false_iff_not, beq_eq_false_iff_ne, bne_eq_false_iff_eq, Bool.not_eq_true, Bool.false_eq_true, false_iff, true_iff, iff_true, iff_false, and_true, true_and, false_and, and_false, or_true, true_or, or_false, false_or, not_true_eq_false, not_false_eq_true, reduceCtorEq, not_and, not_or, not_not]; first | omega | (constructor <;> intro hh <;> omega)) | (simp [srch, *]; done) | (rw [Bool.eq_iff_iff]; simp [srch, *]; done)))
theorem later_spec (n : Int) (hn : -9223372036854775808 ≤ n) : ACalls Try.prog 25 [.sc (.int .i64 n)] ⟨0, []⟩ (fun r _ => r = .sc (.int .i64 (later n))) := by
  refine enter1 Try.func25 rfl 11 0 [.tmp 2] rfl rfl rfl ?_
  by_cases h1 : n > 9223372036854771711
  · repeat' (first | (refine aops_nil ?_) | (show AOps _ _ _ _ _ _; first | (show AOps _ _ _ _ (⟨some _, .move _, _, _, _, none⟩ :: _) _; first | (refine o_y (v_move (v := .sc _) rfl) rfl ?_)) | (show AOps _ _ _ _ (⟨some _, .assign _, _, _, _, none⟩ :: _) _; first | (refine o_y (v_assign (v := .sc _) rfl) rfl ?_)) | (show AOps _ _ _ _ (⟨some _, .binOp .add _ _ _ _, _, _, _, none⟩ :: _) _; first | (refine o_y (z_add rfl rfl (by omega) (by omega)) rfl ?_) | (refine o_y (y_bin rfl rfl rfl) rfl ?_)) | (show AOps _ _ _ _ (⟨some _, .binOp _ _ _ _ _, _, _, _, none⟩ :: _) _; first | (refine o_y (y_bin rfl rfl rfl) rfl ?_))) | (show IW _ _ _ _ _; first | (refine awp_seq ?_) | (refine awp_region ?_) | (refine awp_block ?_) | (refine awp_ret ?_) | (refine awp_skip ?_) | (refine awp_if rfl (fun h hp => ?_) (fun h hp => ?_))) | (show thenQ _ _ _ _; first | (refine k_r ?_)) | (show blockQ _ _ _ _; first | (refine b_r ?_)))
    all_goals first | (exfalso; omega) | exact ret1 [] (by decide) rfl (congrArg (fun x => AV.sc (.int .i64 x)) (by simp [later, h1]))
  · by_cases h2 : n = -4096
    · repeat' (first | (refine aops_nil ?_) | (show AOps _ _ _ _ _ _; first | (show AOps _ _ _ _ (⟨some _, .move _, _, _, _, none⟩ :: _) _; first | (refine o_y (v_move (v := .sc _) rfl) rfl ?_)) | (show AOps _ _ _ _ (⟨some _, .assign _, _, _, _, none⟩ :: _) _; first | (refine o_y (v_assign (v := .sc _) rfl) rfl ?_)) | (show AOps _ _ _ _ (⟨some _, .binOp .add _ _ _ _, _, _, _, none⟩ :: _) _; first | (refine o_y (z_add rfl rfl (by omega) (by omega)) rfl ?_) | (refine o_y (y_bin rfl rfl rfl) rfl ?_)) | (show AOps _ _ _ _ (⟨some _, .binOp _ _ _ _ _, _, _, _, none⟩ :: _) _; first | (refine o_y (y_bin rfl rfl rfl) rfl ?_))) | (show IW _ _ _ _ _; first | (refine awp_seq ?_) | (refine awp_region ?_) | (refine awp_block ?_) | (refine awp_ret ?_) | (refine awp_skip ?_) | (refine awp_if rfl (fun h hp => ?_) (fun h hp => ?_))) | (show thenQ _ _ _ _; first | (refine k_r ?_)) | (show blockQ _ _ _ _; first | (refine b_r ?_)))
      all_goals first | (exfalso; omega) | exact ret1 [] (by decide) rfl (congrArg (fun x => AV.sc (.int .i64 x)) (by simp [later, h1, h2]))
    · repeat' (first | (refine aops_nil ?_) | (show AOps _ _ _ _ _ _; first | (show AOps _ _ _ _ (⟨some _, .move _, _, _, _, none⟩ :: _) _; first | (refine o_y (v_move (v := .sc _) rfl) rfl ?_)) | (show AOps _ _ _ _ (⟨some _, .assign _, _, _, _, none⟩ :: _) _; first | (refine o_y (v_assign (v := .sc _) rfl) rfl ?_)) | (show AOps _ _ _ _ (⟨some _, .binOp .add _ _ _ _, _, _, _, none⟩ :: _) _; first | (refine o_y (z_add rfl rfl (by omega) (by omega)) rfl ?_) | (refine o_y (y_bin rfl rfl rfl) rfl ?_)) | (show AOps _ _ _ _ (⟨some _, .binOp _ _ _ _ _, _, _, _, none⟩ :: _) _; first | (refine o_y (y_bin rfl rfl rfl) rfl ?_))) | (show IW _ _ _ _ _; first | (refine awp_seq ?_) | (refine awp_region ?_) | (refine awp_block ?_) | (refine awp_ret ?_) | (refine awp_skip ?_) | (refine awp_if rfl (fun h hp => ?_) (fun h hp => ?_))) | (show thenQ _ _ _ _; first | (refine k_r ?_)) | (show blockQ _ _ _ _; first | (refine b_r ?_)))
      all_goals first | (exfalso; omega) | exact ret1 [] (by decide) rfl (congrArg (fun x => AV.sc (.int .i64 x)) (by simp [later, h1, h2]))
theorem get_spec (T : Tb) (id : Int) : ACalls Try.prog 24 [.vptr (tvs T) 0, .sc (.int .i64 id)] ⟨0, []⟩ (fun r _ => r = gV T id) := by
  refine enter2 Try.func24 rfl 18 0 [.tmp 4] rfl rfl rfl ?_
  by_cases h : 1 ≤ id ∧ id ≤ 16
  · have hV : sV T (id - 1).toNat = gV T id := by unfold gV get sV; rw [if_pos h]
    have v0 : (tvs T)[0 + 0 + (id - 1).toNat * 1]? = some (sV T (id - 1).toNat) := by rw [show 0 + 0 + (id - 1).toNat * 1 = (id - 1).toNat by omega, tvs_get (by omega)]
    rw [← hV]
    cases hT : T (id - 1).toNat with
    | none =>
      rw [sV, hT] at v0 ⊢
      repeat' (first | (refine aops_nil ?_) | (show AOps _ _ _ _ _ _; first | (show AOps _ _ _ _ (⟨some _, .move _, _, _, _, none⟩ :: _) _; first | (refine o_y (v_move (v := .sc _) rfl) rfl ?_) | (refine o_y (v_move (v := .vptr _ _) rfl) rfl ?_)) | (show AOps _ _ _ _ (⟨some _, .load _ _, _, _, _, none⟩ :: _) _; first | (refine o_y (y_vload rfl (by assumption)) rfl ?_)) | (show AOps _ _ _ _ (⟨some _, .fieldAddr _ _ _, _, _, _, none⟩ :: _) _; first | (refine o_y (y_fld_vptr rfl rfl) rfl ?_)) | (show AOps _ _ _ _ (⟨some _, .nilCheck _, _, _, _, none⟩ :: _) _; first | (refine o_y (y_nil_vptr rfl) rfl ?_)) | (show AOps _ _ _ _ (⟨some _, .assign _, _, _, _, none⟩ :: _) _; first | (refine o_y (v_assign (v := .sc _) rfl) rfl ?_)) | (show AOps _ _ _ _ (⟨some _, .binOp .sub _ _ _ _, _, _, _, none⟩ :: _) _; first | (refine o_y (z_sub rfl rfl (by omega) (by omega)) rfl ?_) | (refine o_y (y_bin rfl rfl rfl) rfl ?_)) | (show AOps _ _ _ _ (⟨some _, .binOp _ _ _ _ _, _, _, _, none⟩ :: _) _; first | (refine o_y (y_bin rfl rfl rfl) rfl ?_)) | (show AOps _ _ _ _ (⟨some _, .pick _ _ _, _, _, _, none⟩ :: _) _; first | (refine o_y (v_pick_t (v := .sc _) rfl (by first | rfl | assumption | exact beq_self_eq_true _ | exact decide_eq_true rfl) rfl) rfl ?_) | (refine o_y (v_pick_f (v := .sc _) rfl (by first | rfl | assumption) rfl) rfl ?_)) | (show AOps _ _ _ _ (⟨some _, .indexAddr _ _ _, _, _, _, none⟩ :: _) _; first | (refine o_y (y_ix_varr rfl rfl (by omega) (by omega)) rfl ?_)) | (show AOps _ _ _ _ (⟨_, _, _, _, _, some (_, _)⟩ :: _) _; first | (refine o_g_t rfl rfl rfl (by first | rfl | assumption | exact beq_self_eq_true _ | exact decide_eq_true rfl) ?_) | (refine o_g_f rfl rfl rfl (by first | rfl | assumption) ?_) | (refine o_un rfl rfl rfl (fun h hp => ?_) (fun h hp => ?_)))) | (show IW _ _ _ _ _; first | (refine awp_seq ?_) | (refine awp_region ?_) | (refine awp_ret ?_) | (refine awp_skip ?_) | (refine awp_if_t rfl (by first | rfl | assumption | exact beq_self_eq_true _ | exact decide_eq_true rfl) ?_) | (refine awp_if rfl (fun h hp => ?_) (fun h hp => ?_))) | (show thenQ _ _ _ _; first | (refine k_r ?_)))
      all_goals first | (exfalso; omega) | exact ret1 [] (by decide) rfl rfl
    | some e =>
      rw [sV, hT] at v0 ⊢
      repeat' (first | (refine aops_nil ?_) | (show AOps _ _ _ _ _ _; first | (show AOps _ _ _ _ (⟨some _, .move _, _, _, _, none⟩ :: _) _; first | (refine o_y (v_move (v := .sc _) rfl) rfl ?_) | (refine o_y (v_move (v := .vptr _ _) rfl) rfl ?_)) | (show AOps _ _ _ _ (⟨some _, .load _ _, _, _, _, none⟩ :: _) _; first | (refine o_y (y_vload rfl (by assumption)) rfl ?_)) | (show AOps _ _ _ _ (⟨some _, .fieldAddr _ _ _, _, _, _, none⟩ :: _) _; first | (refine o_y (y_fld_vptr rfl rfl) rfl ?_)) | (show AOps _ _ _ _ (⟨some _, .nilCheck _, _, _, _, none⟩ :: _) _; first | (refine o_y (y_nil_vptr rfl) rfl ?_)) | (show AOps _ _ _ _ (⟨some _, .assign _, _, _, _, none⟩ :: _) _; first | (refine o_y (v_assign (v := .sc _) rfl) rfl ?_) | (refine o_y (v_assign (v := .vptr _ _) rfl) rfl ?_)) | (show AOps _ _ _ _ (⟨some _, .binOp .sub _ _ _ _, _, _, _, none⟩ :: _) _; first | (refine o_y (z_sub rfl rfl (by omega) (by omega)) rfl ?_) | (refine o_y (y_bin rfl rfl rfl) rfl ?_)) | (show AOps _ _ _ _ (⟨some _, .binOp _ _ _ _ _, _, _, _, none⟩ :: _) _; first | (refine o_y (y_bin rfl rfl rfl) rfl ?_)) | (show AOps _ _ _ _ (⟨some _, .pick _ _ _, _, _, _, none⟩ :: _) _; first | (refine o_y (v_pick_t (v := .sc _) rfl (by first | rfl | assumption | exact beq_self_eq_true _ | exact decide_eq_true rfl) rfl) rfl ?_) | (refine o_y (v_pick_f (v := .sc _) rfl (by first | rfl | assumption) rfl) rfl ?_)) | (show AOps _ _ _ _ (⟨some _, .indexAddr _ _ _, _, _, _, none⟩ :: _) _; first | (refine o_y (y_ix_varr rfl rfl (by omega) (by omega)) rfl ?_)) | (show AOps _ _ _ _ (⟨_, _, _, _, _, some (_, _)⟩ :: _) _; first | (refine o_g_t rfl rfl rfl (by first | rfl | assumption | exact beq_self_eq_true _ | exact decide_eq_true rfl) ?_) | (refine o_g_f rfl rfl rfl (by first | rfl | assumption) ?_) | (refine o_un rfl rfl rfl (fun h hp => ?_) (fun h hp => ?_)))) | (show IW _ _ _ _ _; first | (refine awp_seq ?_) | (refine awp_region ?_) | (refine awp_ret ?_) | (refine awp_skip ?_) | (refine awp_if_t rfl (by first | rfl | assumption | exact beq_self_eq_true _ | exact decide_eq_true rfl) ?_) | (refine awp_if rfl (fun h hp => ?_) (fun h hp => ?_))) | (show thenQ _ _ _ _; first | (refine k_r ?_)))
      all_goals first | (exfalso; omega) | exact ret1 [] (by decide) rfl rfl
  · have hV : gV T id = pnil := by unfold gV get; rw [if_neg h]
    rw [hV]
    by_cases h1 : id < 1
    · repeat' (first | (refine aops_nil ?_) | (show AOps _ _ _ _ _ _; first | (show AOps _ _ _ _ (⟨some _, .move _, _, _, _, none⟩ :: _) _; first | (refine o_y (v_move (v := .sc _) rfl) rfl ?_) | (refine o_y (v_move (v := .vptr _ _) rfl) rfl ?_)) | (show AOps _ _ _ _ (⟨some _, .fieldAddr _ _ _, _, _, _, none⟩ :: _) _; first | (refine o_y (y_fld_vptr rfl rfl) rfl ?_)) | (show AOps _ _ _ _ (⟨some _, .nilCheck _, _, _, _, none⟩ :: _) _; first | (refine o_y (y_nil_vptr rfl) rfl ?_)) | (show AOps _ _ _ _ (⟨some _, .assign _, _, _, _, none⟩ :: _) _; first | (refine o_y (v_assign (v := .sc _) rfl) rfl ?_)) | (show AOps _ _ _ _ (⟨some _, .binOp .sub _ _ _ _, _, _, _, none⟩ :: _) _; first | (refine o_y (z_sub rfl rfl (by omega) (by omega)) rfl ?_) | (refine o_y (y_bin rfl rfl rfl) rfl ?_)) | (show AOps _ _ _ _ (⟨some _, .binOp _ _ _ _ _, _, _, _, none⟩ :: _) _; first | (refine o_y (y_bin rfl rfl rfl) rfl ?_)) | (show AOps _ _ _ _ (⟨some _, .pick _ _ _, _, _, _, none⟩ :: _) _; first | (refine o_y (v_pick_t (v := .sc _) rfl (by first | rfl | assumption | exact beq_self_eq_true _ | exact decide_eq_true rfl) rfl) rfl ?_) | (refine o_y (v_pick_f (v := .sc _) rfl (by first | rfl | assumption) rfl) rfl ?_)) | (show AOps _ _ _ _ (⟨some _, .indexAddr _ _ _, _, _, _, none⟩ :: _) _; first | (refine o_y (y_ix_varr rfl rfl (by omega) (by omega)) rfl ?_)) | (show AOps _ _ _ _ (⟨_, _, _, _, _, some (_, _)⟩ :: _) _; first | (refine o_g_t rfl rfl rfl (by first | rfl | assumption | exact beq_self_eq_true _ | exact decide_eq_true rfl) ?_) | (refine o_g_f rfl rfl rfl (by first | rfl | assumption) ?_) | (refine o_un rfl rfl rfl (fun h hp => ?_) (fun h hp => ?_)))) | (show IW _ _ _ _ _; first | (refine awp_seq ?_) | (refine awp_region ?_) | (refine awp_ret ?_) | (refine awp_skip ?_) | (refine awp_if_t rfl (by first | rfl | assumption | exact beq_self_eq_true _ | exact decide_eq_true rfl) ?_) | (refine awp_if rfl (fun h hp => ?_) (fun h hp => ?_))) | (show thenQ _ _ _ _; first | (refine k_r ?_)))
      all_goals first | (exfalso; omega) | exact ret1 [] (by decide) rfl rfl
    · have h2 : id > 16 := by omega
      repeat' (first | (refine aops_nil ?_) | (show AOps _ _ _ _ _ _; first | (show AOps _ _ _ _ (⟨some _, .move _, _, _, _, none⟩ :: _) _; first | (refine o_y (v_move (v := .sc _) rfl) rfl ?_)) | (show AOps _ _ _ _ (⟨some _, .assign _, _, _, _, none⟩ :: _) _; first | (refine o_y (v_assign (v := .sc _) rfl) rfl ?_)) | (show AOps _ _ _ _ (⟨some _, .binOp .sub _ _ _ _, _, _, _, none⟩ :: _) _; first | (refine o_y (y_bin rfl rfl rfl) rfl ?_)) | (show AOps _ _ _ _ (⟨some _, .binOp _ _ _ _ _, _, _, _, none⟩ :: _) _; first | (refine o_y (y_bin rfl rfl rfl) rfl ?_)) | (show AOps _ _ _ _ (⟨some _, .pick _ _ _, _, _, _, none⟩ :: _) _; first | (refine o_y (v_pick_t (v := .sc _) rfl (by first | rfl | assumption | exact beq_self_eq_true _ | exact decide_eq_true rfl) rfl) rfl ?_) | (refine o_y (v_pick_f (v := .sc _) rfl (by first | rfl | assumption) rfl) rfl ?_)) | (show AOps _ _ _ _ (⟨_, _, _, _, _, some (_, _)⟩ :: _) _; first | (refine o_g_t rfl rfl rfl (by first | rfl | assumption | exact beq_self_eq_true _ | exact decide_eq_true rfl) ?_) | (refine o_g_f rfl rfl rfl (by first | rfl | assumption) ?_) | (refine o_un rfl rfl rfl (fun h hp => ?_) (fun h hp => ?_)))) | (show IW _ _ [.code (.seq _ _)] _ _; first | (show AWP _ _ (.seq (.seq _ _) _) _ _; refine awp_seq ?_) | (show AWP _ _ (.seq (.region 0 _ _) _) _ _; refine awp_seq ?_) | (show AWP _ _ (.seq (.region 1 _ _) _) _ _; refine awp_seq ?_) | (show AWP _ _ (.seq (.region 2 _ _) _) _ _; refine awp_seq ?_)) | (show IW _ _ _ _ _; first | (refine awp_region ?_) | (refine awp_ret ?_) | (refine awp_skip ?_) | (refine awp_if_t rfl (by first | rfl | assumption | exact beq_self_eq_true _ | exact decide_eq_true rfl) ?_) | (refine awp_if rfl (fun h hp => ?_) (fun h hp => ?_))) | (show thenQ _ _ _ _; first | (refine k_n ?_) | (refine k_r ?_)))
      all_goals first | (exfalso; omega) | exact ret1 [] (by decide) rfl rfl
theorem index_spec (T : Tb) : ACalls Try.prog 23 [.vsl (tvs T) 1 0 16, .sc (.pointer none)] ⟨0, []⟩ (fun r _ => r = .sc (.int .i64 (free T))) := by
  refine enter2 Try.func23 rfl 19 0 [.tmp 4] rfl rfl rfl ?_
  repeat' (first | (refine aops_nil ?_) | (show AOps _ _ _ _ _ _; first | (show AOps _ _ _ _ (⟨some _, .move _, _, _, _, none⟩ :: _) _; first | (refine o_y (v_move (v := .sc _) rfl) rfl ?_) | (refine o_y (v_move (v := .vsl _ _ _ _) rfl) rfl ?_)) | (show AOps _ _ _ _ (⟨some _, .assign _, _, _, _, none⟩ :: _) _; first | (refine o_y (v_assign (v := .sc _) rfl) rfl ?_)) | (show AOps _ _ _ _ (⟨some _, .call ⟨.builtin .len, _, _⟩, _, _, _, none⟩ :: _) _; first | (refine o_y (y_lenV rfl) rfl ?_))) | (show IW _ _ [.code (.seq _ _)] _ _; first | (show AWP _ _ (.seq (.region _ _ _) _) _ _; refine awp_seq ?_) | (show AWP _ _ (.seq (.seq _ _) _) _ _; refine awp_seq ?_)) | (show IW _ _ _ _ _; first | (refine awp_region ?_) | (refine awp_block ?_)))
  refine awp_loopI (fun i : Nat => i ≤ 16 ∧ ∀ j, j < i → isNone T j = false) (fun i => 16 - i) (fun i => [(0, .vsl (tvs T) 1 0 16), (1, .sc (.pointer none)), (7, .sc (.int .i64 16)), (8, .sc (.int .i64 i))]) 0 (fun _ => []) 0 [] (by decide) rfl rfl rfl ⟨Nat.zero_le _, fun j hj => by omega⟩ ⟨rfl, rfl, rfl, rfl, trivial⟩ trivial ?_
  rintro i ⟨h1, h2⟩ ih
  by_cases hlt : i < 16
  · cases hT : T i with
    | none =>
      have v0 : (tvs T)[(0 + Int.toNat i) * 1]? = some (.sc (.pointer none)) := tvs_none hlt (by omega) hT
      have hf : free T = i := fst_hit (by simp [isNone, hT]) h2 hlt
      rw [hf]
      repeat' (first | (refine aops_nil ?_) | (show AOps _ _ _ _ _ _; first | (show AOps _ _ _ _ (⟨some _, .move _, _, _, _, none⟩ :: _) _; first | (refine o_y (v_move (v := .sc _) rfl) rfl ?_) | (refine o_y (v_move (v := .vsl _ _ _ _) rfl) rfl ?_)) | (show AOps _ _ _ _ (⟨some _, .load _ _, _, _, _, none⟩ :: _) _; first | (refine o_y (y_vload rfl (by assumption)) rfl ?_)) | (show AOps _ _ _ _ (⟨some _, .assign _, _, _, _, none⟩ :: _) _; first | (refine o_y (v_assign (v := .sc _) rfl) rfl ?_)) | (show AOps _ _ _ _ (⟨some _, .binOp .add _ _ _ _, _, _, _, none⟩ :: _) _; first | (refine o_y (y_bin rfl rfl rfl) rfl ?_)) | (show AOps _ _ _ _ (⟨some _, .binOp _ _ _ _ _, _, _, _, none⟩ :: _) _; first | (refine o_y (y_bin rfl rfl rfl) rfl ?_) | (refine o_y (y_eqNil0 rfl rfl) rfl ?_)) | (show AOps _ _ _ _ (⟨some _, .indexAddr _ _ _, _, _, _, none⟩ :: _) _; first | (refine o_y (y_ix_vsl rfl rfl rfl (by omega) (by omega)) rfl ?_))) | (show IW _ _ _ _ _; first | (refine awp_seq ?_) | (refine awp_region ?_) | (refine awp_block ?_) | (refine awp_exit ?_) | (refine awp_ret ?_) | (refine awp_skip ?_) | (refine awp_if_t rfl (by first | rfl | assumption | exact beq_self_eq_true _ | exact decide_eq_true rfl) ?_) | (refine awp_if rfl (fun h hp => ?_) (fun h hp => ?_))) | (show thenQ _ _ _ _; first | (refine k_r ?_)) | (show blockQ _ _ _ _; first | (refine b_r ?_)))
      all_goals first | (exfalso; omega) | exact ret1 [] (by decide) rfl rfl
    | some e =>
      have v0 : (tvs T)[(0 + Int.toNat i) * 1]? = some (.vptr e.cs 0) := tvs_some hlt (by omega) hT
      repeat' (first | (refine aops_nil ?_) | (show AOps _ _ _ _ _ _; first | (show AOps _ _ _ _ (⟨some _, .move _, _, _, _, none⟩ :: _) _; first | (refine o_y (v_move (v := .sc _) rfl) rfl ?_) | (refine o_y (v_move (v := .vsl _ _ _ _) rfl) rfl ?_)) | (show AOps _ _ _ _ (⟨some _, .load _ _, _, _, _, none⟩ :: _) _; first | (refine o_y (y_vload rfl (by assumption)) rfl ?_)) | (show AOps _ _ _ _ (⟨some _, .assign _, _, _, _, none⟩ :: _) _; first | (refine o_y (v_assign (v := .sc _) rfl) rfl ?_)) | (show AOps _ _ _ _ (⟨some _, .binOp .add _ _ _ _, _, _, _, none⟩ :: _) _; first | (refine o_y (z_add rfl rfl (by omega) (by omega)) rfl ?_) | (refine o_y (y_bin rfl rfl rfl) rfl ?_)) | (show AOps _ _ _ _ (⟨some _, .binOp _ _ _ _ _, _, _, _, none⟩ :: _) _; first | (refine o_y (y_bin rfl rfl rfl) rfl ?_) | (refine o_y (y_eqNilL rfl rfl) rfl ?_)) | (show AOps _ _ _ _ (⟨some _, .indexAddr _ _ _, _, _, _, none⟩ :: _) _; first | (refine o_y (y_ix_vsl rfl rfl rfl (by omega) (by omega)) rfl ?_))) | (show IW _ _ _ _ _; first | (refine awp_seq ?_) | (refine awp_region ?_) | (refine awp_block ?_) | (refine awp_exit ?_) | (refine awp_ret ?_) | (refine awp_skip ?_) | (refine awp_if_f rfl (by first | rfl | assumption) ?_) | (refine awp_if rfl (fun h hp => ?_) (fun h hp => ?_))) | (show thenQ _ _ _ _; first | (refine k_n ?_)))
      all_goals first
        | (exfalso; omega)
        | exact iw_at [] (ih (i + 1) ⟨hlt, fun j hj => by
            by_cases e' : j = i
            · subst e'; simp [isNone, hT]
            · exact h2 j (by omega)⟩ (by omega)) (by decide) rfl rfl rfl ⟨rfl, rfl, rfl, rfl, trivial⟩ trivial
  · have hf : free T = -1 := fst_none fun j hj => h2 j (by omega)
    rw [hf]
    repeat' (first | (refine aops_nil ?_) | (show AOps _ _ _ _ _ _; first | (show AOps _ _ _ _ (⟨some _, .move _, _, _, _, none⟩ :: _) _; first | (refine o_y (v_move (v := .sc _) rfl) rfl ?_) | (refine o_y (v_move (v := .vsl _ _ _ _) rfl) rfl ?_)) | (show AOps _ _ _ _ (⟨some _, .assign _, _, _, _, none⟩ :: _) _; first | (refine o_y (v_assign (v := .sc _) rfl) rfl ?_)) | (show AOps _ _ _ _ (⟨some _, .binOp .add _ _ _ _, _, _, _, none⟩ :: _) _; first | (refine o_y (y_bin rfl rfl rfl) rfl ?_)) | (show AOps _ _ _ _ (⟨some _, .binOp _ _ _ _ _, _, _, _, none⟩ :: _) _; first | (refine o_y (y_bin rfl rfl rfl) rfl ?_)) | (show AOps _ _ _ _ (⟨some _, .indexAddr _ _ _, _, _, _, none⟩ :: _) _; first | (refine o_y (y_ix_vsl rfl rfl rfl (by omega) (by omega)) rfl ?_))) | (show IW _ _ _ _ _; first | (refine awp_seq ?_) | (refine awp_region ?_) | (refine awp_block ?_) | (refine awp_exit ?_) | (refine awp_ret ?_) | (refine awp_skip ?_) | (refine awp_if rfl (fun h hp => ?_) (fun h hp => ?_))))
    all_goals first | (exfalso; omega) | exact ret1 [] (by decide) rfl rfl
theorem indexFunc_spec (T : Tb) (f : FuncId) (cap : List AV) (hcap : ∀ r, renL r cap = cap) [hc : Callable Try.prog f] (p : Nat → Bool) (hp : ∀ j, j < 16 → ACalls Try.prog f (sV T j :: cap) ⟨0, []⟩ (fun r _ => r = .sc (.bool (p j)))) : ACalls Try.prog 31 [.vsl (tvs T) 1 0 16, .fn f cap] ⟨0, []⟩ (fun r _ => r = .sc (.int .i64 (fst p 16))) := by
  refine enter2 Try.func31 rfl 19 0 [.tmp 4] rfl rfl rfl ?_
  repeat' (first | (refine aops_nil ?_) | (show AOps _ _ _ _ _ _; first | (show AOps _ _ _ _ (⟨some _, .move _, _, _, _, none⟩ :: _) _; first | (refine o_y (v_move (v := .sc _) rfl) rfl ?_) | (refine o_y (v_move (v := .vsl _ _ _ _) rfl) rfl ?_)) | (show AOps _ _ _ _ (⟨some _, .assign _, _, _, _, none⟩ :: _) _; first | (refine o_y (v_assign (v := .sc _) rfl) rfl ?_)) | (show AOps _ _ _ _ (⟨some _, .call ⟨.builtin .len, _, _⟩, _, _, _, none⟩ :: _) _; first | (refine o_y (y_lenV rfl) rfl ?_))) | (show IW _ _ [.code (.seq _ _)] _ _; first | (show AWP _ _ (.seq (.region _ _ _) _) _ _; refine awp_seq ?_) | (show AWP _ _ (.seq (.seq _ _) _) _ _; refine awp_seq ?_)) | (show IW _ _ _ _ _; first | (refine awp_region ?_) | (refine awp_block ?_)))
  refine awp_loopI (fun i : Nat => i ≤ 16 ∧ ∀ j, j < i → p j = false) (fun i => 16 - i) (fun i => [(0, .vsl (tvs T) 1 0 16), (1, .fn f cap), (7, .sc (.int .i64 16)), (8, .sc (.int .i64 i))]) 0 (fun _ => []) 0 [] (by decide) rfl rfl rfl ⟨Nat.zero_le _, fun j hj => by omega⟩ ⟨rfl, congrArg (AV.fn f) (hcap _), rfl, rfl, trivial⟩ trivial ?_
  rintro i ⟨h1, h2⟩ ih
  by_cases hlt : i < 16
  · have sp := hp i hlt
    have key : renL (fun _ => none) ([sV T i] ++ cap) = sV T i :: cap := by
      show AV.ren _ (sV T i) :: renL _ cap = _
      rw [hcap]
      congr 1
      unfold sV
      split <;> rfl
    rw [← key] at sp
    cases hT : T i with
    | none =>
      have v0 : (tvs T)[(0 + Int.toNat i) * 1]? = some (.sc (.pointer none)) := tvs_none hlt (by omega) hT
      rw [sV, hT] at sp
      repeat' (first | (refine aops_nil ?_) | (show AOps _ _ _ _ _ _; first | (show AOps _ _ _ _ (⟨some _, .move _, _, _, _, none⟩ :: _) _; first | (refine o_y (v_move (v := .sc _) rfl) rfl ?_) | (refine o_y (v_move (v := .vsl _ _ _ _) rfl) rfl ?_) | (refine o_y (v_move (v := .fn _ _) rfl) rfl ?_)) | (show AOps _ _ _ _ (⟨some _, .load _ _, _, _, _, none⟩ :: _) _; first | (refine o_y (y_vload rfl (by assumption)) rfl ?_)) | (show AOps _ _ _ _ (⟨some _, .assign _, _, _, _, none⟩ :: _) _; first | (refine o_y (v_assign (v := .sc _) rfl) rfl ?_)) | (show AOps _ _ _ _ (⟨some _, .binOp .add _ _ _ _, _, _, _, none⟩ :: _) _; first | (refine o_y (z_add rfl rfl (by omega) (by omega)) rfl ?_) | (refine o_y (y_bin rfl rfl rfl) rfl ?_)) | (show AOps _ _ _ _ (⟨some _, .binOp _ _ _ _ _, _, _, _, none⟩ :: _) _; first | (refine o_y (y_bin rfl rfl rfl) rfl ?_)) | (show AOps _ _ _ _ (⟨some _, .indexAddr _ _ _, _, _, _, none⟩ :: _) _; first | (refine o_y (y_ix_vsl rfl rfl rfl (by omega) (by omega)) rfl ?_)) | (show AOps _ _ _ _ (⟨some _, .call ⟨.value (.tmp _), _, _⟩, _, _, _, none⟩ :: _) _; refine o_q (q_callV rfl (sp)) rfl ?_)) | (show IW _ _ _ _ _; first | (refine awp_seq ?_) | (refine awp_region ?_) | (refine awp_block ?_) | (refine awp_exit ?_) | (refine awp_ret ?_) | (refine awp_skip ?_) | (refine awp_if rfl (fun h hp => ?_) (fun h hp => ?_))) | (show thenQ _ _ _ _; first | (refine k_n ?_) | (refine k_r ?_)) | (show blockQ _ _ _ _; first | (refine b_r ?_)))
      all_goals first
        | (exfalso; omega)
        | (rw [fst_hit hp h2 hlt]; exact ret1 [] (by decide) rfl rfl)
        | exact iw_at [] (ih (i + 1) ⟨hlt, fun j hj => by
            by_cases e' : j = i
            · subst e'; assumption
            · exact h2 j (by omega)⟩ (by omega)) (by decide) rfl rfl rfl ⟨rfl, congrArg (AV.fn f) (hcap _), rfl, rfl, trivial⟩ trivial
    | some e =>
      have v0 : (tvs T)[(0 + Int.toNat i) * 1]? = some (.vptr e.cs 0) := tvs_some hlt (by omega) hT
      rw [sV, hT] at sp
      repeat' (first | (refine aops_nil ?_) | (show AOps _ _ _ _ _ _; first | (show AOps _ _ _ _ (⟨some _, .move _, _, _, _, none⟩ :: _) _; first | (refine o_y (v_move (v := .sc _) rfl) rfl ?_) | (refine o_y (v_move (v := .vsl _ _ _ _) rfl) rfl ?_) | (refine o_y (v_move (v := .fn _ _) rfl) rfl ?_)) | (show AOps _ _ _ _ (⟨some _, .load _ _, _, _, _, none⟩ :: _) _; first | (refine o_y (y_vload rfl (by assumption)) rfl ?_)) | (show AOps _ _ _ _ (⟨some _, .assign _, _, _, _, none⟩ :: _) _; first | (refine o_y (v_assign (v := .sc _) rfl) rfl ?_)) | (show AOps _ _ _ _ (⟨some _, .binOp .add _ _ _ _, _, _, _, none⟩ :: _) _; first | (refine o_y (z_add rfl rfl (by omega) (by omega)) rfl ?_) | (refine o_y (y_bin rfl rfl rfl) rfl ?_)) | (show AOps _ _ _ _ (⟨some _, .binOp _ _ _ _ _, _, _, _, none⟩ :: _) _; first | (refine o_y (y_bin rfl rfl rfl) rfl ?_)) | (show AOps _ _ _ _ (⟨some _, .indexAddr _ _ _, _, _, _, none⟩ :: _) _; first | (refine o_y (y_ix_vsl rfl rfl rfl (by omega) (by omega)) rfl ?_)) | (show AOps _ _ _ _ (⟨some _, .call ⟨.value (.tmp _), _, _⟩, _, _, _, none⟩ :: _) _; refine o_q (q_callV rfl (sp)) rfl ?_)) | (show IW _ _ _ _ _; first | (refine awp_seq ?_) | (refine awp_region ?_) | (refine awp_block ?_) | (refine awp_exit ?_) | (refine awp_ret ?_) | (refine awp_skip ?_) | (refine awp_if rfl (fun h hp => ?_) (fun h hp => ?_))) | (show thenQ _ _ _ _; first | (refine k_n ?_) | (refine k_r ?_)) | (show blockQ _ _ _ _; first | (refine b_r ?_)))
      all_goals first
        | (exfalso; omega)
        | (rw [fst_hit hp h2 hlt]; exact ret1 [] (by decide) rfl rfl)
        | exact iw_at [] (ih (i + 1) ⟨hlt, fun j hj => by
            by_cases e' : j = i
            · subst e'; assumption
            · exact h2 j (by omega)⟩ (by omega)) (by decide) rfl rfl rfl ⟨rfl, congrArg (AV.fn f) (hcap _), rfl, rfl, trivial⟩ trivial
  · have hf : fst p 16 = -1 := fst_none fun j hj => h2 j (by omega)
    rw [hf]
    repeat' (first | (refine aops_nil ?_) | (show AOps _ _ _ _ _ _; first | (show AOps _ _ _ _ (⟨some _, .move _, _, _, _, none⟩ :: _) _; first | (refine o_y (v_move (v := .sc _) rfl) rfl ?_) | (refine o_y (v_move (v := .vsl _ _ _ _) rfl) rfl ?_) | (refine o_y (v_move (v := .fn _ _) rfl) rfl ?_)) | (show AOps _ _ _ _ (⟨some _, .assign _, _, _, _, none⟩ :: _) _; first | (refine o_y (v_assign (v := .sc _) rfl) rfl ?_)) | (show AOps _ _ _ _ (⟨some _, .binOp .add _ _ _ _, _, _, _, none⟩ :: _) _; first | (refine o_y (y_bin rfl rfl rfl) rfl ?_)) | (show AOps _ _ _ _ (⟨some _, .binOp _ _ _ _ _, _, _, _, none⟩ :: _) _; first | (refine o_y (y_bin rfl rfl rfl) rfl ?_)) | (show AOps _ _ _ _ (⟨some _, .indexAddr _ _ _, _, _, _, none⟩ :: _) _; first | (refine o_y (y_ix_vsl rfl rfl rfl (by omega) (by omega)) rfl ?_))) | (show IW _ _ _ _ _; first | (refine awp_seq ?_) | (refine awp_region ?_) | (refine awp_block ?_) | (refine awp_exit ?_) | (refine awp_ret ?_) | (refine awp_skip ?_) | (refine awp_if rfl (fun h hp => ?_) (fun h hp => ?_))))
    all_goals first | (exfalso; omega) | exact ret1 [] (by decide) rfl rfl
theorem containsFunc_spec (T : Tb) (f : FuncId) (cap : List AV) (hcap : ∀ r, renL r cap = cap) [hc : Callable Try.prog f] (p : Nat → Bool) (hp : ∀ j, j < 16 → ACalls Try.prog f (sV T j :: cap) ⟨0, []⟩ (fun r _ => r = .sc (.bool (p j)))) : ACalls Try.prog 48 [.vsl (tvs T) 1 0 16, .fn f cap] ⟨0, []⟩ (fun r _ => r = .sc (.bool (decide (0 ≤ fst p 16)))) := by
  have sp := indexFunc_spec T f cap hcap p hp
  have e : renL (fun _ => none) [AV.vsl (tvs T) 1 0 16, AV.fn f cap] = [AV.vsl (tvs T) 1 0 16, AV.fn f cap] := by
    show [_, AV.fn f (renL _ cap)] = _
    rw [hcap]
    rfl
  rw [← e] at sp
  refine enter2 Try.func48 rfl 9 0 [.tmp 4] rfl rfl rfl ?_
  repeat' (first | (refine aops_nil ?_) | (show AOps _ _ _ _ _ _; first | (show AOps _ _ _ _ (⟨some _, .move _, _, _, _, none⟩ :: _) _; first | (refine o_y (v_move (v := .vsl _ _ _ _) rfl) rfl ?_) | (refine o_y (v_move (v := .fn _ _) rfl) rfl ?_)) | (show AOps _ _ _ _ (⟨some _, .assign _, _, _, _, none⟩ :: _) _; first | (refine o_y (v_assign (v := .sc _) rfl) rfl ?_)) | (show AOps _ _ _ _ (⟨some _, .binOp _ _ _ _ _, _, _, _, none⟩ :: _) _; first | (refine o_y (y_bin rfl rfl rfl) rfl ?_)) | (show AOps _ _ _ _ (⟨some _, .call ⟨.value (.func 31), _, _⟩, _, _, _, none⟩ :: _) _; first | (refine o_q (q_call (sp)) rfl ?_))) | (show IW _ _ _ _ _; first | (refine awp_seq ?_) | (refine awp_region ?_) | (refine awp_ret ?_)))
  exact ret1 [] (by decide) rfl rfl
theorem taken1_spec (T : Tb) (a : As) (j : Nat) : ACalls Try.prog 49 [sV T j, .vptr a.cs 0] ⟨0, []⟩ (fun r _ => r = .sc (.bool (hasP T (fun e => clash e.a a) j))) := by
  cases hT : T j with
  | none =>
    rw [sV, hasP, hT]
    refine enter2 Try.func49 rfl 28 0 [.tmp 3] rfl rfl rfl ?_
    repeat' (first | (show AWP _ _ (.region 1 _ true) _ _; refine awp_draw 25 (by kernel_rfl) ?_) | (refine aops_nil ?_) | (show AOps _ _ _ _ _ _; first | (show AOps _ _ _ _ (⟨some _, .assign _, _, _, _, none⟩ :: _) _; first | (refine o_y (v_assign (v := .sc _) rfl) rfl ?_))) | (refine aq_nil ?_) | (show AQuiet _ _ _ _ _ _; first | (show AQuiet _ _ _ (⟨some _, .move _, _, _, _, none⟩ :: _) _ _; first | (refine q_y (v_move (v := .sc _) rfl) rfl ?_)) | (show AQuiet _ _ _ (⟨some _, .assign _, _, _, _, none⟩ :: _) _ _; first | (refine q_y (v_assign (v := .sc _) rfl) rfl ?_)) | (show AQuiet _ _ _ (⟨some _, .binOp _ _ _ _ _, _, _, _, none⟩ :: _) _ _; first | (refine q_y (y_neNil0 rfl rfl) rfl ?_)) | (show AQuiet _ _ _ (⟨some _, .pick _ _ _, _, _, _, none⟩ :: _) _ _; first | (refine q_y (v_pick_f (v := .sc _) rfl (by first | rfl | assumption) rfl) rfl ?_)) | (show AQuiet _ _ _ (⟨_, _, _, _, _, some (_, _)⟩ :: _) _ _; first | (refine q_g_f rfl rfl rfl (by first | rfl | assumption) ?_))) | (show IW _ _ _ _ _; first | (refine awp_seq ?_) | (refine awp_region ?_) | (refine awp_ret ?_)))
    all_goals exact ret1 [] (by decide) rfl rfl
  | some e =>
    rw [sV, hasP, hT]
    refine enter2 Try.func49 rfl 28 0 [.tmp 3] rfl rfl rfl ?_
    repeat' (first | (show AWP _ _ (.region 1 _ true) _ _; refine awp_gdraw 25 [] (by kernel_rfl) ?_) | (refine aops_nil ?_) | (show AOps _ _ _ _ _ _; first | (show AOps _ _ _ _ (⟨some _, .assign _, _, _, _, none⟩ :: _) _; first | (refine o_y (v_assign (v := .sc _) rfl) rfl ?_))) | (refine gq_nil ?_) | (show GQ _ _ _ _ _ _ _ _ _ _ _; first | (show GQ _ _ _ _ _ _ _ (⟨some _, .move _, _, _, _, none⟩ :: _) _ _ _; first | (refine g_y (v_move (v := .sc _) rfl) rfl ?_) | (refine g_y (v_move (v := .vptr _ _) rfl) rfl ?_)) | (show GQ _ _ _ _ _ _ _ (⟨some _, .load _ _, _, _, _, none⟩ :: _) _ _ _; first | (refine g_y (y_vload1 (v := .sc _) rfl rfl) rfl ?_) | (refine g_y (y_vloadW rfl rfl) rfl ?_) | (refine g_y (y_vloadA rfl rfl) rfl ?_)) | (show GQ _ _ _ _ _ _ _ (⟨some _, .fieldAddr _ _ _, _, _, _, none⟩ :: _) _ _ _; first | (refine g_y (y_fld_vptr rfl rfl) rfl ?_)) | (show GQ _ _ _ _ _ _ _ (⟨some _, .nilCheck _, _, _, _, none⟩ :: _) _ _ _; first | (refine g_y (y_nil_vptr rfl) rfl ?_)) | (show GQ _ _ _ _ _ _ _ (⟨some _, .assign _, _, _, _, none⟩ :: _) _ _ _; first | (refine g_y (v_assign (v := .sc _) rfl) rfl ?_)) | (show GQ _ _ _ _ _ _ _ (⟨some _, .binOp _ _ _ _ _, _, _, _, none⟩ :: _) _ _ _; first | (refine g_y (y_bin rfl rfl rfl) rfl ?_) | (refine g_y (y_eqB rfl rfl) rfl ?_) | (refine g_y (y_neNilV rfl rfl) rfl ?_)) | (show GQ _ _ _ _ _ _ _ (⟨some _, .pick _ _ _, _, _, _, none⟩ :: _) _ _ _; first | (refine g_y (v_pick_t (v := .sc _) rfl (by first | rfl | assumption | exact beq_self_eq_true _ | exact decide_eq_true rfl) rfl) rfl ?_) | (refine g_y (v_pick_f (v := .sc _) rfl (by first | rfl | assumption) rfl) rfl ?_)) | (show GQ _ _ _ _ _ _ _ (⟨some _, .call ⟨.value (.func 50), _, _⟩, _, _, _, none⟩ :: _) _ _ _; refine g_g (g_call (clock_spec _) rfl) rfl ?_) | (show GQ _ _ _ _ _ _ _ (⟨_, _, _, _, _, some (_, _)⟩ :: _) _ _ _; first | (refine g_g_t rfl rfl rfl (by first | rfl | assumption | exact beq_self_eq_true _ | exact decide_eq_true rfl) ?_) | (refine g_g_f rfl rfl rfl (by first | rfl | assumption) ?_) | (refine g_if rfl rfl rfl (fun h hp => ?_) (fun h hp => ?_)))) | (show IW _ _ _ _ _; first | (refine awp_seq ?_) | (refine awp_region ?_) | (refine awp_ret ?_)))
    all_goals exact ret1 [] (by decide) rfl (congrArg (fun b => AV.sc (.bool b)) (by simp [clash, hp]))
theorem search1_spec (T : Tb) (j : Nat) : ACalls Try.prog 32 [sV T j] ⟨0, []⟩ (fun r _ => r = .sc (.bool (hasP T (fun e => srch e.a) j))) := by
  cases hT : T j with
  | none =>
    rw [sV, hasP, hT]
    refine enter1 Try.func32 rfl 13 0 [.tmp 2] rfl rfl rfl ?_
    repeat' (first | (refine aops_nil ?_) | (show AOps _ _ _ _ _ _; first | (show AOps _ _ _ _ (⟨some _, .move _, _, _, _, none⟩ :: _) _; first | (refine o_y (v_move (v := .sc _) rfl) rfl ?_)) | (show AOps _ _ _ _ (⟨some _, .assign _, _, _, _, none⟩ :: _) _; first | (refine o_y (v_assign (v := .sc _) rfl) rfl ?_)) | (show AOps _ _ _ _ (⟨some _, .binOp _ _ _ _ _, _, _, _, none⟩ :: _) _; first | (refine o_y (y_neNil0 rfl rfl) rfl ?_)) | (show AOps _ _ _ _ (⟨some _, .pick _ _ _, _, _, _, none⟩ :: _) _; first | (refine o_y (v_pick_f (v := .sc _) rfl (by first | rfl | assumption) rfl) rfl ?_)) | (show AOps _ _ _ _ (⟨_, _, _, _, _, some (_, _)⟩ :: _) _; first | (refine o_g_f rfl rfl rfl (by first | rfl | assumption) ?_))) | (show IW _ _ _ _ _; first | (refine awp_seq ?_) | (refine awp_region ?_) | (refine awp_ret ?_)))
    all_goals exact ret1 [] (by decide) rfl rfl
  | some e =>
    rw [sV, hasP, hT]
    refine enter1 Try.func32 rfl 13 0 [.tmp 2] rfl rfl rfl ?_
    repeat' (first | (refine aops_nil ?_) | (show AOps _ _ _ _ _ _; first | (show AOps _ _ _ _ (⟨some _, .move _, _, _, _, none⟩ :: _) _; first | (refine o_y (v_move (v := .sc _) rfl) rfl ?_) | (refine o_y (v_move (v := .vptr _ _) rfl) rfl ?_)) | (show AOps _ _ _ _ (⟨some _, .load _ _, _, _, _, none⟩ :: _) _; first | (refine o_y (y_vloadA rfl rfl) rfl ?_)) | (show AOps _ _ _ _ (⟨some _, .fieldAddr _ _ _, _, _, _, none⟩ :: _) _; first | (refine o_y (y_fld_vptr rfl rfl) rfl ?_)) | (show AOps _ _ _ _ (⟨some _, .nilCheck _, _, _, _, none⟩ :: _) _; first | (refine o_y (y_nil_vptr rfl) rfl ?_)) | (show AOps _ _ _ _ (⟨some _, .assign _, _, _, _, none⟩ :: _) _; first | (refine o_y (v_assign (v := .sc _) rfl) rfl ?_)) | (show AOps _ _ _ _ (⟨some _, .binOp _ _ _ _ _, _, _, _, none⟩ :: _) _; first | (refine o_y (y_neNilV rfl rfl) rfl ?_)) | (show AOps _ _ _ _ (⟨some _, .pick _ _ _, _, _, _, none⟩ :: _) _; first | (refine o_y (v_pick_t (v := .sc _) rfl (by first | rfl | assumption | exact beq_self_eq_true _ | exact decide_eq_true rfl) rfl) rfl ?_)) | (show AOps _ _ _ _ (⟨some _, .call ⟨.value (.func 28), _, _⟩, _, _, _, none⟩ :: _) _; first | (refine o_q (q_call (search_spec e.a)) rfl ?_)) | (show AOps _ _ _ _ (⟨_, _, _, _, _, some (_, _)⟩ :: _) _; first | (refine o_g_t rfl rfl rfl (by first | rfl | assumption | exact beq_self_eq_true _ | exact decide_eq_true rfl) ?_))) | (show IW _ _ _ _ _; first | (refine awp_seq ?_) | (refine awp_region ?_) | (refine awp_ret ?_)))
    exact ret1 [] (by decide) rfl rfl
theorem taken_spec (T : Tb) (a : As) : ACalls Try.prog 22 [.vptr (tvs T) 0, .agg a.cs] ⟨0, []⟩ (fun r _ => r = .sc (.bool (taken T a))) := by
  refine enter2 Try.func22 rfl 11 0 [.tmp 4] rfl rfl rfl ?_
  repeat' (first | (refine aops_nil ?_) | (show AOps _ _ _ _ _ _; first | (show AOps _ _ _ _ (⟨some _, .assign _, _, _, _, none⟩ :: _) _; first | (refine o_y (v_assign (v := .sc _) rfl) rfl ?_)) | (show AOps _ _ _ _ (⟨_, .box _ _, _, _, _, none⟩ :: _) _; first | (refine o_x (b_agg rfl rfl rfl ?_)))) | (show IW _ _ [.code (.seq _ _)] _ _; first | (show AWP _ _ (.seq (.region 0 _ _) _) _ _; refine awp_seq ?_)) | (show IW _ _ _ _ _; first | (refine awp_region ?_)) | (show thenQ _ _ _ _; first | (refine k_n ?_)))
  refine iw_frzP 3 0 rfl rfl rfl ?_
  repeat' (first | (refine aops_nil ?_) | (show AOps _ _ _ _ _ _; first | (show AOps _ _ _ _ (⟨some _, .move _, _, _, _, none⟩ :: _) _; first | (refine o_y (v_move (v := .vptr _ _) rfl) rfl ?_)) | (show AOps _ _ _ _ (⟨some _, .fieldAddr _ _ _, _, _, _, none⟩ :: _) _; first | (refine o_y (y_fld_vptr rfl rfl) rfl ?_)) | (show AOps _ _ _ _ (⟨some _, .nilCheck _, _, _, _, none⟩ :: _) _; first | (refine o_y (y_nil_vptr rfl) rfl ?_)) | (show AOps _ _ _ _ (⟨some _, .assign _, _, _, _, none⟩ :: _) _; first | (refine o_y (v_assign (v := .sc _) rfl) rfl ?_)) | (show AOps _ _ _ _ (⟨some _, .slice _ _ _ _ _, _, _, _, none⟩ :: _) _; first | (refine o_y (y_sliceArrV rfl (tvs_length _) rfl) rfl ?_)) | (show AOps _ _ _ _ (⟨some _, .makeFunc _ _ _, _, _, _, none⟩ :: _) _; first | (refine o_y (v_f1 (a := .vptr _ _) rfl) rfl ?_)) | (show AOps _ _ _ _ (⟨some _, .call ⟨.value (.func 48), _, _⟩, _, _, _, none⟩ :: _) _; first | (refine o_q (q_call (containsFunc_spec T 49 [.vptr a.cs 0] (fun _ => rfl) (hasP T fun e => clash e.a a) (fun j _ => taken1_spec T a j))) rfl ?_))) | (show IW _ _ _ _ _; first | (refine awp_seq ?_) | (refine awp_region ?_) | (refine awp_ret ?_)))
  exact ret1 [] (by decide) rfl rfl
end Go.Proofs.Ytcidoghpacihpaa.Sx
