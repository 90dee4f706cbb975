/- Associations in their slots: what a table is. What is read of a table: the first free slot; whether an address is taken; a slot by its number. What is read of a table: the association of an address; an entry; all of them. Tables that are owned: where they lie; a slot's pointer. -/
import Derived.Test.YtcidoghpacihpaaT
import Derived.Test.YtcidoghpacihpaaSx38
import Derived.KernelRfl
namespace Go.Proofs.Ytcidoghpacihpaa.Sx
open Go Go.RowKit
attribute [local irreducible] IW AOps AQuiet GQ GY AExec QY Yld ACalls ACallsD
structure As where
  kind : Int
  addr : Int
  key : Int
  minp : Int
  maxp : Int
  burst : Bool
  iburst : Bool
  prefer : Bool
  ttl : Int
  pulse : Bool
  fudge : Int
  stratum : Int
deriving DecidableEq
def As.cs (a : As) : List AV := [.sc (.int .i64 a.kind), .sc (.int .u32 a.addr), .sc (.int .i64 a.key), .sc (.int .i64 a.minp), .sc (.int .i64 a.maxp), .sc (.bool a.burst), .sc (.bool a.iburst), .sc (.bool a.prefer), .sc (.int .i64 a.ttl), .sc (.bool a.pulse), .sc (.int .i64 a.fudge), .sc (.int .i64 a.stratum)]
/-- An entry, and how far its last request went. -/
structure Ro where
  id : Int
  a : As
  par : Int
  ends : Int
  hops : Int
deriving DecidableEq
def Ro.en (e : Ro) : List AV := [.sc (.int .i64 e.id), .sc (.int .i64 e.a.kind), .sc (.int .u32 e.a.addr), .sc (.int .i64 e.a.key), .sc (.int .i64 e.a.minp), .sc (.int .i64 e.a.maxp), .sc (.bool e.a.burst), .sc (.bool e.a.iburst), .sc (.bool e.a.prefer), .sc (.int .i64 e.a.ttl), .sc (.bool e.a.pulse), .sc (.int .i64 e.a.fudge), .sc (.int .i64 e.a.stratum), .sc (.int .i64 e.par), .sc (.int .i64 e.ends)]
def Ro.cs (e : Ro) : List AV := [.sc (.int .i64 e.id), .sc (.int .i64 e.a.kind), .sc (.int .u32 e.a.addr), .sc (.int .i64 e.a.key), .sc (.int .i64 e.a.minp), .sc (.int .i64 e.a.maxp), .sc (.bool e.a.burst), .sc (.bool e.a.iburst), .sc (.bool e.a.prefer), .sc (.int .i64 e.a.ttl), .sc (.bool e.a.pulse), .sc (.int .i64 e.a.fudge), .sc (.int .i64 e.a.stratum), .sc (.int .i64 e.par), .sc (.int .i64 e.ends), .sc (.int .i64 e.hops)]
abbrev Tb := Nat → Option Ro
def pnil : AV := .sc (.pointer none)
def sV (T : Tb) (j : Nat) : AV := match T j with | none => pnil | some e => .vptr e.cs 0
def tvs (T : Tb) : List AV := (List.range 16).map (sV T)
theorem tvs_length (T : Tb) : (tvs T).length = 16 := by simp [tvs]
theorem tvs_get {T : Tb} {i : Nat} (h : i < 16) : (tvs T)[i]? = some (sV T i) := by simp [tvs, h]
theorem tvs_none {T : Tb} {i k : Nat} (h : i < 16) (hk : k = i) (hT : T i = none) : (tvs T)[k]? = some (.sc (.pointer none)) := by subst hk; rw [tvs_get h, sV, hT]; rfl
theorem tvs_some {T : Tb} {i k : Nat} {e : Ro} (h : i < 16) (hk : k = i) (hT : T i = some e) : (tvs T)[k]? = some (.vptr e.cs 0) := by subst hk; rw [tvs_get h, sV, hT]
/-- The first place below n that ..; -1: there is none. -/
def fst (p : Nat → Bool) : Nat → Int
  | 0 => -1
  | n + 1 => if fst p n = -1 then (if p n then (n : Int) else -1) else fst p n
theorem fst_none {p : Nat → Bool} : ∀ {n : Nat}, (∀ j, j < n → p j = false) → fst p n = -1
  | 0, _ => rfl
  | n + 1, h => by
    have h1 : fst p n = -1 := fst_none fun j hj => h j (by omega)
    have h2 := h n (by omega)
    simp [fst, h1, h2]
theorem fst_hit {p : Nat → Bool} {i : Nat} (hp : p i = true) (h : ∀ j, j < i → p j = false) : ∀ {n : Nat}, i < n → fst p n = i
  | 0, hn => by omega
  | n + 1, hn => by
    unfold fst
    by_cases e : n = i
    · subst e
      rw [if_pos (fst_none h), if_pos hp]
    · rw [if_neg (by rw [fst_hit hp h (by omega : i < n)]; omega), fst_hit hp h (by omega)]
theorem fst_cases (p : Nat → Bool) : ∀ n : Nat, (fst p n = -1 ∧ ∀ j, j < n → p j = false) ∨ ∃ i, fst p n = (i : Nat) ∧ i < n ∧ p i = true ∧ ∀ j, j < i → p j = false
  | 0 => .inl ⟨rfl, fun j hj => by omega⟩
  | n + 1 => by
    rcases fst_cases p n with ⟨h1, h2⟩ | ⟨i, h1, h2, h3, h4⟩
    · cases hp : p n with
      | true => exact .inr ⟨n, fst_hit hp h2 (by omega), by omega, hp, h2⟩
      | false =>
        have : ∀ j, j < n + 1 → p j = false := fun j hj => by
          by_cases e : j = n
          · subst e; exact hp
          · exact h2 j (by omega)
        exact .inl ⟨fst_none this, this⟩
    · exact .inr ⟨i, fst_hit h3 h4 (by omega), by omega, h3, h4⟩
def isNone (T : Tb) (j : Nat) : Bool := (T j).isNone
def free (T : Tb) : Int := fst (isNone T) 16
def clk (a : As) : Bool := decide (a.kind = 6)
def clash (a b : As) : Bool := decide (a.addr = b.addr) && (clk a == clk b)
def hasP (T : Tb) (p : Ro → Bool) (j : Nat) : Bool := match T j with | none => false | some e => p e
def taken (T : Tb) (a : As) : Bool := decide (0 ≤ fst (hasP T fun e => clash e.a a) 16)
def get (T : Tb) (id : Int) : Option Ro := if 1 ≤ id ∧ id ≤ 16 then T (id - 1).toNat else none
def gV (T : Tb) (id : Int) : AV := match get T id with | none => pnil | some e => .vptr e.cs 0
def later (now : Int) : Int := if now > 9223372036854771711 then 9223372036854775807 else if now = -4096 then 1 else now + 4096
def findP (addr : Int) (e : Ro) : Bool := !clk e.a && decide (e.a.addr = addr)
end Go.Proofs.Ytcidoghpacihpaa.Sx
namespace Go.Proofs.Ytcidoghpacihpaa.Sx
open Go Go.RowKit
attribute [local irreducible] IW AOps AQuiet GQ GY AExec QY Yld ACalls ACallsD
theorem clock_spec (a : As) : ACalls Try.prog 50 [.agg a.cs] ⟨0, []⟩ (fun r _ => r = .sc (.bool (clk a))) := by
  refine enter1 Try.func50 rfl 6 0 [.tmp 2] rfl rfl rfl ?_
  repeat' (first | (refine aops_nil ?_) | (show AOps _ _ _ _ _ _; first | (show AOps _ _ _ _ (⟨some _, .load _ _, _, _, _, none⟩ :: _) _; first | (refine o_y (y_load1 (v := .sc _) rfl rfl rfl) rfl ?_)) | (show AOps _ _ _ _ (⟨some _, .fieldAddr _ _ _, _, _, _, none⟩ :: _) _; first | (refine o_y (y_fld_ptr rfl rfl) rfl ?_)) | (show AOps _ _ _ _ (⟨some _, .assign _, _, _, _, none⟩ :: _) _; first | (refine o_y (v_assign (v := .sc _) rfl) rfl ?_)) | (show AOps _ _ _ _ (⟨some _, .binOp _ _ _ _ _, _, _, _, none⟩ :: _) _; first | (refine o_y (y_bin rfl rfl rfl) rfl ?_)) | (show AOps _ _ _ _ (⟨_, .box _ _, _, _, _, none⟩ :: _) _; first | (refine o_x (b_agg rfl rfl rfl ?_)))) | (show IW _ _ _ _ _; first | (refine awp_seq ?_) | (refine awp_region ?_) | (refine awp_ret ?_)))
  exact ret1 [] (by decide) rfl (congrArg (fun b => AV.sc (.bool b)) (by first | rfl | (rw [Bool.eq_iff_iff]; simp only [clk, decide_eq_true_eq, beq_iff_eq, bne_iff_ne, ne_eq, Bool.and_eq_true, Bool.or_eq_true, Bool.not_eq_true', decide_eq_false_iff_not, beq_eq_false_iff_ne, bne_eq_false_iff_eq, Bool.not_eq_true, Bool.false_eq_true, false_iff, true_iff, iff_true, iff_false, and_true, true_and, false_and, and_false, or_true, true_or, or_false, false_or, not_true_eq_false, not_false_eq_true, reduceCtorEq, not_and, not_or, not_not]; first | omega | (constructor <;> intro hh <;> omega)) | (simp [clk, *]; done) | (rw [Bool.eq_iff_iff]; simp [clk, *]; done)))
def srch (a : As) : Bool := decide (a.kind = 4) || decide (a.kind = 5)
theorem search_spec (a : As) : ACalls Try.prog 28 [.agg a.cs] ⟨0, []⟩ (fun r _ => r = .sc (.bool (srch a))) := by
  refine enter1 Try.func28 rfl 11 0 [.tmp 2] rfl rfl rfl ?_
  repeat' (first | (refine aops_nil ?_) | (show AOps _ _ _ _ _ _; first | (show AOps _ _ _ _ (⟨some _, .move _, _, _, _, none⟩ :: _) _; first | (refine o_y (v_move (v := .sc _) rfl) rfl ?_)) | (show AOps _ _ _ _ (⟨some _, .load _ _, _, _, _, none⟩ :: _) _; first | (refine o_y (y_load1 (v := .sc _) rfl rfl rfl) rfl ?_)) | (show AOps _ _ _ _ (⟨some _, .fieldAddr _ _ _, _, _, _, none⟩ :: _) _; first | (refine o_y (y_fld_ptr rfl rfl) rfl ?_)) | (show AOps _ _ _ _ (⟨some _, .assign _, _, _, _, none⟩ :: _) _; first | (refine o_y (v_assign (v := .sc _) rfl) rfl ?_)) | (show AOps _ _ _ _ (⟨some _, .binOp _ _ _ _ _, _, _, _, none⟩ :: _) _; first | (refine o_y (y_bin rfl rfl rfl) rfl ?_)) | (show AOps _ _ _ _ (⟨some _, .pick _ _ _, _, _, _, none⟩ :: _) _; first | (refine o_y (v_pick_t (v := .sc _) rfl (by first | rfl | assumption | exact beq_self_eq_true _ | exact decide_eq_true rfl) rfl) rfl ?_) | (refine o_y (v_pick_f (v := .sc _) rfl (by first | rfl | assumption) rfl) rfl ?_)) | (show AOps _ _ _ _ (⟨_, .box _ _, _, _, _, none⟩ :: _) _; first | (refine o_x (b_agg rfl rfl rfl ?_))) | (show AOps _ _ _ _ (⟨_, _, _, _, _, some (_, _)⟩ :: _) _; first | (refine o_g_t rfl rfl rfl (by first | rfl | assumption | exact beq_self_eq_true _ | exact decide_eq_true rfl) ?_) | (refine o_g_f rfl rfl rfl (by first | rfl | assumption) ?_) | (refine o_un rfl rfl rfl (fun h hp => ?_) (fun h hp => ?_)))) | (show IW _ _ _ _ _; first | (refine awp_seq ?_) | (refine awp_region ?_) | (refine awp_ret ?_)))
  all_goals exact ret1 [] (by decide) rfl (congrArg (fun b => AV.sc (.bool b)) (by first | rfl | (rw [Bool.eq_iff_iff]; simp only [srch, decide_eq_true_eq, beq_iff_eq, bne_iff_ne, ne_eq, Bool.and_eq_true, Bool.or_eq_true, Bool.not_eq_true', decide_eq_false_iff_not, beq_eq_false_iff_ne, bne_eq_false_iff_eq, Bool.not_eq_true, Bool.false_eq_true, false_iff, true_iff, iff_true, iff_false, and_true, true_and, false_and, and_false, or_true, true_or, or_false, false_or, not_true_eq_false, not_false_eq_true, reduceCtorEq, not_and, not_or, not_not]; first | omega | (constructor <;> intro hh <;> omega)) | (simp [srch, *]; done) | (rw [Bool.eq_iff_iff]; simp [srch, *]; done)))
theorem later_spec (n : Int) (hn : -9223372036854775808 ≤ n) : ACalls Try.prog 25 [.sc (.int .i64 n)] ⟨0, []⟩ (fun r _ => r = .sc (.int .i64 (later n))) := by
  refine enter1 Try.func25 rfl 11 0 [.tmp 2] rfl rfl rfl ?_
  by_cases h1 : n > 9223372036854771711
  · repeat' (first | (refine aops_nil ?_) | (show AOps _ _ _ _ _ _; first | (show AOps _ _ _ _ (⟨some _, .move _, _, _, _, none⟩ :: _) _; first | (refine o_y (v_move (v := .sc _) rfl) rfl ?_)) | (show AOps _ _ _ _ (⟨some _, .assign _, _, _, _, none⟩ :: _) _; first | (refine o_y (v_assign (v := .sc _) rfl) rfl ?_)) | (show AOps _ _ _ _ (⟨some _, .binOp .add _ _ _ _, _, _, _, none⟩ :: _) _; first | (refine o_y (z_add rfl rfl (by omega) (by omega)) rfl ?_) | (refine o_y (y_bin rfl rfl rfl) rfl ?_)) | (show AOps _ _ _ _ (⟨some _, .binOp _ _ _ _ _, _, _, _, none⟩ :: _) _; first | (refine o_y (y_bin rfl rfl rfl) rfl ?_))) | (show IW _ _ _ _ _; first | (refine awp_seq ?_) | (refine awp_region ?_) | (refine awp_block ?_) | (refine awp_ret ?_) | (refine awp_skip ?_) | (refine awp_if rfl (fun h hp => ?_) (fun h hp => ?_))) | (show thenQ _ _ _ _; first | (refine k_r ?_)) | (show blockQ _ _ _ _; first | (refine b_r ?_)))
    all_goals first | (exfalso; omega) | exact ret1 [] (by decide) rfl (congrArg (fun x => AV.sc (.int .i64 x)) (by simp [later, h1]))
  · by_cases h2 : n = -4096
    · repeat' (first | (refine aops_nil ?_) | (show AOps _ _ _ _ _ _; first | (show AOps _ _ _ _ (⟨some _, .move _, _, _, _, none⟩ :: _) _; first | (refine o_y (v_move (v := .sc _) rfl) rfl ?_)) | (show AOps _ _ _ _ (⟨some _, .assign _, _, _, _, none⟩ :: _) _; first | (refine o_y (v_assign (v := .sc _) rfl) rfl ?_)) | (show AOps _ _ _ _ (⟨some _, .binOp .add _ _ _ _, _, _, _, none⟩ :: _) _; first | (refine o_y (z_add rfl rfl (by omega) (by omega)) rfl ?_) | (refine o_y (y_bin rfl rfl rfl) rfl ?_)) | (show AOps _ _ _ _ (⟨some _, .binOp _ _ _ _ _, _, _, _, none⟩ :: _) _; first | (refine o_y (y_bin rfl rfl rfl) rfl ?_))) | (show IW _ _ _ _ _; first | (refine awp_seq ?_) | (refine awp_region ?_) | (refine awp_block ?_) | (refine awp_ret ?_) | (refine awp_skip ?_) | (refine awp_if rfl (fun h hp => ?_) (fun h hp => ?_))) | (show thenQ _ _ _ _; first | (refine k_r ?_)) | (show blockQ _ _ _ _; first | (refine b_r ?_)))
      all_goals first | (exfalso; omega) | exact ret1 [] (by decide) rfl (congrArg (fun x => AV.sc (.int .i64 x)) (by simp [later, h1, h2]))
    · repeat' (first | (refine aops_nil ?_) | (show AOps _ _ _ _ _ _; first | (show AOps _ _ _ _ (⟨some _, .move _, _, _, _, none⟩ :: _) _; first | (refine o_y (v_move (v := .sc _) rfl) rfl ?_)) | (show AOps _ _ _ _ (⟨some _, .assign _, _, _, _, none⟩ :: _) _; first | (refine o_y (v_assign (v := .sc _) rfl) rfl ?_)) | (show AOps _ _ _ _ (⟨some _, .binOp .add _ _ _ _, _, _, _, none⟩ :: _) _; first | (refine o_y (z_add rfl rfl (by omega) (by omega)) rfl ?_) | (refine o_y (y_bin rfl rfl rfl) rfl ?_)) | (show AOps _ _ _ _ (⟨some _, .binOp _ _ _ _ _, _, _, _, none⟩ :: _) _; first | (refine o_y (y_bin rfl rfl rfl) rfl ?_))) | (show IW _ _ _ _ _; first | (refine awp_seq ?_) | (refine awp_region ?_) | (refine awp_block ?_) | (refine awp_ret ?_) | (refine awp_skip ?_) | (refine awp_if rfl (fun h hp => ?_) (fun h hp => ?_))) | (show thenQ _ _ _ _; first | (refine k_r ?_)) | (show blockQ _ _ _ _; first | (refine b_r ?_)))
      all_goals first | (exfalso; omega) | exact ret1 [] (by decide) rfl (congrArg (fun x => AV.sc (.int .i64 x)) (by simp [later, h1, h2]))
theorem get_spec (T : Tb) (id : Int) : ACalls Try.prog 24 [.vptr (tvs T) 0, .sc (.int .i64 id)] ⟨0, []⟩ (fun r _ => r = gV T id) := by
  refine enter2 Try.func24 rfl 18 0 [.tmp 4] rfl rfl rfl ?_
  by_cases h : 1 ≤ id ∧ id ≤ 16
  · have hV : sV T (id - 1).toNat = gV T id := by unfold gV get sV; rw [if_pos h]
    have v0 : (tvs T)[0 + 0 + (id - 1).toNat * 1]? = some (sV T (id - 1).toNat) := by rw [show 0 + 0 + (id - 1).toNat * 1 = (id - 1).toNat by omega, tvs_get (by omega)]
    rw [← hV]
    cases hT : T (id - 1).toNat with
    | none =>
      rw [sV, hT] at v0 ⊢
      repeat' (first | (refine aops_nil ?_) | (show AOps _ _ _ _ _ _; first | (show AOps _ _ _ _ (⟨some _, .move _, _, _, _, none⟩ :: _) _; first | (refine o_y (v_move (v := .sc _) rfl) rfl ?_) | (refine o_y (v_move (v := .vptr _ _) rfl) rfl ?_)) | (show AOps _ _ _ _ (⟨some _, .load _ _, _, _, _, none⟩ :: _) _; first | (refine o_y (y_vload rfl (by assumption)) rfl ?_)) | (show AOps _ _ _ _ (⟨some _, .fieldAddr _ _ _, _, _, _, none⟩ :: _) _; first | (refine o_y (y_fld_vptr rfl rfl) rfl ?_)) | (show AOps _ _ _ _ (⟨some _, .nilCheck _, _, _, _, none⟩ :: _) _; first | (refine o_y (y_nil_vptr rfl) rfl ?_)) | (show AOps _ _ _ _ (⟨some _, .assign _, _, _, _, none⟩ :: _) _; first | (refine o_y (v_assign (v := .sc _) rfl) rfl ?_)) | (show AOps _ _ _ _ (⟨some _, .binOp .sub _ _ _ _, _, _, _, none⟩ :: _) _; first | (refine o_y (z_sub rfl rfl (by omega) (by omega)) rfl ?_) | (refine o_y (y_bin rfl rfl rfl) rfl ?_)) | (show AOps _ _ _ _ (⟨some _, .binOp _ _ _ _ _, _, _, _, none⟩ :: _) _; first | (refine o_y (y_bin rfl rfl rfl) rfl ?_)) | (show AOps _ _ _ _ (⟨some _, .pick _ _ _, _, _, _, none⟩ :: _) _; first | (refine o_y (v_pick_t (v := .sc _) rfl (by first | rfl | assumption | exact beq_self_eq_true _ | exact decide_eq_true rfl) rfl) rfl ?_) | (refine o_y (v_pick_f (v := .sc _) rfl (by first | rfl | assumption) rfl) rfl ?_)) | (show AOps _ _ _ _ (⟨some _, .indexAddr _ _ _, _, _, _, none⟩ :: _) _; first | (refine o_y (y_ix_varr rfl rfl (by omega) (by omega)) rfl ?_)) | (show AOps _ _ _ _ (⟨_, _, _, _, _, some (_, _)⟩ :: _) _; first | (refine o_g_t rfl rfl rfl (by first | rfl | assumption | exact beq_self_eq_true _ | exact decide_eq_true rfl) ?_) | (refine o_g_f rfl rfl rfl (by first | rfl | assumption) ?_) | (refine o_un rfl rfl rfl (fun h hp => ?_) (fun h hp => ?_)))) | (show IW _ _ _ _ _; first | (refine awp_seq ?_) | (refine awp_region ?_) | (refine awp_ret ?_) | (refine awp_skip ?_) | (refine awp_if_t rfl (by first | rfl | assumption | exact beq_self_eq_true _ | exact decide_eq_true rfl) ?_) | (refine awp_if rfl (fun h hp => ?_) (fun h hp => ?_))) | (show thenQ _ _ _ _; first | (refine k_r ?_)))
      all_goals first | (exfalso; omega) | exact ret1 [] (by decide) rfl rfl
    | some e =>
      rw [sV, hT] at v0 ⊢
      repeat' (first | (refine aops_nil ?_) | (show AOps _ _ _ _ _ _; first | (show AOps _ _ _ _ (⟨some _, .move _, _, _, _, none⟩ :: _) _; first | (refine o_y (v_move (v := .sc _) rfl) rfl ?_) | (refine o_y (v_move (v := .vptr _ _) rfl) rfl ?_)) | (show AOps _ _ _ _ (⟨some _, .load _ _, _, _, _, none⟩ :: _) _; first | (refine o_y (y_vload rfl (by assumption)) rfl ?_)) | (show AOps _ _ _ _ (⟨some _, .fieldAddr _ _ _, _, _, _, none⟩ :: _) _; first | (refine o_y (y_fld_vptr rfl rfl) rfl ?_)) | (show AOps _ _ _ _ (⟨some _, .nilCheck _, _, _, _, none⟩ :: _) _; first | (refine o_y (y_nil_vptr rfl) rfl ?_)) | (show AOps _ _ _ _ (⟨some _, .assign _, _, _, _, none⟩ :: _) _; first | (refine o_y (v_assign (v := .sc _) rfl) rfl ?_) | (refine o_y (v_assign (v := .vptr _ _) rfl) rfl ?_)) | (show AOps _ _ _ _ (⟨some _, .binOp .sub _ _ _ _, _, _, _, none⟩ :: _) _; first | (refine o_y (z_sub rfl rfl (by omega) (by omega)) rfl ?_) | (refine o_y (y_bin rfl rfl rfl) rfl ?_)) | (show AOps _ _ _ _ (⟨some _, .binOp _ _ _ _ _, _, _, _, none⟩ :: _) _; first | (refine o_y (y_bin rfl rfl rfl) rfl ?_)) | (show AOps _ _ _ _ (⟨some _, .pick _ _ _, _, _, _, none⟩ :: _) _; first | (refine o_y (v_pick_t (v := .sc _) rfl (by first | rfl | assumption | exact beq_self_eq_true _ | exact decide_eq_true rfl) rfl) rfl ?_) | (refine o_y (v_pick_f (v := .sc _) rfl (by first | rfl | assumption) rfl) rfl ?_)) | (show AOps _ _ _ _ (⟨some _, .indexAddr _ _ _, _, _, _, none⟩ :: _) _; first | (refine o_y (y_ix_varr rfl rfl (by omega) (by omega)) rfl ?_)) | (show AOps _ _ _ _ (⟨_, _, _, _, _, some (_, _)⟩ :: _) _; first | (refine o_g_t rfl rfl rfl (by first | rfl | assumption | exact beq_self_eq_true _ | exact decide_eq_true rfl) ?_) | (refine o_g_f rfl rfl rfl (by first | rfl | assumption) ?_) | (refine o_un rfl rfl rfl (fun h hp => ?_) (fun h hp => ?_)))) | (show IW _ _ _ _ _; first | (refine awp_seq ?_) | (refine awp_region ?_) | (refine awp_ret ?_) | (refine awp_skip ?_) | (refine awp_if_t rfl (by first | rfl | assumption | exact beq_self_eq_true _ | exact decide_eq_true rfl) ?_) | (refine awp_if rfl (fun h hp => ?_) (fun h hp => ?_))) | (show thenQ _ _ _ _; first | (refine k_r ?_)))
      all_goals first | (exfalso; omega) | exact ret1 [] (by decide) rfl rfl
  · have hV : gV T id = pnil := by unfold gV get; rw [if_neg h]
    rw [hV]
    by_cases h1 : id < 1
    · repeat' (first | (refine aops_nil ?_) | (show AOps _ _ _ _ _ _; first | (show AOps _ _ _ _ (⟨some _, .move _, _, _, _, none⟩ :: _) _; first | (refine o_y (v_move (v := .sc _) rfl) rfl ?_) | (refine o_y (v_move (v := .vptr _ _) rfl) rfl ?_)) | (show AOps _ _ _ _ (⟨some _, .fieldAddr _ _ _, _, _, _, none⟩ :: _) _; first | (refine o_y (y_fld_vptr rfl rfl) rfl ?_)) | (show AOps _ _ _ _ (⟨some _, .nilCheck _, _, _, _, none⟩ :: _) _; first | (refine o_y (y_nil_vptr rfl) rfl ?_)) | (show AOps _ _ _ _ (⟨some _, .assign _, _, _, _, none⟩ :: _) _; first | (refine o_y (v_assign (v := .sc _) rfl) rfl ?_)) | (show AOps _ _ _ _ (⟨some _, .binOp .sub _ _ _ _, _, _, _, none⟩ :: _) _; first | (refine o_y (z_sub rfl rfl (by omega) (by omega)) rfl ?_) | (refine o_y (y_bin rfl rfl rfl) rfl ?_)) | (show AOps _ _ _ _ (⟨some _, .binOp _ _ _ _ _, _, _, _, none⟩ :: _) _; first | (refine o_y (y_bin rfl rfl rfl) rfl ?_)) | (show AOps _ _ _ _ (⟨some _, .pick _ _ _, _, _, _, none⟩ :: _) _; first | (refine o_y (v_pick_t (v := .sc _) rfl (by first | rfl | assumption | exact beq_self_eq_true _ | exact decide_eq_true rfl) rfl) rfl ?_) | (refine o_y (v_pick_f (v := .sc _) rfl (by first | rfl | assumption) rfl) rfl ?_)) | (show AOps _ _ _ _ (⟨some _, .indexAddr _ _ _, _, _, _, none⟩ :: _) _; first | (refine o_y (y_ix_varr rfl rfl (by omega) (by omega)) rfl ?_)) | (show AOps _ _ _ _ (⟨_, _, _, _, _, some (_, _)⟩ :: _) _; first | (refine o_g_t rfl rfl rfl (by first | rfl | assumption | exact beq_self_eq_true _ | exact decide_eq_true rfl) ?_) | (refine o_g_f rfl rfl rfl (by first | rfl | assumption) ?_) | (refine o_un rfl rfl rfl (fun h hp => ?_) (fun h hp => ?_)))) | (show IW _ _ _ _ _; first | (refine awp_seq ?_) | (refine awp_region ?_) | (refine awp_ret ?_) | (refine awp_skip ?_) | (refine awp_if_t rfl (by first | rfl | assumption | exact beq_self_eq_true _ | exact decide_eq_true rfl) ?_) | (refine awp_if rfl (fun h hp => ?_) (fun h hp => ?_))) | (show thenQ _ _ _ _; first | (refine k_r ?_)))
      all_goals first | (exfalso; omega) | exact ret1 [] (by decide) rfl rfl
    · have h2 : id > 16 := by omega
      repeat' (first | (refine aops_nil ?_) | (show AOps _ _ _ _ _ _; first | (show AOps _ _ _ _ (⟨some _, .move _, _, _, _, none⟩ :: _) _; first | (refine o_y (v_move (v := .sc _) rfl) rfl ?_)) | (show AOps _ _ _ _ (⟨some _, .assign _, _, _, _, none⟩ :: _) _; first | (refine o_y (v_assign (v := .sc _) rfl) rfl ?_)) | (show AOps _ _ _ _ (⟨some _, .binOp .sub _ _ _ _, _, _, _, none⟩ :: _) _; first | (refine o_y (y_bin rfl rfl rfl) rfl ?_)) | (show AOps _ _ _ _ (⟨some _, .binOp _ _ _ _ _, _, _, _, none⟩ :: _) _; first | (refine o_y (y_bin rfl rfl rfl) rfl ?_)) | (show AOps _ _ _ _ (⟨some _, .pick _ _ _, _, _, _, none⟩ :: _) _; first | (refine o_y (v_pick_t (v := .sc _) rfl (by first | rfl | assumption | exact beq_self_eq_true _ | exact decide_eq_true rfl) rfl) rfl ?_) | (refine o_y (v_pick_f (v := .sc _) rfl (by first | rfl | assumption) rfl) rfl ?_)) | (show AOps _ _ _ _ (⟨_, _, _, _, _, some (_, _)⟩ :: _) _; first | (refine o_g_t rfl rfl rfl (by first | rfl | assumption | exact beq_self_eq_true _ | exact decide_eq_true rfl) ?_) | (refine o_g_f rfl rfl rfl (by first | rfl | assumption) ?_) | (refine o_un rfl rfl rfl (fun h hp => ?_) (fun h hp => ?_)))) | (show IW _ _ [.code (.seq _ _)] _ _; first | (show AWP _ _ (.seq (.seq _ _) _) _ _; refine awp_seq ?_) | (show AWP _ _ (.seq (.region 0 _ _) _) _ _; refine awp_seq ?_) | (show AWP _ _ (.seq (.region 1 _ _) _) _ _; refine awp_seq ?_) | (show AWP _ _ (.seq (.region 2 _ _) _) _ _; refine awp_seq ?_)) | (show IW _ _ _ _ _; first | (refine awp_region ?_) | (refine awp_ret ?_) | (refine awp_skip ?_) | (refine awp_if_t rfl (by first | rfl | assumption | exact beq_self_eq_true _ | exact decide_eq_true rfl) ?_) | (refine awp_if rfl (fun h hp => ?_) (fun h hp => ?_))) | (show thenQ _ _ _ _; first | (refine k_n ?_) | (refine k_r ?_)))
      all_goals first | (exfalso; omega) | exact ret1 [] (by decide) rfl rfl
theorem index_spec (T : Tb) : ACalls Try.prog 23 [.vsl (tvs T) 1 0 16, .sc (.pointer none)] ⟨0, []⟩ (fun r _ => r = .sc (.int .i64 (free T))) := by
  refine enter2 Try.func23 rfl 19 0 [.tmp 4] rfl rfl rfl ?_
  repeat' (first | (refine aops_nil ?_) | (show AOps _ _ _ _ _ _; first | (show AOps _ _ _ _ (⟨some _, .move _, _, _, _, none⟩ :: _) _; first | (refine o_y (v_move (v := .sc _) rfl) rfl ?_) | (refine o_y (v_move (v := .vsl _ _ _ _) rfl) rfl ?_)) | (show AOps _ _ _ _ (⟨some _, .assign _, _, _, _, none⟩ :: _) _; first | (refine o_y (v_assign (v := .sc _) rfl) rfl ?_)) | (show AOps _ _ _ _ (⟨some _, .call ⟨.builtin .len, _, _⟩, _, _, _, none⟩ :: _) _; first | (refine o_y (y_lenV rfl) rfl ?_))) | (show IW _ _ [.code (.seq _ _)] _ _; first | (show AWP _ _ (.seq (.region _ _ _) _) _ _; refine awp_seq ?_) | (show AWP _ _ (.seq (.seq _ _) _) _ _; refine awp_seq ?_)) | (show IW _ _ _ _ _; first | (refine awp_region ?_) | (refine awp_block ?_)))
  refine awp_loopI (fun i : Nat => i ≤ 16 ∧ ∀ j, j < i → isNone T j = false) (fun i => 16 - i) (fun i => [(0, .vsl (tvs T) 1 0 16), (1, .sc (.pointer none)), (7, .sc (.int .i64 16)), (8, .sc (.int .i64 i))]) 0 (fun _ => []) 0 [] (by decide) rfl rfl rfl ⟨Nat.zero_le _, fun j hj => by omega⟩ ⟨rfl, rfl, rfl, rfl, trivial⟩ trivial ?_
  rintro i ⟨h1, h2⟩ ih
  by_cases hlt : i < 16
  · cases hT : T i with
    | none =>
      have v0 : (tvs T)[(0 + Int.toNat i) * 1]? = some (.sc (.pointer none)) := tvs_none hlt (by omega) hT
      have hf : free T = i := fst_hit (by simp [isNone, hT]) h2 hlt
      rw [hf]
      repeat' (first | (refine aops_nil ?_) | (show AOps _ _ _ _ _ _; first | (show AOps _ _ _ _ (⟨some _, .move _, _, _, _, none⟩ :: _) _; first | (refine o_y (v_move (v := .sc _) rfl) rfl ?_) | (refine o_y (v_move (v := .vsl _ _ _ _) rfl) rfl ?_)) | (show AOps _ _ _ _ (⟨some _, .load _ _, _, _, _, none⟩ :: _) _; first | (refine o_y (y_vload rfl (by assumption)) rfl ?_)) | (show AOps _ _ _ _ (⟨some _, .assign _, _, _, _, none⟩ :: _) _; first | (refine o_y (v_assign (v := .sc _) rfl) rfl ?_)) | (show AOps _ _ _ _ (⟨some _, .binOp .add _ _ _ _, _, _, _, none⟩ :: _) _; first | (refine o_y (y_bin rfl rfl rfl) rfl ?_)) | (show AOps _ _ _ _ (⟨some _, .binOp _ _ _ _ _, _, _, _, none⟩ :: _) _; first | (refine o_y (y_bin rfl rfl rfl) rfl ?_) | (refine o_y (y_eqNil0 rfl rfl) rfl ?_)) | (show AOps _ _ _ _ (⟨some _, .indexAddr _ _ _, _, _, _, none⟩ :: _) _; first | (refine o_y (y_ix_vsl rfl rfl rfl (by omega) (by omega)) rfl ?_))) | (show IW _ _ _ _ _; first | (refine awp_seq ?_) | (refine awp_region ?_) | (refine awp_block ?_) | (refine awp_exit ?_) | (refine awp_ret ?_) | (refine awp_skip ?_) | (refine awp_if_t rfl (by first | rfl | assumption | exact beq_self_eq_true _ | exact decide_eq_true rfl) ?_) | (refine awp_if rfl (fun h hp => ?_) (fun h hp => ?_))) | (show thenQ _ _ _ _; first | (refine k_r ?_)) | (show blockQ _ _ _ _; first | (refine b_r ?_)))
      all_goals first | (exfalso; omega) | exact ret1 [] (by decide) rfl rfl
    | some e =>
      have v0 : (tvs T)[(0 + Int.toNat i) * 1]? = some (.vptr e.cs 0) := tvs_some hlt (by omega) hT
      repeat' (first | (refine aops_nil ?_) | (show AOps _ _ _ _ _ _; first | (show AOps _ _ _ _ (⟨some _, .move _, _, _, _, none⟩ :: _) _; first | (refine o_y (v_move (v := .sc _) rfl) rfl ?_) | (refine o_y (v_move (v := .vsl _ _ _ _) rfl) rfl ?_)) | (show AOps _ _ _ _ (⟨some _, .load _ _, _, _, _, none⟩ :: _) _; first | (refine o_y (y_vload rfl (by assumption)) rfl ?_)) | (show AOps _ _ _ _ (⟨some _, .assign _, _, _, _, none⟩ :: _) _; first | (refine o_y (v_assign (v := .sc _) rfl) rfl ?_)) | (show AOps _ _ _ _ (⟨some _, .binOp .add _ _ _ _, _, _, _, none⟩ :: _) _; first | (refine o_y (z_add rfl rfl (by omega) (by omega)) rfl ?_) | (refine o_y (y_bin rfl rfl rfl) rfl ?_)) | (show AOps _ _ _ _ (⟨some _, .binOp _ _ _ _ _, _, _, _, none⟩ :: _) _; first | (refine o_y (y_bin rfl rfl rfl) rfl ?_) | (refine o_y (y_eqNilL rfl rfl) rfl ?_)) | (show AOps _ _ _ _ (⟨some _, .indexAddr _ _ _, _, _, _, none⟩ :: _) _; first | (refine o_y (y_ix_vsl rfl rfl rfl (by omega) (by omega)) rfl ?_))) | (show IW _ _ _ _ _; first | (refine awp_seq ?_) | (refine awp_region ?_) | (refine awp_block ?_) | (refine awp_exit ?_) | (refine awp_ret ?_) | (refine awp_skip ?_) | (refine awp_if_f rfl (by first | rfl | assumption) ?_) | (refine awp_if rfl (fun h hp => ?_) (fun h hp => ?_))) | (show thenQ _ _ _ _; first | (refine k_n ?_)))
      all_goals first
        | (exfalso; omega)
        | exact iw_at [] (ih (i + 1) ⟨hlt, fun j hj => by
            by_cases e' : j = i
            · subst e'; simp [isNone, hT]
            · exact h2 j (by omega)⟩ (by omega)) (by decide) rfl rfl rfl ⟨rfl, rfl, rfl, rfl, trivial⟩ trivial
  · have hf : free T = -1 := fst_none fun j hj => h2 j (by omega)
    rw [hf]
    repeat' (first | (refine aops_nil ?_) | (show AOps _ _ _ _ _ _; first | (show AOps _ _ _ _ (⟨some _, .move _, _, _, _, none⟩ :: _) _; first | (refine o_y (v_move (v := .sc _) rfl) rfl ?_) | (refine o_y (v_move (v := .vsl _ _ _ _) rfl) rfl ?_)) | (show AOps _ _ _ _ (⟨some _, .assign _, _, _, _, none⟩ :: _) _; first | (refine o_y (v_assign (v := .sc _) rfl) rfl ?_)) | (show AOps _ _ _ _ (⟨some _, .binOp .add _ _ _ _, _, _, _, none⟩ :: _) _; first | (refine o_y (y_bin rfl rfl rfl) rfl ?_)) | (show AOps _ _ _ _ (⟨some _, .binOp _ _ _ _ _, _, _, _, none⟩ :: _) _; first | (refine o_y (y_bin rfl rfl rfl) rfl ?_)) | (show AOps _ _ _ _ (⟨some _, .indexAddr _ _ _, _, _, _, none⟩ :: _) _; first | (refine o_y (y_ix_vsl rfl rfl rfl (by omega) (by omega)) rfl ?_))) | (show IW _ _ _ _ _; first | (refine awp_seq ?_) | (refine awp_region ?_) | (refine awp_block ?_) | (refine awp_exit ?_) | (refine awp_ret ?_) | (refine awp_skip ?_) | (refine awp_if rfl (fun h hp => ?_) (fun h hp => ?_))))
    all_goals first | (exfalso; omega) | exact ret1 [] (by decide) rfl rfl
theorem indexFunc_spec (T : Tb) (f : FuncId) (cap : List AV) (hcap : ∀ r, renL r cap = cap) [hc : Callable Try.prog f] (p : Nat → Bool) (hp : ∀ j, j < 16 → ACalls Try.prog f (sV T j :: cap) ⟨0, []⟩ (fun r _ => r = .sc (.bool (p j)))) : ACalls Try.prog 31 [.vsl (tvs T) 1 0 16, .fn f cap] ⟨0, []⟩ (fun r _ => r = .sc (.int .i64 (fst p 16))) := by
  refine enter2 Try.func31 rfl 19 0 [.tmp 4] rfl rfl rfl ?_
  repeat' (first | (refine aops_nil ?_) | (show AOps _ _ _ _ _ _; first | (show AOps _ _ _ _ (⟨some _, .move _, _, _, _, none⟩ :: _) _; first | (refine o_y (v_move (v := .sc _) rfl) rfl ?_) | (refine o_y (v_move (v := .vsl _ _ _ _) rfl) rfl ?_)) | (show AOps _ _ _ _ (⟨some _, .assign _, _, _, _, none⟩ :: _) _; first | (refine o_y (v_assign (v := .sc _) rfl) rfl ?_)) | (show AOps _ _ _ _ (⟨some _, .call ⟨.builtin .len, _, _⟩, _, _, _, none⟩ :: _) _; first | (refine o_y (y_lenV rfl) rfl ?_))) | (show IW _ _ [.code (.seq _ _)] _ _; first | (show AWP _ _ (.seq (.region _ _ _) _) _ _; refine awp_seq ?_) | (show AWP _ _ (.seq (.seq _ _) _) _ _; refine awp_seq ?_)) | (show IW _ _ _ _ _; first | (refine awp_region ?_) | (refine awp_block ?_)))
  refine awp_loopI (fun i : Nat => i ≤ 16 ∧ ∀ j, j < i → p j = false) (fun i => 16 - i) (fun i => [(0, .vsl (tvs T) 1 0 16), (1, .fn f cap), (7, .sc (.int .i64 16)), (8, .sc (.int .i64 i))]) 0 (fun _ => []) 0 [] (by decide) rfl rfl rfl ⟨Nat.zero_le _, fun j hj => by omega⟩ ⟨rfl, congrArg (AV.fn f) (hcap _), rfl, rfl, trivial⟩ trivial ?_
  rintro i ⟨h1, h2⟩ ih
  by_cases hlt : i < 16
  · have sp := hp i hlt
    have key : renL (fun _ => none) ([sV T i] ++ cap) = sV T i :: cap := by
      show AV.ren _ (sV T i) :: renL _ cap = _
      rw [hcap]
      congr 1
      unfold sV
      split <;> rfl
    rw [← key] at sp
    cases hT : T i with
    | none =>
      have v0 : (tvs T)[(0 + Int.toNat i) * 1]? = some (.sc (.pointer none)) := tvs_none hlt (by omega) hT
      rw [sV, hT] at sp
      repeat' (first | (refine aops_nil ?_) | (show AOps _ _ _ _ _ _; first | (show AOps _ _ _ _ (⟨some _, .move _, _, _, _, none⟩ :: _) _; first | (refine o_y (v_move (v := .sc _) rfl) rfl ?_) | (refine o_y (v_move (v := .vsl _ _ _ _) rfl) rfl ?_) | (refine o_y (v_move (v := .fn _ _) rfl) rfl ?_)) | (show AOps _ _ _ _ (⟨some _, .load _ _, _, _, _, none⟩ :: _) _; first | (refine o_y (y_vload rfl (by assumption)) rfl ?_)) | (show AOps _ _ _ _ (⟨some _, .assign _, _, _, _, none⟩ :: _) _; first | (refine o_y (v_assign (v := .sc _) rfl) rfl ?_)) | (show AOps _ _ _ _ (⟨some _, .binOp .add _ _ _ _, _, _, _, none⟩ :: _) _; first | (refine o_y (z_add rfl rfl (by omega) (by omega)) rfl ?_) | (refine o_y (y_bin rfl rfl rfl) rfl ?_)) | (show AOps _ _ _ _ (⟨some _, .binOp _ _ _ _ _, _, _, _, none⟩ :: _) _; first | (refine o_y (y_bin rfl rfl rfl) rfl ?_)) | (show AOps _ _ _ _ (⟨some _, .indexAddr _ _ _, _, _, _, none⟩ :: _) _; first | (refine o_y (y_ix_vsl rfl rfl rfl (by omega) (by omega)) rfl ?_)) | (show AOps _ _ _ _ (⟨some _, .call ⟨.value (.tmp _), _, _⟩, _, _, _, none⟩ :: _) _; refine o_q (q_callV rfl (sp)) rfl ?_)) | (show IW _ _ _ _ _; first | (refine awp_seq ?_) | (refine awp_region ?_) | (refine awp_block ?_) | (refine awp_exit ?_) | (refine awp_ret ?_) | (refine awp_skip ?_) | (refine awp_if rfl (fun h hp => ?_) (fun h hp => ?_))) | (show thenQ _ _ _ _; first | (refine k_n ?_) | (refine k_r ?_)) | (show blockQ _ _ _ _; first | (refine b_r ?_)))
      all_goals first
        | (exfalso; omega)
        | (rw [fst_hit hp h2 hlt]; exact ret1 [] (by decide) rfl rfl)
        | exact iw_at [] (ih (i + 1) ⟨hlt, fun j hj => by
            by_cases e' : j = i
            · subst e'; assumption
            · exact h2 j (by omega)⟩ (by omega)) (by decide) rfl rfl rfl ⟨rfl, congrArg (AV.fn f) (hcap _), rfl, rfl, trivial⟩ trivial
    | some e =>
      have v0 : (tvs T)[(0 + Int.toNat i) * 1]? = some (.vptr e.cs 0) := tvs_some hlt (by omega) hT
      rw [sV, hT] at sp
      repeat' (first | (refine aops_nil ?_) | (show AOps _ _ _ _ _ _; first | (show AOps _ _ _ _ (⟨some _, .move _, _, _, _, none⟩ :: _) _; first | (refine o_y (v_move (v := .sc _) rfl) rfl ?_) | (refine o_y (v_move (v := .vsl _ _ _ _) rfl) rfl ?_) | (refine o_y (v_move (v := .fn _ _) rfl) rfl ?_)) | (show AOps _ _ _ _ (⟨some _, .load _ _, _, _, _, none⟩ :: _) _; first | (refine o_y (y_vload rfl (by assumption)) rfl ?_)) | (show AOps _ _ _ _ (⟨some _, .assign _, _, _, _, none⟩ :: _) _; first | (refine o_y (v_assign (v := .sc _) rfl) rfl ?_)) | (show AOps _ _ _ _ (⟨some _, .binOp .add _ _ _ _, _, _, _, none⟩ :: _) _; first | (refine o_y (z_add rfl rfl (by omega) (by omega)) rfl ?_) | (refine o_y (y_bin rfl rfl rfl) rfl ?_)) | (show AOps _ _ _ _ (⟨some _, .binOp _ _ _ _ _, _, _, _, none⟩ :: _) _; first | (refine o_y (y_bin rfl rfl rfl) rfl ?_)) | (show AOps _ _ _ _ (⟨some _, .indexAddr _ _ _, _, _, _, none⟩ :: _) _; first | (refine o_y (y_ix_vsl rfl rfl rfl (by omega) (by omega)) rfl ?_)) | (show AOps _ _ _ _ (⟨some _, .call ⟨.value (.tmp _), _, _⟩, _, _, _, none⟩ :: _) _; refine o_q (q_callV rfl (sp)) rfl ?_)) | (show IW _ _ _ _ _; first | (refine awp_seq ?_) | (refine awp_region ?_) | (refine awp_block ?_) | (refine awp_exit ?_) | (refine awp_ret ?_) | (refine awp_skip ?_) | (refine awp_if rfl (fun h hp => ?_) (fun h hp => ?_))) | (show thenQ _ _ _ _; first | (refine k_n ?_) | (refine k_r ?_)) | (show blockQ _ _ _ _; first | (refine b_r ?_)))
      all_goals first
        | (exfalso; omega)
        | (rw [fst_hit hp h2 hlt]; exact ret1 [] (by decide) rfl rfl)
        | exact iw_at [] (ih (i + 1) ⟨hlt, fun j hj => by
            by_cases e' : j = i
            · subst e'; assumption
            · exact h2 j (by omega)⟩ (by omega)) (by decide) rfl rfl rfl ⟨rfl, congrArg (AV.fn f) (hcap _), rfl, rfl, trivial⟩ trivial
  · have hf : fst p 16 = -1 := fst_none fun j hj => h2 j (by omega)
    rw [hf]
    repeat' (first | (refine aops_nil ?_) | (show AOps _ _ _ _ _ _; first | (show AOps _ _ _ _ (⟨some _, .move _, _, _, _, none⟩ :: _) _; first | (refine o_y (v_move (v := .sc _) rfl) rfl ?_) | (refine o_y (v_move (v := .vsl _ _ _ _) rfl) rfl ?_) | (refine o_y (v_move (v := .fn _ _) rfl) rfl ?_)) | (show AOps _ _ _ _ (⟨some _, .assign _, _, _, _, none⟩ :: _) _; first | (refine o_y (v_assign (v := .sc _) rfl) rfl ?_)) | (show AOps _ _ _ _ (⟨some _, .binOp .add _ _ _ _, _, _, _, none⟩ :: _) _; first | (refine o_y (y_bin rfl rfl rfl) rfl ?_)) | (show AOps _ _ _ _ (⟨some _, .binOp _ _ _ _ _, _, _, _, none⟩ :: _) _; first | (refine o_y (y_bin rfl rfl rfl) rfl ?_)) | (show AOps _ _ _ _ (⟨some _, .indexAddr _ _ _, _, _, _, none⟩ :: _) _; first | (refine o_y (y_ix_vsl rfl rfl rfl (by omega) (by omega)) rfl ?_))) | (show IW _ _ _ _ _; first | (refine awp_seq ?_) | (refine awp_region ?_) | (refine awp_block ?_) | (refine awp_exit ?_) | (refine awp_ret ?_) | (refine awp_skip ?_) | (refine awp_if rfl (fun h hp => ?_) (fun h hp => ?_))))
    all_goals first | (exfalso; omega) | exact ret1 [] (by decide) rfl rfl
theorem containsFunc_spec (T : Tb) (f : FuncId) (cap : List AV) (hcap : ∀ r, renL r cap = cap) [hc : Callable Try.prog f] (p : Nat → Bool) (hp : ∀ j, j < 16 → ACalls Try.prog f (sV T j :: cap) ⟨0, []⟩ (fun r _ => r = .sc (.bool (p j)))) : ACalls Try.prog 48 [.vsl (tvs T) 1 0 16, .fn f cap] ⟨0, []⟩ (fun r _ => r = .sc (.bool (decide (0 ≤ fst p 16)))) := by
  have sp := indexFunc_spec T f cap hcap p hp
  have e : renL (fun _ => none) [AV.vsl (tvs T) 1 0 16, AV.fn f cap] = [AV.vsl (tvs T) 1 0 16, AV.fn f cap] := by
    show [_, AV.fn f (renL _ cap)] = _
    rw [hcap]
    rfl
  rw [← e] at sp
  refine enter2 Try.func48 rfl 9 0 [.tmp 4] rfl rfl rfl ?_
  repeat' (first | (refine aops_nil ?_) | (show AOps _ _ _ _ _ _; first | (show AOps _ _ _ _ (⟨some _, .move _, _, _, _, none⟩ :: _) _; first | (refine o_y (v_move (v := .vsl _ _ _ _) rfl) rfl ?_) | (refine o_y (v_move (v := .fn _ _) rfl) rfl ?_)) | (show AOps _ _ _ _ (⟨some _, .assign _, _, _, _, none⟩ :: _) _; first | (refine o_y (v_assign (v := .sc _) rfl) rfl ?_)) | (show AOps _ _ _ _ (⟨some _, .binOp _ _ _ _ _, _, _, _, none⟩ :: _) _; first | (refine o_y (y_bin rfl rfl rfl) rfl ?_)) | (show AOps _ _ _ _ (⟨some _, .call ⟨.value (.func 31), _, _⟩, _, _, _, none⟩ :: _) _; first | (refine o_q (q_call (sp)) rfl ?_))) | (show IW _ _ _ _ _; first | (refine awp_seq ?_) | (refine awp_region ?_) | (refine awp_ret ?_)))
  exact ret1 [] (by decide) rfl rfl
theorem taken1_spec (T : Tb) (a : As) (j : Nat) : ACalls Try.prog 49 [sV T j, .vptr a.cs 0] ⟨0, []⟩ (fun r _ => r = .sc (.bool (hasP T (fun e => clash e.a a) j))) := by
  cases hT : T j with
  | none =>
    rw [sV, hasP, hT]
    refine enter2 Try.func49 rfl 28 0 [.tmp 3] rfl rfl rfl ?_
    repeat' (first | (show AWP _ _ (.region 1 _ true) _ _; refine awp_draw 25 (by kernel_rfl) ?_) | (refine aops_nil ?_) | (show AOps _ _ _ _ _ _; first | (show AOps _ _ _ _ (⟨some _, .assign _, _, _, _, none⟩ :: _) _; first | (refine o_y (v_assign (v := .sc _) rfl) rfl ?_))) | (refine aq_nil ?_) | (show AQuiet _ _ _ _ _ _; first | (show AQuiet _ _ _ (⟨some _, .move _, _, _, _, none⟩ :: _) _ _; first | (refine q_y (v_move (v := .sc _) rfl) rfl ?_)) | (show AQuiet _ _ _ (⟨some _, .assign _, _, _, _, none⟩ :: _) _ _; first | (refine q_y (v_assign (v := .sc _) rfl) rfl ?_)) | (show AQuiet _ _ _ (⟨some _, .binOp _ _ _ _ _, _, _, _, none⟩ :: _) _ _; first | (refine q_y (y_neNil0 rfl rfl) rfl ?_)) | (show AQuiet _ _ _ (⟨some _, .pick _ _ _, _, _, _, none⟩ :: _) _ _; first | (refine q_y (v_pick_f (v := .sc _) rfl (by first | rfl | assumption) rfl) rfl ?_)) | (show AQuiet _ _ _ (⟨_, _, _, _, _, some (_, _)⟩ :: _) _ _; first | (refine q_g_f rfl rfl rfl (by first | rfl | assumption) ?_))) | (show IW _ _ _ _ _; first | (refine awp_seq ?_) | (refine awp_region ?_) | (refine awp_ret ?_)))
    all_goals exact ret1 [] (by decide) rfl rfl
  | some e =>
    rw [sV, hasP, hT]
    refine enter2 Try.func49 rfl 28 0 [.tmp 3] rfl rfl rfl ?_
    repeat' (first | (show AWP _ _ (.region 1 _ true) _ _; refine awp_gdraw 25 [] (by kernel_rfl) ?_) | (refine aops_nil ?_) | (show AOps _ _ _ _ _ _; first | (show AOps _ _ _ _ (⟨some _, .assign _, _, _, _, none⟩ :: _) _; first | (refine o_y (v_assign (v := .sc _) rfl) rfl ?_))) | (refine gq_nil ?_) | (show GQ _ _ _ _ _ _ _ _ _ _ _; first | (show GQ _ _ _ _ _ _ _ (⟨some _, .move _, _, _, _, none⟩ :: _) _ _ _; first | (refine g_y (v_move (v := .sc _) rfl) rfl ?_) | (refine g_y (v_move (v := .vptr _ _) rfl) rfl ?_)) | (show GQ _ _ _ _ _ _ _ (⟨some _, .load _ _, _, _, _, none⟩ :: _) _ _ _; first | (refine g_y (y_vload1 (v := .sc _) rfl rfl) rfl ?_) | (refine g_y (y_vloadW rfl rfl) rfl ?_) | (refine g_y (y_vloadA rfl rfl) rfl ?_)) | (show GQ _ _ _ _ _ _ _ (⟨some _, .fieldAddr _ _ _, _, _, _, none⟩ :: _) _ _ _; first | (refine g_y (y_fld_vptr rfl rfl) rfl ?_)) | (show GQ _ _ _ _ _ _ _ (⟨some _, .nilCheck _, _, _, _, none⟩ :: _) _ _ _; first | (refine g_y (y_nil_vptr rfl) rfl ?_)) | (show GQ _ _ _ _ _ _ _ (⟨some _, .assign _, _, _, _, none⟩ :: _) _ _ _; first | (refine g_y (v_assign (v := .sc _) rfl) rfl ?_)) | (show GQ _ _ _ _ _ _ _ (⟨some _, .binOp _ _ _ _ _, _, _, _, none⟩ :: _) _ _ _; first | (refine g_y (y_bin rfl rfl rfl) rfl ?_) | (refine g_y (y_eqB rfl rfl) rfl ?_) | (refine g_y (y_neNilV rfl rfl) rfl ?_)) | (show GQ _ _ _ _ _ _ _ (⟨some _, .pick _ _ _, _, _, _, none⟩ :: _) _ _ _; first | (refine g_y (v_pick_t (v := .sc _) rfl (by first | rfl | assumption | exact beq_self_eq_true _ | exact decide_eq_true rfl) rfl) rfl ?_) | (refine g_y (v_pick_f (v := .sc _) rfl (by first | rfl | assumption) rfl) rfl ?_)) | (show GQ _ _ _ _ _ _ _ (⟨some _, .call ⟨.value (.func 50), _, _⟩, _, _, _, none⟩ :: _) _ _ _; refine g_g (g_call (clock_spec _) rfl) rfl ?_) | (show GQ _ _ _ _ _ _ _ (⟨_, _, _, _, _, some (_, _)⟩ :: _) _ _ _; first | (refine g_g_t rfl rfl rfl (by first | rfl | assumption | exact beq_self_eq_true _ | exact decide_eq_true rfl) ?_) | (refine g_g_f rfl rfl rfl (by first | rfl | assumption) ?_) | (refine g_if rfl rfl rfl (fun h hp => ?_) (fun h hp => ?_)))) | (show IW _ _ _ _ _; first | (refine awp_seq ?_) | (refine awp_region ?_) | (refine awp_ret ?_)))
    all_goals exact ret1 [] (by decide) rfl (congrArg (fun b => AV.sc (.bool b)) (by simp [clash, hp]))
theorem search1_spec (T : Tb) (j : Nat) : ACalls Try.prog 32 [sV T j] ⟨0, []⟩ (fun r _ => r = .sc (.bool (hasP T (fun e => srch e.a) j))) := by
  cases hT : T j with
  | none =>
    rw [sV, hasP, hT]
    refine enter1 Try.func32 rfl 13 0 [.tmp 2] rfl rfl rfl ?_
    repeat' (first | (refine aops_nil ?_) | (show AOps _ _ _ _ _ _; first | (show AOps _ _ _ _ (⟨some _, .move _, _, _, _, none⟩ :: _) _; first | (refine o_y (v_move (v := .sc _) rfl) rfl ?_)) | (show AOps _ _ _ _ (⟨some _, .assign _, _, _, _, none⟩ :: _) _; first | (refine o_y (v_assign (v := .sc _) rfl) rfl ?_)) | (show AOps _ _ _ _ (⟨some _, .binOp _ _ _ _ _, _, _, _, none⟩ :: _) _; first | (refine o_y (y_neNil0 rfl rfl) rfl ?_)) | (show AOps _ _ _ _ (⟨some _, .pick _ _ _, _, _, _, none⟩ :: _) _; first | (refine o_y (v_pick_f (v := .sc _) rfl (by first | rfl | assumption) rfl) rfl ?_)) | (show AOps _ _ _ _ (⟨_, _, _, _, _, some (_, _)⟩ :: _) _; first | (refine o_g_f rfl rfl rfl (by first | rfl | assumption) ?_))) | (show IW _ _ _ _ _; first | (refine awp_seq ?_) | (refine awp_region ?_) | (refine awp_ret ?_)))
    all_goals exact ret1 [] (by decide) rfl rfl
  | some e =>
    rw [sV, hasP, hT]
    refine enter1 Try.func32 rfl 13 0 [.tmp 2] rfl rfl rfl ?_
    repeat' (first | (refine aops_nil ?_) | (show AOps _ _ _ _ _ _; first | (show AOps _ _ _ _ (⟨some _, .move _, _, _, _, none⟩ :: _) _; first | (refine o_y (v_move (v := .sc _) rfl) rfl ?_) | (refine o_y (v_move (v := .vptr _ _) rfl) rfl ?_)) | (show AOps _ _ _ _ (⟨some _, .load _ _, _, _, _, none⟩ :: _) _; first | (refine o_y (y_vloadA rfl rfl) rfl ?_)) | (show AOps _ _ _ _ (⟨some _, .fieldAddr _ _ _, _, _, _, none⟩ :: _) _; first | (refine o_y (y_fld_vptr rfl rfl) rfl ?_)) | (show AOps _ _ _ _ (⟨some _, .nilCheck _, _, _, _, none⟩ :: _) _; first | (refine o_y (y_nil_vptr rfl) rfl ?_)) | (show AOps _ _ _ _ (⟨some _, .assign _, _, _, _, none⟩ :: _) _; first | (refine o_y (v_assign (v := .sc _) rfl) rfl ?_)) | (show AOps _ _ _ _ (⟨some _, .binOp _ _ _ _ _, _, _, _, none⟩ :: _) _; first | (refine o_y (y_neNilV rfl rfl) rfl ?_)) | (show AOps _ _ _ _ (⟨some _, .pick _ _ _, _, _, _, none⟩ :: _) _; first | (refine o_y (v_pick_t (v := .sc _) rfl (by first | rfl | assumption | exact beq_self_eq_true _ | exact decide_eq_true rfl) rfl) rfl ?_)) | (show AOps _ _ _ _ (⟨some _, .call ⟨.value (.func 28), _, _⟩, _, _, _, none⟩ :: _) _; first | (refine o_q (q_call (search_spec e.a)) rfl ?_)) | (show AOps _ _ _ _ (⟨_, _, _, _, _, some (_, _)⟩ :: _) _; first | (refine o_g_t rfl rfl rfl (by first | rfl | assumption | exact beq_self_eq_true _ | exact decide_eq_true rfl) ?_))) | (show IW _ _ _ _ _; first | (refine awp_seq ?_) | (refine awp_region ?_) | (refine awp_ret ?_)))
    exact ret1 [] (by decide) rfl rfl
theorem taken_spec (T : Tb) (a : As) : ACalls Try.prog 22 [.vptr (tvs T) 0, .agg a.cs] ⟨0, []⟩ (fun r _ => r = .sc (.bool (taken T a))) := by
  refine enter2 Try.func22 rfl 11 0 [.tmp 4] rfl rfl rfl ?_
  repeat' (first | (refine aops_nil ?_) | (show AOps _ _ _ _ _ _; first | (show AOps _ _ _ _ (⟨some _, .assign _, _, _, _, none⟩ :: _) _; first | (refine o_y (v_assign (v := .sc _) rfl) rfl ?_)) | (show AOps _ _ _ _ (⟨_, .box _ _, _, _, _, none⟩ :: _) _; first | (refine o_x (b_agg rfl rfl rfl ?_)))) | (show IW _ _ [.code (.seq _ _)] _ _; first | (show AWP _ _ (.seq (.region 0 _ _) _) _ _; refine awp_seq ?_)) | (show IW _ _ _ _ _; first | (refine awp_region ?_)) | (show thenQ _ _ _ _; first | (refine k_n ?_)))
  refine iw_frzP 3 0 rfl rfl rfl ?_
  repeat' (first | (refine aops_nil ?_) | (show AOps _ _ _ _ _ _; first | (show AOps _ _ _ _ (⟨some _, .move _, _, _, _, none⟩ :: _) _; first | (refine o_y (v_move (v := .vptr _ _) rfl) rfl ?_)) | (show AOps _ _ _ _ (⟨some _, .fieldAddr _ _ _, _, _, _, none⟩ :: _) _; first | (refine o_y (y_fld_vptr rfl rfl) rfl ?_)) | (show AOps _ _ _ _ (⟨some _, .nilCheck _, _, _, _, none⟩ :: _) _; first | (refine o_y (y_nil_vptr rfl) rfl ?_)) | (show AOps _ _ _ _ (⟨some _, .assign _, _, _, _, none⟩ :: _) _; first | (refine o_y (v_assign (v := .sc _) rfl) rfl ?_)) | (show AOps _ _ _ _ (⟨some _, .slice _ _ _ _ _, _, _, _, none⟩ :: _) _; first | (refine o_y (y_sliceArrV rfl (tvs_length _) rfl) rfl ?_)) | (show AOps _ _ _ _ (⟨some _, .makeFunc _ _ _, _, _, _, none⟩ :: _) _; first | (refine o_y (v_f1 (a := .vptr _ _) rfl) rfl ?_)) | (show AOps _ _ _ _ (⟨some _, .call ⟨.value (.func 48), _, _⟩, _, _, _, none⟩ :: _) _; first | (refine o_q (q_call (containsFunc_spec T 49 [.vptr a.cs 0] (fun _ => rfl) (hasP T fun e => clash e.a a) (fun j _ => taken1_spec T a j))) rfl ?_))) | (show IW _ _ _ _ _; first | (refine awp_seq ?_) | (refine awp_region ?_) | (refine awp_ret ?_)))
  exact ret1 [] (by decide) rfl rfl
end Go.Proofs.Ytcidoghpacihpaa.Sx
namespace Go.Proofs.Ytcidoghpacihpaa.Sx
open Go Go.RowKit
attribute [local irreducible] IW AOps AQuiet GQ GY AExec QY Yld ACalls ACallsD
def ok (T : Tb) : Prop := ∀ j e, j < 16 → T j = some e → e.id = (j : Int) + 1
theorem stepF {p : Nat → Bool} {i : Nat} (h : ∀ j, j < i → p j = false) (hi : p i = false) : ∀ j, j < i + 1 → p j = false := fun j hj => by
  by_cases e : j = i
  · subst e; exact hi
  · exact h j (by omega)
theorem tvs_ren (r : Nat → Option Nat) (T : Tb) : renL r (tvs T) = tvs T := by
  rw [renL_map]
  refine (List.map_congr_left fun a ha => ?_).trans (List.map_id _)
  obtain ⟨j, _, rfl⟩ := List.mem_map.1 ha
  unfold sV
  split <;> rfl
def find1 (T : Tb) (addr : Int) : Int := fst (hasP T (findP addr)) 16 + 1
theorem find_spec (T : Tb) (hT : ok T) (addr : Int) : ACalls Try.prog 29 [.vptr (tvs T) 0, .sc (.int .u32 addr)] ⟨0, []⟩ (fun r _ => r = .sc (.int .i64 (find1 T addr))) := by
  refine enter2 Try.func29 rfl 41 0 [.tmp 4] rfl rfl rfl ?_
  repeat' (first | (refine aops_nil ?_) | (show AOps _ _ _ _ _ _; first | (show AOps _ _ _ _ (⟨some _, .move _, _, _, _, none⟩ :: _) _; first | (refine o_y (v_move (v := .sc _) rfl) rfl ?_) | (refine o_y (v_move (v := .vptr _ _) rfl) rfl ?_)) | (show AOps _ _ _ _ (⟨some _, .load _ _, _, _, _, none⟩ :: _) _; first | (refine o_y (y_vloadW rfl rfl) rfl ?_)) | (show AOps _ _ _ _ (⟨some _, .fieldAddr _ _ _, _, _, _, none⟩ :: _) _; first | (refine o_y (y_fld_vptr rfl rfl) rfl ?_)) | (show AOps _ _ _ _ (⟨some _, .nilCheck _, _, _, _, none⟩ :: _) _; first | (refine o_y (y_nil_vptr rfl) rfl ?_)) | (show AOps _ _ _ _ (⟨some _, .assign _, _, _, _, none⟩ :: _) _; first | (refine o_y (v_assign (v := .sc _) rfl) rfl ?_))) | (show IW _ _ [.code (.seq _ _)] _ _; first | (show AWP _ _ (.seq (.region _ _ _) _) _ _; refine awp_seq ?_) | (show AWP _ _ (.seq (.seq _ _) _) _ _; refine awp_seq ?_)) | (show IW _ _ _ _ _; first | (refine awp_region ?_) | (refine awp_block ?_)))
  refine awp_loopA (fun i : Nat => i ≤ 16 ∧ ∀ j, j < i → hasP T (findP addr) j = false) (fun i => 16 - i) (fun i => [(1, .sc (.int .u32 addr)), (10, .agg (tvs T)), (11, .sc (.int .i64 i))]) (fun _ => ⟨0, []⟩) 0 rfl ⟨Nat.zero_le _, fun j hj => by omega⟩ ⟨rfl, rfl, rfl, trivial⟩ (hpEq_refl _) ?_
  rintro i ⟨h1, h2⟩ ih
  by_cases hlt : i < 16
  · cases hTi : T i with
    | none =>
      have v0 : (tvs T)[(i : Int).toNat]? = some (.sc (.pointer none)) := tvs_none hlt (by omega) hTi
      have hno : hasP T (findP addr) i = false := by simp [hasP, hTi]
      repeat' (first | (refine aops_nil ?_) | (show AOps _ _ _ _ _ _; first | (show AOps _ _ _ _ (⟨some _, .move _, _, _, _, none⟩ :: _) _; first | (refine o_y (v_move (v := .sc _) rfl) rfl ?_)) | (show AOps _ _ _ _ (⟨some _, .assign _, _, _, _, none⟩ :: _) _; first | (refine o_y (v_assign (v := .sc _) rfl) rfl ?_)) | (show AOps _ _ _ _ (⟨some _, .binOp .add _ _ _ _, _, _, _, none⟩ :: _) _; first | (refine o_y (z_add rfl rfl (by omega) (by omega)) rfl ?_) | (refine o_y (y_bin rfl rfl rfl) rfl ?_)) | (show AOps _ _ _ _ (⟨some _, .binOp _ _ _ _ _, _, _, _, none⟩ :: _) _; first | (refine o_y (y_bin rfl rfl rfl) rfl ?_) | (refine o_y (y_neNil0 rfl rfl) rfl ?_)) | (show AOps _ _ _ _ (⟨some _, .pick _ _ _, _, _, _, none⟩ :: _) _; first | (refine o_y (v_pick_f (v := .sc _) rfl (by first | rfl | assumption) rfl) rfl ?_)) | (show AOps _ _ _ _ (⟨some _, .index _ _ _, _, _, _, none⟩ :: _) _; first | (refine o_y (y_indexA rfl rfl (by omega) (by omega) (by assumption)) rfl ?_)) | (show AOps _ _ _ _ (⟨_, _, _, _, _, some (_, _)⟩ :: _) _; first | (refine o_g_f rfl rfl rfl (by first | rfl | assumption) ?_))) | (show IW _ _ _ _ _; first | (refine awp_seq ?_) | (refine awp_region ?_) | (refine awp_block ?_) | (refine awp_exit ?_) | (refine awp_ret ?_) | (refine awp_skip ?_) | (refine awp_if_f rfl (by first | rfl | assumption) ?_) | (refine awp_if rfl (fun h hp => ?_) (fun h hp => ?_))) | (show thenQ _ _ _ _; first | (refine k_n ?_)))
      all_goals first
        | (exfalso; omega)
        | exact iw_atA (ih (i + 1) ⟨hlt, stepF h2 hno⟩ (by omega)) rfl ⟨rfl, rfl, rfl, trivial⟩ (hpEq_refl _)
    | some e =>
      have v0 : (tvs T)[(i : Int).toNat]? = some (.vptr e.cs 0) := tvs_some hlt (by omega) hTi
      have hid := hT i e hlt hTi
      repeat' (first | (refine aops_nil ?_) | (show AOps _ _ _ _ _ _; first | (show AOps _ _ _ _ (⟨some _, .move _, _, _, _, none⟩ :: _) _; first | (refine o_y (v_move (v := .sc _) rfl) rfl ?_) | (refine o_y (v_move (v := .vptr _ _) rfl) rfl ?_)) | (show AOps _ _ _ _ (⟨some _, .load _ _, _, _, _, none⟩ :: _) _; first | (refine o_y (y_vload1 (v := .sc _) rfl rfl) rfl ?_) | (refine o_y (y_vloadA rfl rfl) rfl ?_)) | (show AOps _ _ _ _ (⟨some _, .fieldAddr _ _ _, _, _, _, none⟩ :: _) _; first | (refine o_y (y_fld_vptr rfl rfl) rfl ?_)) | (show AOps _ _ _ _ (⟨some _, .nilCheck _, _, _, _, none⟩ :: _) _; first | (refine o_y (y_nil_vptr rfl) rfl ?_)) | (show AOps _ _ _ _ (⟨some _, .assign _, _, _, _, none⟩ :: _) _; first | (refine o_y (v_assign (v := .sc _) rfl) rfl ?_) | (refine o_y (v_assign (v := .vptr _ _) rfl) rfl ?_)) | (show AOps _ _ _ _ (⟨some _, .binOp .add _ _ _ _, _, _, _, none⟩ :: _) _; first | (refine o_y (z_add rfl rfl (by omega) (by omega)) rfl ?_) | (refine o_y (y_bin rfl rfl rfl) rfl ?_)) | (show AOps _ _ _ _ (⟨some _, .binOp _ _ _ _ _, _, _, _, none⟩ :: _) _; first | (refine o_y (y_bin rfl rfl rfl) rfl ?_) | (refine o_y (y_neNilV rfl rfl) rfl ?_)) | (show AOps _ _ _ _ (⟨some _, .pick _ _ _, _, _, _, none⟩ :: _) _; first | (refine o_y (v_pick_t (v := .sc _) rfl (by first | rfl | assumption | exact beq_self_eq_true _ | exact decide_eq_true rfl) rfl) rfl ?_) | (refine o_y (v_pick_f (v := .sc _) rfl (by first | rfl | assumption) rfl) rfl ?_)) | (show AOps _ _ _ _ (⟨some _, .unOp _ _ _, _, _, _, none⟩ :: _) _; first | (refine o_y (y_not rfl) rfl ?_)) | (show AOps _ _ _ _ (⟨some _, .index _ _ _, _, _, _, none⟩ :: _) _; first | (refine o_y (y_indexA rfl rfl (by omega) (by omega) (by assumption)) rfl ?_)) | (show AOps _ _ _ _ (⟨some _, .call ⟨.value (.func 50), _, _⟩, _, _, _, none⟩ :: _) _; first | (refine o_q (q_call (clock_spec e.a)) rfl ?_)) | (show AOps _ _ _ _ (⟨_, _, _, _, _, some (_, _)⟩ :: _) _; first | (refine o_g_t rfl rfl rfl (by first | rfl | assumption | exact beq_self_eq_true _ | exact decide_eq_true rfl) ?_) | (refine o_g_f rfl rfl rfl (by first | rfl | assumption) ?_) | (refine o_if rfl rfl rfl (fun h hp => ?_) (fun h hp => ?_)))) | (show IW _ _ _ _ _; first | (refine awp_seq ?_) | (refine awp_region ?_) | (refine awp_block ?_) | (refine awp_exit ?_) | (refine awp_ret ?_) | (refine awp_skip ?_) | (refine awp_if_f rfl (by first | rfl | assumption) ?_) | (refine awp_if rfl (fun h hp => ?_) (fun h hp => ?_))) | (show thenQ _ _ _ _; first | (refine k_n ?_) | (refine k_r ?_)) | (show blockQ _ _ _ _; first | (refine b_r ?_)))
      all_goals first
        | (exfalso; omega)
        | exact iw_atA (ih (i + 1) ⟨hlt, stepF h2 (by simp [hasP, hTi, findP, *])⟩ (by omega)) rfl ⟨rfl, rfl, rfl, trivial⟩ (hpEq_refl _)
        | exact ret1 [] (by decide) rfl (congrArg (fun x => AV.sc (.int .i64 x)) (by rw [find1, fst_hit (i := i) (by simp [hasP, hTi, findP, *]) h2 hlt]; exact hid))
  · have hf : find1 T addr = 0 := by rw [find1, fst_none fun j hj => h2 j (by omega)]; rfl
    rw [hf]
    repeat' (first | (refine aops_nil ?_) | (show AOps _ _ _ _ _ _; first | (show AOps _ _ _ _ (⟨some _, .assign _, _, _, _, none⟩ :: _) _; first | (refine o_y (v_assign (v := .sc _) rfl) rfl ?_)) | (show AOps _ _ _ _ (⟨some _, .binOp .add _ _ _ _, _, _, _, none⟩ :: _) _; first | (refine o_y (y_bin rfl rfl rfl) rfl ?_)) | (show AOps _ _ _ _ (⟨some _, .binOp _ _ _ _ _, _, _, _, none⟩ :: _) _; first | (refine o_y (y_bin rfl rfl rfl) rfl ?_))) | (show IW _ _ _ _ _; first | (refine awp_seq ?_) | (refine awp_region ?_) | (refine awp_block ?_) | (refine awp_exit ?_) | (refine awp_ret ?_) | (refine awp_skip ?_) | (refine awp_if rfl (fun h hp => ?_) (fun h hp => ?_))))
    all_goals first | (exfalso; omega) | exact ret1 [] (by decide) rfl rfl
def zAs : As := ⟨0, 0, 0, 0, 0, false, false, false, 0, false, 0, 0⟩
def zRo : Ro := ⟨0, zAs, 0, 0, 0⟩
def gE (T : Tb) (id : Int) : AV := match get T id with | none => .tup [.agg zRo.en, .sc (.bool false)] | some e => .tup [.agg e.en, .sc (.bool true)]
theorem getE_spec (T : Tb) (id : Int) : ACalls Try.prog 15 [.vptr (tvs T) 0, .sc (.int .i64 id)] ⟨0, []⟩ (fun r _ => r = gE T id) := by
  have sp := get_spec T id
  unfold gE
  cases hg : get T id with
  | none =>
    rw [gV, hg] at sp
    refine enter2 Try.func15 rfl 17 0 [.cell 4 56, .tmp 5] rfl rfl rfl ?_
    repeat' (first | (refine aops_nil ?_) | (show AOps _ _ _ _ _ _; first | (show AOps _ _ _ _ (⟨some _, .move _, _, _, _, none⟩ :: _) _; first | (refine o_y (v_move (v := .sc _) rfl) rfl ?_) | (refine o_y (v_move (v := .vptr _ _) rfl) rfl ?_)) | (show AOps _ _ _ _ (⟨some _, .assign _, _, _, _, none⟩ :: _) _; first | (refine o_y (v_assign (v := .sc _) rfl) rfl ?_)) | (show AOps _ _ _ _ (⟨some _, .binOp _ _ _ _ _, _, _, _, none⟩ :: _) _; first | (refine o_y (y_neNil0 rfl rfl) rfl ?_)) | (show AOps _ _ _ _ (⟨some _, .call ⟨.value (.func 24), _, _⟩, _, _, _, none⟩ :: _) _; refine o_gg (g_call (sp) rfl) rfl ?_) | (show AOps _ _ _ _ (⟨_, .alloc _, _, _, _, none⟩ :: _) _; first | (refine o_x (a_new (by first | (simp only [AV.ofV, AV.cells, List.map_cons, List.map_nil]; rfl) | rfl) rfl rfl rfl ?_)))) | (show IW _ _ _ _ _; first | (refine awp_seq ?_) | (refine awp_region ?_) | (refine awp_skip ?_) | (refine awp_if_f rfl (by first | rfl | assumption) ?_)))
    refine o_y (y_build (cs := zRo.en) rfl rfl) rfl ?_
    repeat' (first | (refine aops_nil ?_) | (show AOps _ _ _ _ _ _; first | (show AOps _ _ _ _ (⟨some _, .assign _, _, _, _, none⟩ :: _) _; first | (refine o_y (v_assign (v := .sc _) rfl) rfl ?_)) | (show AOps _ _ _ _ (⟨_, .store _ _ _, _, _, _, none⟩ :: _) _; first | (refine o_x (s_storeW rfl rfl rfl rfl rfl (by first | rfl | assumption) ?_)))) | (show IW _ _ _ _ _; first | (refine awp_ret ?_)))
    exact ret2c [] (by decide) rfl rfl rfl rfl rfl
  | some e =>
    rw [gV, hg] at sp
    refine enter2 Try.func15 rfl 17 0 [.cell 4 56, .tmp 5] rfl rfl rfl ?_
    repeat' (first | (refine aops_nil ?_) | (show AOps _ _ _ _ _ _; first | (show AOps _ _ _ _ (⟨some _, .move _, _, _, _, none⟩ :: _) _; first | (refine o_y (v_move (v := .sc _) rfl) rfl ?_) | (refine o_y (v_move (v := .vptr _ _) rfl) rfl ?_)) | (show AOps _ _ _ _ (⟨some _, .load _ _, _, _, _, none⟩ :: _) _; first | (refine o_y (y_vloadA rfl rfl) rfl ?_)) | (show AOps _ _ _ _ (⟨some _, .fieldAddr _ _ _, _, _, _, none⟩ :: _) _; first | (refine o_y (y_fld_vptr rfl rfl) rfl ?_)) | (show AOps _ _ _ _ (⟨some _, .nilCheck _, _, _, _, none⟩ :: _) _; first | (refine o_y (y_nil_vptr rfl) rfl ?_)) | (show AOps _ _ _ _ (⟨some _, .assign _, _, _, _, none⟩ :: _) _; first | (refine o_y (v_assign (v := .sc _) rfl) rfl ?_) | (refine o_y (v_assign (v := .vptr _ _) rfl) rfl ?_)) | (show AOps _ _ _ _ (⟨some _, .binOp _ _ _ _ _, _, _, _, none⟩ :: _) _; first | (refine o_y (y_neNilV rfl rfl) rfl ?_)) | (show AOps _ _ _ _ (⟨some _, .call ⟨.value (.func 24), _, _⟩, _, _, _, none⟩ :: _) _; refine o_gg (g_call (sp) rfl) rfl ?_) | (show AOps _ _ _ _ (⟨_, .store _ _ _, _, _, _, none⟩ :: _) _; first | (refine o_x (s_storeW rfl rfl rfl rfl rfl (by first | rfl | assumption) ?_))) | (show AOps _ _ _ _ (⟨_, .alloc _, _, _, _, none⟩ :: _) _; first | (refine o_x (a_new (by first | (simp only [AV.ofV, AV.cells, List.map_cons, List.map_nil]; rfl) | rfl) rfl rfl rfl ?_)))) | (show IW _ _ _ _ _; first | (refine awp_seq ?_) | (refine awp_region ?_) | (refine awp_ret ?_) | (refine awp_if_t rfl (by first | rfl | assumption | exact beq_self_eq_true _ | exact decide_eq_true rfl) ?_)) | (show thenQ _ _ _ _; first | (refine k_r ?_)))
    all_goals first | (exfalso; simp at *; done) | exact ret2c [] (by decide) rfl rfl rfl rfl rfl
def rows (T : Tb) : Nat → List Ro
  | 0 => []
  | n + 1 => rows T n ++ (T n).toList
def ens (l : List Ro) : List AV := l.flatMap Ro.en
theorem ens_length (l : List Ro) : (ens l).length = l.length * 15 := flat_length (f := Ro.en) (fun _ => rfl) l
theorem ens_snoc (l : List Ro) (e : Ro) : ens l ++ e.en = ens (l ++ [e]) := by simp [ens]
theorem ens_flat (l : List Ro) : (ens l).all AV.flat = true := by simp [ens, Ro.en, AV.flat]
theorem rows_le (T : Tb) : ∀ n, (rows T n).length ≤ n
  | 0 => Nat.le_refl _
  | n + 1 => by
    have := rows_le T n
    unfold rows
    rw [List.length_append]
    cases T n <;> simp <;> omega
theorem rows0 (T : Tb) : rows T 0 = [] := rfl
theorem ens0 : ens [] = [] := rfl
attribute [local irreducible] tvs rows ens
set_option maxHeartbeats 4000000 in
theorem list_spec (T : Tb) : ACalls Try.prog 11 [.vptr (tvs T) 0] ⟨0, []⟩ (fun r S => r = .sl 0 0 (rows T 16).length ∧ S = ⟨1, [(0, some ⟨ens (rows T 16), 15, 56⟩)]⟩) := by
  refine enter1 Try.func11 rfl 24 0 [.tmp 2] rfl rfl rfl ?_
  repeat' (first | (refine aops_nil ?_) | (show AOps _ _ _ _ _ _; first | (show AOps _ _ _ _ (⟨some _, .assign _, _, _, _, none⟩ :: _) _; first | (refine o_y (v_assign (v := .sc _) rfl) rfl ?_))) | (show IW _ _ [.code (.seq _ _)] _ _; first | (show AWP _ _ (.seq (.seq _ _) _) _ _; refine awp_seq ?_) | (show AWP _ _ (.seq (.region 0 _ _) _) _ _; refine awp_seq ?_) | (show AWP _ _ (.seq (.region 1 _ _) _) _ _; refine awp_seq ?_)) | (show IW _ _ _ _ _; first | (refine awp_region ?_)))
  refine iw_nil 3 15 56 rfl ?_
  repeat' (first | (refine aops_nil ?_) | (show AOps _ _ _ _ _ _; first | (show AOps _ _ _ _ (⟨some _, .load 74 _, _, _, _, none⟩ :: _) _; first | (refine o_y (y_vloadW rfl (tvs_length T)) rfl ?_)) | (show AOps _ _ _ _ (⟨some _, .move _, _, _, _, none⟩ :: _) _; first | (refine o_y (v_move (v := .sc _) rfl) rfl ?_) | (refine o_y (v_move (v := .vptr _ _) rfl) rfl ?_)) | (show AOps _ _ _ _ (⟨some _, .fieldAddr _ _ _, _, _, _, none⟩ :: _) _; first | (refine o_y (y_fld_vptr rfl rfl) rfl ?_)) | (show AOps _ _ _ _ (⟨some _, .nilCheck _, _, _, _, none⟩ :: _) _; first | (refine o_y (y_nil_vptr rfl) rfl ?_))) | (show IW _ _ [.code (.seq _ _)] _ _; first | (show AWP _ _ (.seq (.region _ _ _) _) _ _; refine awp_seq ?_)) | (show IW _ _ _ _ _; first | (refine awp_region ?_) | (refine awp_block ?_)))
  refine awp_loopI (fun i : Nat => i ≤ 16) (fun i => 16 - i) (fun i => [(3, .sl 0 0 (rows T i).length), (9, .agg (tvs T)), (10, .sc (.int .i64 i))]) 1 (fun i => [(0, some ⟨ens (rows T i), 15, 56⟩)]) 0 [0] (by decide) rfl rfl rfl (Nat.zero_le _) ⟨(congrArg (fun l => AV.sl 0 0 (List.length l)) (rows0 T)).symm, congrArg AV.agg (tvs_ren _ T), rfl, trivial⟩ ⟨rfl, congrArg (fun c => some (Blk.mk c 15 56)) (show [] = ens (rows T 0) by rw [rows0, ens0]), trivial⟩ ?_
  rintro i h1 ih
  have hle := rows_le T i
  have hL := ens_length (rows T i)
  by_cases hlt : i < 16
  · cases hTi : T i with
    | none =>
      have v0 : (tvs T)[(i : Int).toNat]? = some (.sc (.pointer none)) := tvs_none hlt (by omega) hTi
      have hr : rows T (i + 1) = rows T i := by simp [rows, hTi]
      repeat' (first | (refine aops_nil ?_) | (show AOps _ _ _ _ _ _; first | (show AOps _ _ _ _ (⟨some _, .move _, _, _, _, none⟩ :: _) _; first | (refine o_y (v_move (v := .sc _) rfl) rfl ?_) | (refine o_y (v_move (v := .sl _ _ _) rfl) rfl ?_)) | (show AOps _ _ _ _ (⟨some _, .assign _, _, _, _, none⟩ :: _) _; first | (refine o_y (v_assign (v := .sc _) rfl) rfl ?_) | (refine o_y (v_assign (v := .sl _ _ _) rfl) rfl ?_)) | (show AOps _ _ _ _ (⟨some _, .binOp .add _ _ _ _, _, _, _, none⟩ :: _) _; first | (refine o_y (z_add rfl rfl (by omega) (by omega)) rfl ?_) | (refine o_y (y_bin rfl rfl rfl) rfl ?_)) | (show AOps _ _ _ _ (⟨some _, .binOp _ _ _ _ _, _, _, _, none⟩ :: _) _; first | (refine o_y (y_bin rfl rfl rfl) rfl ?_) | (refine o_y (y_neNil0 rfl rfl) rfl ?_)) | (show AOps _ _ _ _ (⟨some _, .index _ _ _, _, _, _, none⟩ :: _) _; first | (refine o_y (y_indexA rfl rfl (by omega) (by omega) (by assumption)) rfl ?_))) | (show IW _ _ _ _ _; first | (refine awp_seq ?_) | (refine awp_region ?_) | (refine awp_block ?_) | (refine awp_exit ?_) | (refine awp_ret ?_) | (refine awp_skip ?_) | (refine awp_if_f rfl (by first | rfl | assumption) ?_) | (refine awp_if rfl (fun h hp => ?_) (fun h hp => ?_))) | (show thenQ _ _ _ _; first | (refine k_n ?_)))
      all_goals first
        | (exfalso; omega)
        | exact iw_at [0] (ih (i + 1) hlt (by omega)) (by decide) rfl rfl rfl ⟨by rw [hr]; rfl, congrArg AV.agg (tvs_ren _ T), rfl, trivial⟩ ⟨rfl, by rw [hr]; exact blk_fl rfl (ens_flat _), trivial⟩
    | some e =>
      have v0 : (tvs T)[(i : Int).toNat]? = some (.vptr e.cs 0) := tvs_some hlt (by omega) hTi
      have hr : rows T (i + 1) = rows T i ++ [e] := by simp [rows, hTi]
      repeat' (first | (refine aops_nil ?_) | (show AOps _ _ _ _ _ _; first | (show AOps _ _ _ _ (⟨some _, .move _, _, _, _, none⟩ :: _) _; first | (refine o_y (v_move (v := .sc _) rfl) rfl ?_) | (refine o_y (v_move (v := .sl _ _ _) rfl) rfl ?_) | (refine o_y (v_move (v := .vptr _ _) rfl) rfl ?_)) | (show AOps _ _ _ _ (⟨some _, .load _ _, _, _, _, none⟩ :: _) _; first | (refine o_y (y_vloadA rfl rfl) rfl ?_)) | (show AOps _ _ _ _ (⟨some _, .fieldAddr _ _ _, _, _, _, none⟩ :: _) _; first | (refine o_y (y_fld_vptr rfl rfl) rfl ?_)) | (show AOps _ _ _ _ (⟨some _, .nilCheck _, _, _, _, none⟩ :: _) _; first | (refine o_y (y_nil_vptr rfl) rfl ?_)) | (show AOps _ _ _ _ (⟨some _, .assign _, _, _, _, none⟩ :: _) _; first | (refine o_y (v_assign (v := .sl _ _ _) rfl) rfl ?_) | (refine o_y (v_assign (v := .vptr _ _) rfl) rfl ?_)) | (show AOps _ _ _ _ (⟨some _, .binOp .add _ _ _ _, _, _, _, none⟩ :: _) _; first | (refine o_y (z_add rfl rfl (by omega) (by omega)) rfl ?_) | (refine o_y (y_bin rfl rfl rfl) rfl ?_)) | (show AOps _ _ _ _ (⟨some _, .binOp _ _ _ _ _, _, _, _, none⟩ :: _) _; first | (refine o_y (y_bin rfl rfl rfl) rfl ?_) | (refine o_y (y_neNilV rfl rfl) rfl ?_)) | (show AOps _ _ _ _ (⟨some _, .index _ _ _, _, _, _, none⟩ :: _) _; first | (refine o_y (y_indexA rfl rfl (by omega) (by omega) (by assumption)) rfl ?_)) | (show AOps _ _ _ _ (⟨_, .buildSlice _ _ _, _, _, _, none⟩ :: _) _; first | (refine o_x (x_buildSlice (cs := e.en) (by rfl) (by rfl) (by rfl) (by rfl) (by rfl) (by rfl) rfl ?_))) | (show AOps _ _ _ _ (⟨_, .call ⟨.builtin .append, _, _⟩, _, _, _, none⟩ :: _) _; first | (refine o_x (x_append (X := .sl _ _ _) rfl rfl rfl (by first | rfl | assumption | exact prs_length _ | exact strs_len1 _ | exact byts_len1 _ | exact nums_len1 _ | (simp only [byts_length, strs_length, ints_length, prs_length, List.length_append, List.length_cons, List.length_nil]; omega)) (src_sl rfl (by first | exact Nat.le_of_ble_eq_true rfl | (simp only [strs_length, byts_length]; omega)) (by first | exact take_strs _ | exact take_byts _ | rfl | exact take_bytsE _ _ (by simp only [byts_length, ints_length, List.length_append, List.length_cons, List.length_nil]; omega) | exact take_strsE _ _ (by simp only [strs_length, List.length_append, List.length_cons, List.length_nil]; omega) | (simp; done)) (by first | rfl | exact strs_one _ | exact byts_one _ | exact prs_one _)) rfl rfl (by omega) (by omega) (by first | exact ens_snoc (rows T i) e | exact prs_snoc _ _ _ | exact strs_snoc _ _ | exact byts_snoc _ _ | exact nums_snoc _ _ | exact strs_append _ _ | exact byts_append _ _ | exact byts_snoc [] _ | exact strs_snoc [] _ | exact byts_append [] _ | exact strs_append [] _ | exact byts_append _ [_, _] | rfl) (by first | exact Nat.zero_add _ | rfl) ?_)))) | (show IW _ _ _ _ _; first | (refine awp_seq ?_) | (refine awp_region ?_) | (refine awp_block ?_) | (refine awp_exit ?_) | (refine awp_ret ?_) | (refine awp_skip ?_) | (refine awp_if_t rfl (by first | rfl | assumption | exact beq_self_eq_true _ | exact decide_eq_true rfl) ?_) | (refine awp_if rfl (fun h hp => ?_) (fun h hp => ?_))) | (show thenQ _ _ _ _; first | (refine k_n ?_)))
      all_goals first
        | (exfalso; omega)
        | exact iw_at [2] (ih (i + 1) hlt (by omega)) (by decide) rfl rfl rfl ⟨by rw [hr, List.length_append]; rfl, congrArg AV.agg (tvs_ren _ T), rfl, trivial⟩ ⟨rfl, by rw [hr]; exact blk_fl rfl (ens_flat _), trivial⟩
  · obtain rfl : i = 16 := by omega
    repeat' (first | (refine aops_nil ?_) | (show AOps _ _ _ _ _ _; first | (show AOps _ _ _ _ (⟨some _, .move _, _, _, _, none⟩ :: _) _; first | (refine o_y (v_move (v := .sl _ _ _) rfl) rfl ?_)) | (show AOps _ _ _ _ (⟨some _, .assign _, _, _, _, none⟩ :: _) _; first | (refine o_y (v_assign (v := .sl _ _ _) rfl) rfl ?_)) | (show AOps _ _ _ _ (⟨some _, .binOp .add _ _ _ _, _, _, _, none⟩ :: _) _; first | (refine o_y (y_bin rfl rfl rfl) rfl ?_)) | (show AOps _ _ _ _ (⟨some _, .binOp _ _ _ _ _, _, _, _, none⟩ :: _) _; first | (refine o_y (y_bin rfl rfl rfl) rfl ?_))) | (show IW _ _ _ _ _; first | (refine awp_seq ?_) | (refine awp_region ?_) | (refine awp_exit ?_) | (refine awp_ret ?_) | (refine awp_if_f rfl (by first | rfl | assumption) ?_)))
    all_goals first | (exfalso; omega) | exact ret1 [0] (by decide) rfl ⟨rfl, hp_is ⟨rfl, (by first | rfl | exact blk_fl rfl (ens_flat _)), trivial⟩⟩
end Go.Proofs.Ytcidoghpacihpaa.Sx
namespace Go.Proofs.Ytcidoghpacihpaa.Sx
open Go Go.RowKit
attribute [local irreducible] IW AOps AQuiet GQ GY AExec QY Yld ACalls ACallsD
def sA (T : Tb) (P : Nat → Nat) (j : Nat) : AV := match T j with | none => pnil | some _ => .ptr (P j) 0
def tcs (T : Tb) (P : Nat → Nat) : List AV := (List.range 16).map (sA T P)
theorem tcs_length (T : Tb) (P : Nat → Nat) : (tcs T P).length = 16 := by simp [tcs]
theorem tcs_get {T : Tb} {P : Nat → Nat} {i : Nat} (h : i < 16) : (tcs T P)[i]? = some (sA T P i) := by simp [tcs, h]
theorem tcs_none {T : Tb} {P : Nat → Nat} {i k : Nat} (h : i < 16) (hk : k = i) (hT : T i = none) : (tcs T P)[k]? = some (.sc (.pointer none)) := by subst hk; rw [tcs_get h, sA, hT]; rfl
theorem tcs_some {T : Tb} {P : Nat → Nat} {i k : Nat} {e : Ro} (h : i < 16) (hk : k = i) (hT : T i = some e) : (tcs T P)[k]? = some (.ptr (P i) 0) := by subst hk; rw [tcs_get h, sA, hT]
def upd1 {α : Type} (f : Nat → α) (i : Nat) (v : α) (j : Nat) : α := if j = i then v else f j
theorem tcs_put {T : Tb} {P : Nat → Nat} {i k : Nat} (e : Ro) (id : Nat) (h : i < 16) (hk : k = i) : (tcs T P).set k (.ptr id 0) = tcs (upd1 T i (some e)) (upd1 P i id) := by
  subst hk
  refine List.ext_getElem? fun j => ?_
  by_cases hj : j < 16
  · rw [tcs_get hj]
    by_cases e' : j = k
    · subst e'
      rw [List.getElem?_set_self (by rw [tcs_length]; exact hj)]
      simp [sA, upd1]
    · rw [List.getElem?_set_ne (Ne.symm e'), tcs_get hj]
      simp [sA, upd1, e']
  · rw [List.getElem?_eq_none (by rw [List.length_set, tcs_length]; omega), List.getElem?_eq_none (by rw [tcs_length]; omega)]
theorem tcs_del {T : Tb} {P : Nat → Nat} {i k : Nat} (h : i < 16) (hk : k = i) : (tcs T P).set k (.sc (.pointer none)) = tcs (upd1 T i none) P := by
  subst hk
  refine List.ext_getElem? fun j => ?_
  by_cases hj : j < 16
  · rw [tcs_get hj]
    by_cases e' : j = k
    · subst e'
      rw [List.getElem?_set_self (by rw [tcs_length]; exact hj)]
      simp [sA, upd1, pnil]
    · rw [List.getElem?_set_ne (Ne.symm e'), tcs_get hj]
      simp [sA, upd1, e']
  · rw [List.getElem?_eq_none (by rw [List.length_set, tcs_length]; omega), List.getElem?_eq_none (by rw [tcs_length]; omega)]
/-- The table lies at block t, its slots at the blocks P. -/
structure TH (t : Nat) (T : Tb) (P : Nat → Nat) (S : Hp) : Prop where
  tb : find t S.bs = some ⟨tcs T P, 16, 76⟩
  lt : t < S.nxt
  sl : ∀ j e, j < 16 → T j = some e → find (P j) S.bs = some ⟨e.cs, 16, 79⟩ ∧ P j ≠ t ∧ P j < S.nxt
  inj : ∀ i j e e', i < 16 → j < 16 → T i = some e → T j = some e' → P i = P j → i = j
/-- What is left alone but for one block. -/
def Fr (S S' : Hp) (x : Nat → Prop) : Prop := S.nxt ≤ S'.nxt ∧ ∀ i, i < S.nxt → ¬ x i → find i S'.bs = find i S.bs
theorem Fr.refl (S : Hp) (x : Nat → Prop) : Fr S S x := ⟨Nat.le_refl _, fun _ _ _ => rfl⟩
theorem Fr.trans {S S' S'' : Hp} {x : Nat → Prop} (a : Fr S S' x) (b : Fr S' S'' x) : Fr S S'' x := ⟨Nat.le_trans a.1 b.1, fun i hi hx => (b.2 i (Nat.lt_of_lt_of_le hi a.1) hx).trans (a.2 i hi hx)⟩
theorem Fr.push {S S' : Hp} {x : Nat → Prop} (a : Fr S S' x) {b : Option Blk} {k m : Nat} (h : x k ∨ S.nxt ≤ k) (hm : S'.nxt ≤ m) : Fr S ⟨m, (k, b) :: S'.bs⟩ x := ⟨Nat.le_trans a.1 hm, fun i hi hx => by
  show find i ((k, b) :: S'.bs) = _
  rw [find_sk (fun e => by subst e; rcases h with h | h; exact hx h; omega) rfl]
  exact a.2 i hi hx⟩
theorem TH.keep {t : Nat} {T : Tb} {P : Nat → Nat} {S S' : Hp} {x : Nat → Prop} (h : TH t T P S) (hf : Fr S S' x) (ht : ¬ x t) (hs : ∀ j e, j < 16 → T j = some e → ¬ x (P j)) : TH t T P S' :=
  ⟨(hf.2 t h.lt ht).trans h.tb, Nat.lt_of_lt_of_le h.lt hf.1, fun j e hj hT => by
    obtain ⟨h1, h2, h3⟩ := h.sl j e hj hT
    exact ⟨(hf.2 _ h3 (hs j e hj hT)).trans h1, h2, Nat.lt_of_lt_of_le h3 hf.1⟩, h.inj⟩
theorem relP_map {α : Type} {ρ ρ' : Nat → Option Geo} {Z Z' : Nat → Option Obj} {f g : α → AV} : ∀ {l : List α} {us : List Value}, (∀ a ∈ l, ∀ u, Rel ρ Z (f a) u → Rel ρ' Z' (g a) u) → RelP ρ Z (l.map f) us → RelP ρ' Z' (l.map g) us
  | [], _, _, _ => trivial
  | _ :: _, _ :: _, h, ⟨h1, h2⟩ => ⟨h _ (by simp) _ h1, relP_map (fun a ha => h a (by simp [ha])) h2⟩
  | _ :: _, [], _, h => h.elim
theorem ro_flat (e : Ro) : e.cs.all AV.flat = true := rfl
theorem frzT {t : Nat} {T : Tb} {P : Nat → Nat} {S : Hp} (h : TH t T P S) : FrzS S (.ptr t 0) (.vptr (tvs T) 0) := fun ρ Z F w u hp hr => by
  have hZ : Le Z (fun b => w.heap[b]?) := fun b o hb => hp.fixZ b o hb
  obtain ⟨g, hg, g0, rfl⟩ := hr
  obtain ⟨cur, h1, h2, h3, h4⟩ := hp.liveAt (b := ⟨tcs T P, 16, 76⟩) h.tb hg g0
  refine ⟨g.blk, 0, cur, 76, (0, 0), by simp, h1, ?_⟩
  rw [List.drop_zero]
  refine relP_map (fun j hj u hu => ?_) h4
  have hj' := List.mem_range.1 hj
  unfold sA at hu
  unfold sV
  cases hT : T j with
  | none => rw [hT] at hu; exact hu
  | some e =>
    rw [hT] at hu
    obtain ⟨gj, hgj, gj0, rfl⟩ := hu
    obtain ⟨cj, k1, k2, k3, k4⟩ := hp.liveAt (b := ⟨e.cs, 16, 79⟩) (h.sl j e hj' hT).1 hgj gj0
    exact ⟨gj.blk, 0, cj, 79, (0, 0), by simp, k1, by simpa using flat_relP hZ (ro_flat e) k4⟩
def gA (T : Tb) (P : Nat → Nat) (id : Int) : AV := match get T id with | none => pnil | some _ => .ptr (P (id - 1).toNat) 0
attribute [local irreducible] tvs tcs
theorem getA_spec {t : Nat} {T : Tb} {P : Nat → Nat} {S : Hp} (h : TH t T P S) (id : Int) : ACalls Try.prog 24 [.ptr t 0, .sc (.int .i64 id)] S (fun r S' => r = gA T P id ∧ S' = S) := by
  obtain ⟨n, bs⟩ := S
  have htb := h.tb
  have hlt := h.lt
  dsimp only at htb hlt
  unfold gA get
  refine enterA2 Try.func24 rfl 18 [.tmp 4] rfl rfl ?_
  by_cases hid : 1 ≤ id ∧ id ≤ 16
  · rw [if_pos hid]
    cases hT : T (id - 1).toNat with
    | none =>
      have v0 : (tcs T P)[0 + 0 + (id - 1).toNat * 1]? = some (.sc (.pointer none)) := tcs_none (by omega) (by omega) hT
      repeat' (first | (refine aops_nil ?_) | (show AOps _ _ _ _ _ _; first | (show AOps _ _ _ _ (⟨some _, .move _, _, _, _, none⟩ :: _) _; first | (refine o_y (v_move (v := .sc _) rfl) rfl ?_) | (refine o_y (v_move (v := .ptr _ _) rfl) rfl ?_)) | (show AOps _ _ _ _ (⟨some _, .load _ _, _, _, _, none⟩ :: _) _; first | (refine o_y (y_load1 rfl (by first | rfl | (repeat (first | assumption | exact find_at _ _ _ | refine find_sk (by omega) ?_))) (by assumption)) rfl ?_)) | (show AOps _ _ _ _ (⟨some _, .fieldAddr _ _ _, _, _, _, none⟩ :: _) _; first | (refine o_y (y_fld_ptr rfl rfl) rfl ?_)) | (show AOps _ _ _ _ (⟨some _, .nilCheck _, _, _, _, none⟩ :: _) _; first | (refine o_y (y_nil_ptr rfl) rfl ?_)) | (show AOps _ _ _ _ (⟨some _, .assign _, _, _, _, none⟩ :: _) _; first | (refine o_y (v_assign (v := .sc _) rfl) rfl ?_)) | (show AOps _ _ _ _ (⟨some _, .binOp .sub _ _ _ _, _, _, _, none⟩ :: _) _; first | (refine o_y (z_sub rfl rfl (by omega) (by omega)) rfl ?_) | (refine o_y (y_bin rfl rfl rfl) rfl ?_)) | (show AOps _ _ _ _ (⟨some _, .binOp _ _ _ _ _, _, _, _, none⟩ :: _) _; first | (refine o_y (y_bin rfl rfl rfl) rfl ?_)) | (show AOps _ _ _ _ (⟨some _, .pick _ _ _, _, _, _, none⟩ :: _) _; first | (refine o_y (v_pick_t (v := .sc _) rfl (by first | rfl | assumption | exact beq_self_eq_true _ | exact decide_eq_true rfl) rfl) rfl ?_) | (refine o_y (v_pick_f (v := .sc _) rfl (by first | rfl | assumption) rfl) rfl ?_)) | (show AOps _ _ _ _ (⟨some _, .indexAddr _ _ _, _, _, _, none⟩ :: _) _; first | (refine o_y (y_ix_arr rfl rfl (by omega) (by omega)) rfl ?_)) | (show AOps _ _ _ _ (⟨_, _, _, _, _, some (_, _)⟩ :: _) _; first | (refine o_g_t rfl rfl rfl (by first | rfl | assumption | exact beq_self_eq_true _ | exact decide_eq_true rfl) ?_) | (refine o_g_f rfl rfl rfl (by first | rfl | assumption) ?_) | (refine o_un rfl rfl rfl (fun h hp => ?_) (fun h hp => ?_)))) | (show IW _ _ _ _ _; first | (refine awp_seq ?_) | (refine awp_region ?_) | (refine awp_ret ?_) | (refine awp_skip ?_) | (refine awp_if_t rfl (by first | rfl | assumption | exact beq_self_eq_true _ | exact decide_eq_true rfl) ?_) | (refine awp_if rfl (fun h hp => ?_) (fun h hp => ?_))) | (show thenQ _ _ _ _; first | (refine k_r ?_)))
      all_goals first | (exfalso; omega) | exact retA1 ⟨rfl, rfl⟩
    | some e =>
      have v0 : (tcs T P)[0 + 0 + (id - 1).toNat * 1]? = some (.ptr (P (id - 1).toNat) 0) := tcs_some (by omega) (by omega) hT
      repeat' (first | (refine aops_nil ?_) | (show AOps _ _ _ _ _ _; first | (show AOps _ _ _ _ (⟨some _, .move _, _, _, _, none⟩ :: _) _; first | (refine o_y (v_move (v := .sc _) rfl) rfl ?_) | (refine o_y (v_move (v := .ptr _ _) rfl) rfl ?_)) | (show AOps _ _ _ _ (⟨some _, .load _ _, _, _, _, none⟩ :: _) _; first | (refine o_y (y_load1 rfl (by first | rfl | (repeat (first | assumption | exact find_at _ _ _ | refine find_sk (by omega) ?_))) (by assumption)) rfl ?_)) | (show AOps _ _ _ _ (⟨some _, .fieldAddr _ _ _, _, _, _, none⟩ :: _) _; first | (refine o_y (y_fld_ptr rfl rfl) rfl ?_)) | (show AOps _ _ _ _ (⟨some _, .nilCheck _, _, _, _, none⟩ :: _) _; first | (refine o_y (y_nil_ptr rfl) rfl ?_)) | (show AOps _ _ _ _ (⟨some _, .assign _, _, _, _, none⟩ :: _) _; first | (refine o_y (v_assign (v := .sc _) rfl) rfl ?_) | (refine o_y (v_assign (v := .ptr _ _) rfl) rfl ?_)) | (show AOps _ _ _ _ (⟨some _, .binOp .sub _ _ _ _, _, _, _, none⟩ :: _) _; first | (refine o_y (z_sub rfl rfl (by omega) (by omega)) rfl ?_) | (refine o_y (y_bin rfl rfl rfl) rfl ?_)) | (show AOps _ _ _ _ (⟨some _, .binOp _ _ _ _ _, _, _, _, none⟩ :: _) _; first | (refine o_y (y_bin rfl rfl rfl) rfl ?_)) | (show AOps _ _ _ _ (⟨some _, .pick _ _ _, _, _, _, none⟩ :: _) _; first | (refine o_y (v_pick_t (v := .sc _) rfl (by first | rfl | assumption | exact beq_self_eq_true _ | exact decide_eq_true rfl) rfl) rfl ?_) | (refine o_y (v_pick_f (v := .sc _) rfl (by first | rfl | assumption) rfl) rfl ?_)) | (show AOps _ _ _ _ (⟨some _, .indexAddr _ _ _, _, _, _, none⟩ :: _) _; first | (refine o_y (y_ix_arr rfl rfl (by omega) (by omega)) rfl ?_)) | (show AOps _ _ _ _ (⟨_, _, _, _, _, some (_, _)⟩ :: _) _; first | (refine o_g_t rfl rfl rfl (by first | rfl | assumption | exact beq_self_eq_true _ | exact decide_eq_true rfl) ?_) | (refine o_g_f rfl rfl rfl (by first | rfl | assumption) ?_) | (refine o_un rfl rfl rfl (fun h hp => ?_) (fun h hp => ?_)))) | (show IW _ _ _ _ _; first | (refine awp_seq ?_) | (refine awp_region ?_) | (refine awp_ret ?_) | (refine awp_skip ?_) | (refine awp_if_t rfl (by first | rfl | assumption | exact beq_self_eq_true _ | exact decide_eq_true rfl) ?_) | (refine awp_if rfl (fun h hp => ?_) (fun h hp => ?_))) | (show thenQ _ _ _ _; first | (refine k_r ?_)))
      all_goals first | (exfalso; omega) | exact retA1 ⟨rfl, rfl⟩
  · rw [if_neg hid]
    by_cases h1 : id < 1
    · repeat' (first | (refine aops_nil ?_) | (show AOps _ _ _ _ _ _; first | (show AOps _ _ _ _ (⟨some _, .move _, _, _, _, none⟩ :: _) _; first | (refine o_y (v_move (v := .sc _) rfl) rfl ?_) | (refine o_y (v_move (v := .ptr _ _) rfl) rfl ?_)) | (show AOps _ _ _ _ (⟨some _, .fieldAddr _ _ _, _, _, _, none⟩ :: _) _; first | (refine o_y (y_fld_ptr rfl rfl) rfl ?_)) | (show AOps _ _ _ _ (⟨some _, .nilCheck _, _, _, _, none⟩ :: _) _; first | (refine o_y (y_nil_ptr rfl) rfl ?_)) | (show AOps _ _ _ _ (⟨some _, .assign _, _, _, _, none⟩ :: _) _; first | (refine o_y (v_assign (v := .sc _) rfl) rfl ?_)) | (show AOps _ _ _ _ (⟨some _, .binOp .sub _ _ _ _, _, _, _, none⟩ :: _) _; first | (refine o_y (z_sub rfl rfl (by omega) (by omega)) rfl ?_) | (refine o_y (y_bin rfl rfl rfl) rfl ?_)) | (show AOps _ _ _ _ (⟨some _, .binOp _ _ _ _ _, _, _, _, none⟩ :: _) _; first | (refine o_y (y_bin rfl rfl rfl) rfl ?_)) | (show AOps _ _ _ _ (⟨some _, .pick _ _ _, _, _, _, none⟩ :: _) _; first | (refine o_y (v_pick_t (v := .sc _) rfl (by first | rfl | assumption | exact beq_self_eq_true _ | exact decide_eq_true rfl) rfl) rfl ?_) | (refine o_y (v_pick_f (v := .sc _) rfl (by first | rfl | assumption) rfl) rfl ?_)) | (show AOps _ _ _ _ (⟨some _, .indexAddr _ _ _, _, _, _, none⟩ :: _) _; first | (refine o_y (y_ix_arr rfl rfl (by omega) (by omega)) rfl ?_)) | (show AOps _ _ _ _ (⟨_, _, _, _, _, some (_, _)⟩ :: _) _; first | (refine o_g_t rfl rfl rfl (by first | rfl | assumption | exact beq_self_eq_true _ | exact decide_eq_true rfl) ?_) | (refine o_g_f rfl rfl rfl (by first | rfl | assumption) ?_) | (refine o_un rfl rfl rfl (fun h hp => ?_) (fun h hp => ?_)))) | (show IW _ _ _ _ _; first | (refine awp_seq ?_) | (refine awp_region ?_) | (refine awp_ret ?_) | (refine awp_skip ?_) | (refine awp_if_t rfl (by first | rfl | assumption | exact beq_self_eq_true _ | exact decide_eq_true rfl) ?_) | (refine awp_if rfl (fun h hp => ?_) (fun h hp => ?_))) | (show thenQ _ _ _ _; first | (refine k_r ?_)))
      all_goals first | (exfalso; omega) | exact retA1 ⟨rfl, rfl⟩
    · have h2 : id > 16 := by omega
      repeat' (first | (refine aops_nil ?_) | (show AOps _ _ _ _ _ _; first | (show AOps _ _ _ _ (⟨some _, .move _, _, _, _, none⟩ :: _) _; first | (refine o_y (v_move (v := .sc _) rfl) rfl ?_)) | (show AOps _ _ _ _ (⟨some _, .assign _, _, _, _, none⟩ :: _) _; first | (refine o_y (v_assign (v := .sc _) rfl) rfl ?_)) | (show AOps _ _ _ _ (⟨some _, .binOp .sub _ _ _ _, _, _, _, none⟩ :: _) _; first | (refine o_y (y_bin rfl rfl rfl) rfl ?_)) | (show AOps _ _ _ _ (⟨some _, .binOp _ _ _ _ _, _, _, _, none⟩ :: _) _; first | (refine o_y (y_bin rfl rfl rfl) rfl ?_)) | (show AOps _ _ _ _ (⟨some _, .pick _ _ _, _, _, _, none⟩ :: _) _; first | (refine o_y (v_pick_t (v := .sc _) rfl (by first | rfl | assumption | exact beq_self_eq_true _ | exact decide_eq_true rfl) rfl) rfl ?_) | (refine o_y (v_pick_f (v := .sc _) rfl (by first | rfl | assumption) rfl) rfl ?_)) | (show AOps _ _ _ _ (⟨_, _, _, _, _, some (_, _)⟩ :: _) _; first | (refine o_g_t rfl rfl rfl (by first | rfl | assumption | exact beq_self_eq_true _ | exact decide_eq_true rfl) ?_) | (refine o_g_f rfl rfl rfl (by first | rfl | assumption) ?_) | (refine o_un rfl rfl rfl (fun h hp => ?_) (fun h hp => ?_)))) | (show IW _ _ [.code (.seq _ _)] _ _; first | (show AWP _ _ (.seq (.seq _ _) _) _ _; refine awp_seq ?_) | (show AWP _ _ (.seq (.region 0 _ _) _) _ _; refine awp_seq ?_) | (show AWP _ _ (.seq (.region 1 _ _) _) _ _; refine awp_seq ?_) | (show AWP _ _ (.seq (.region 2 _ _) _) _ _; refine awp_seq ?_)) | (show IW _ _ _ _ _; first | (refine awp_region ?_) | (refine awp_ret ?_) | (refine awp_skip ?_) | (refine awp_if_t rfl (by first | rfl | assumption | exact beq_self_eq_true _ | exact decide_eq_true rfl) ?_) | (refine awp_if rfl (fun h hp => ?_) (fun h hp => ?_))) | (show thenQ _ _ _ _; first | (refine k_n ?_) | (refine k_r ?_)))
      all_goals first | (exfalso; omega) | exact retA1 ⟨rfl, rfl⟩
end Go.Proofs.Ytcidoghpacihpaa.Sx
