/- A civil date turned to a stamp: by the program. -/
import Derived.Test.YtdkdnhenogdjiaaDoorG
import Derived.Test.YtdkdnhenogdjiaaDoorSx33
namespace Go.Proofs.YtdkdnhenogdjiaaDoor.Sx
open Go Go.RowKit
section
variable {P : Program} {N : Sg} {tt : Tmp} {ty : TypeId} {pos : String} {af : Array Edge} {gd : Option (Nat × Bool)} {K : St → Prop} {env : List (Nat × AV)} {dfs : List (FuncId × List AV)} {n : Nat} {bs : List (Nat × Option Blk)}
/-- An array of the call's own, sliced up to a place: from now on it is a row of its elements. -/
theorem x_sliceArrH {T e : TypeId} {x hi : Operand} {id k esz eb off : Nat} {ez : Value} {kk : IntKind} {l : Int} {cs : List AV} {bz : Nat} {bt : TypeId} [hA : Und P T (.array k e)] [he : Inf P e esz eb ez]
    (hx : St.ev ⟨env, dfs, ⟨n, bs⟩⟩ x = .ptr id off) (hoff : off = 0) (hlo : St.ev ⟨env, dfs, ⟨n, bs⟩⟩ hi = .sc (.int kk l)) (hb : find id bs = some ⟨cs, bz, bt⟩) (hl : cs.length = k * esz) (hbz : bz = k * esz) (hk0 : Nat.blt 0 k = true) (hes : Nat.blt 0 esz = true) (h0 : 0 ≤ l) (h1 : l ≤ k) (hd : Nat.blt tt N.n = true)
    (hk : K ⟨(tt, .sl n 0 l.toNat) :: env, dfs, ⟨n + 1, (n, some ⟨cs, esz, bt⟩) :: (id, none) :: bs⟩⟩) : AExec P N ⟨some tt, .slice T x none (some hi) none, ty, pos, af, gd⟩ K ⟨env, dfs, ⟨n, bs⟩⟩ := fun ρ Z F a w hr next Qc hn => by
  subst hoff
  rw [Nat.blt_eq] at hk0 hes
  have hx' := hr.ev x
  rw [hx] at hx'
  obtain ⟨g, hg, g0, e1⟩ := hx'
  obtain ⟨E, hE, hEs, _, _⟩ := he.get
  obtain ⟨cur, g1, g2, g3, g4⟩ := hr.hp.liveAt (b := ⟨cs, bz, bt⟩) hb hg g0
  have g3' : g.esz = bz := g3
  have g4' : RelP ρ Z cs cur.toList := g4
  have hlen := g4'.length
  have hsz : k * esz ≤ cur.size := by simp at hlen; omega
  have hb0 : (Instr.sliceBounds false k k none (some (.int kk l)) none).run P w = .ok (0, l.toNat, k) w := by
    simp [Instr.sliceBounds, run_sliceBound, h0, h1]
  have hk00 : ¬ k = 0 := by omega
  have hrun : (execOp a.eval ⟨some tt, .slice T x none (some hi) none, ty, pos, af, gd⟩).run P w = .ok (.value (.slice (some ⟨g.blk, 0, none⟩) l.toNat k)) w := by
    simp [execOp, e1, ev_sc hr hlo, Instr.sliceAt, Instr.sureAddr, run_underlying hA.out, hb0, run_sizeOf' hE, hEs, hk00, add_off]
  unfold Oper.wp
  rw [hrun]
  have hle := upd_le (g := ⟨g.blk, k, esz, false⟩) (hr.hp.fresh n (Nat.le_refl _))
  have hbl : BlkRel ρ Z ⟨g.blk, k, esz, false⟩ ⟨cs, esz, bt⟩ w := .of hk0 ⟨cur, g1, hsz, rfl, g4'⟩
  have hhp := hr.hp.regrow' (S := ⟨n, bs⟩) (i := id) (b := ⟨cs, esz, bt⟩) (g := ⟨g.blk, k, esz, false⟩) hb hg (fun _ => .inl ⟨rfl, .inl g0⟩) hbl (fun _ _ _ => rfl)
  refine hn _ _ (upd ρ n ⟨g.blk, k, esz, false⟩) Z _ (.refl _ _) (StRel.put (σ := ⟨env, dfs, ⟨n + 1, (n, some ⟨cs, esz, bt⟩) :: (id, none) :: bs⟩⟩) (d := some tt) (v := .sl n 0 l.toNat) ⟨hr.size, fun t => (hr.env t).mono hle (.refl _), hr.dfs.mono hle (.refl _), hhp, hr.kk⟩ (by rintro _ ⟨⟩; rwa [Nat.blt_eq] at hd) ⟨⟨g.blk, k, esz, false⟩, _, upd_same .., rfl, by show 0 + l.toNat ≤ k; omega, fun _ => ?_⟩) hk
  simp
end
section
variable {P : Program} {N : Sg} {σ : St} {d : Option Tmp} {ty : TypeId} {pos : String} {af : Array Edge} {gd : Option (Nat × Bool)}
theorem w64 {n : Int} (h1 : 0 ≤ n) (h2 : n < 18446744073709551616) : IntKind.u64.wrap n = n := by simp [IntKind.wrap, IntKind.bits, IntKind.signed]; omega
theorem mask_eq (m : Int) : IntKind.i64.wrap (((BitVec.ofInt IntKind.i64.bits m &&& BitVec.ofInt IntKind.i64.bits 4294967295).toNat : Nat) : Int) = m % 4294967296 := by
  have e : (BitVec.ofInt IntKind.i64.bits m &&& BitVec.ofInt IntKind.i64.bits 4294967295).toNat = (m % 18446744073709551616).toNat % 4294967296 := by
    rw [BitVec.toNat_and, BitVec.toNat_ofInt, BitVec.toNat_ofInt]
    show (m % 18446744073709551616).toNat &&& 4294967295 = _
    exact Nat.and_two_pow_sub_one_eq_mod _ 32
  rw [e, IntKind.wrap_i64]
  omega
theorem or_eq {m f : Int} (h0 : 0 ≤ m) (h1 : m < 4294967296) (h2 : 0 ≤ f) (h3 : f < 4294967296) : IntKind.u64.wrap (((BitVec.ofInt IntKind.u64.bits (m * 4294967296) ||| BitVec.ofInt IntKind.u64.bits f).toNat : Nat) : Int) = m * 4294967296 + f := by
  have e : (BitVec.ofInt IntKind.u64.bits (m * 4294967296) ||| BitVec.ofInt IntKind.u64.bits f).toNat = m.toNat * 4294967296 + f.toNat := by
    rw [BitVec.toNat_or, BitVec.toNat_ofInt, BitVec.toNat_ofInt]
    show (m * 4294967296 % 18446744073709551616).toNat ||| (f % 18446744073709551616).toNat = _
    rw [show (m * 4294967296 % 18446744073709551616).toNat = m.toNat <<< 32 by rw [Nat.shiftLeft_eq]; omega, show (f % 18446744073709551616).toNat = f.toNat by omega, ← Nat.shiftLeft_add_eq_or_of_lt (by omega), Nat.shiftLeft_eq]
  rw [e, w64 (by omega) (by omega)]
  omega
theorem z_maskN {xt yt : TypeId} {x y : Operand} {m : Int} (hx : σ.ev x = .sc (.int .i64 m)) (hy : σ.ev y = .sc (.int .i64 4294967295)) : Yld P N ⟨d, .binOp .and xt x y yt, ty, pos, af, gd⟩ σ (.sc (.int .i64 (m % 4294967296))) :=
  y_bin hx hy (by rw [← mask_eq m]; rfl)
theorem z_shlU {xt yt : TypeId} {x y : Operand} {m : Int} (hx : σ.ev x = .sc (.int .u64 m)) (hy : σ.ev y = .sc (.int .u64 32)) (h0 : 0 ≤ m) (h1 : m < 4294967296) : Yld P N ⟨d, .binOp .shl xt x y yt, ty, pos, af, gd⟩ σ (.sc (.int .u64 (m * 4294967296))) := by
  have := y_shl (P := P) (N := N) (d := d) (ty := ty) (pos := pos) (af := af) (gd := gd) (xt := xt) (yt := yt) hx hy (by decide)
  rwa [show (2 : Int) ^ min (Int.toNat 32) IntKind.u64.bits = 4294967296 by decide, w64 (by omega) (by omega)] at this
theorem z_orU {xt yt : TypeId} {x y : Operand} {m f : Int} (hx : σ.ev x = .sc (.int .u64 (m * 4294967296))) (hy : σ.ev y = .sc (.int .u64 f)) (h0 : 0 ≤ m) (h1 : m < 4294967296) (h2 : 0 ≤ f) (h3 : f < 4294967296) : Yld P N ⟨d, .binOp .or xt x y yt, ty, pos, af, gd⟩ σ (.sc (.int .u64 (m * 4294967296 + f))) :=
  y_bin hx hy (by rw [← or_eq h0 h1 h2 h3]; rfl)
theorem z_addU {xt yt : TypeId} {x y : Operand} {m f : Int} (hx : σ.ev x = .sc (.int .u64 m)) (hy : σ.ev y = .sc (.int .u64 f)) (h0 : 0 ≤ m + f) (h1 : m + f < 18446744073709551616) : Yld P N ⟨d, .binOp .add xt x y yt, ty, pos, af, gd⟩ σ (.sc (.int .u64 (m + f))) :=
  y_bin hx hy (by show some (Value.int .u64 (IntKind.u64.wrap (m + f))) = _; rw [w64 h0 h1])
end
attribute [local irreducible] IW AOps AQuiet GQ GY AExec QY Yld ACalls ACallsD
def ms (y : Int) : Nat → Int
  | 0 => 0
  | i + 1 => ms y i + mnI y ((i : Int) + 1)
theorem ms_le (y : Int) : ∀ i, 0 ≤ ms y i ∧ ms y i ≤ 31 * (i : Int)
  | 0 => ⟨Int.le_refl _, Int.le_refl _⟩
  | i + 1 => by
    obtain ⟨h1, h2⟩ := ms_le y i
    have := mn_le y ((i : Int) + 1)
    rw [ms]
    omega
def vd (Y M D u m s : Int) : Prop := 1 ≤ Y ∧ Y ≤ 2100 ∧ 1 ≤ M ∧ M ≤ 12 ∧ 1 ≤ D ∧ D ≤ mnI Y M ∧ 0 ≤ u ∧ u ≤ 23 ∧ 0 ≤ m ∧ m ≤ 59 ∧ 0 ≤ s ∧ s ≤ 59
instance (Y M D u m s : Int) : Decidable (vd Y M D u m s) := by unfold vd; exact inferInstance
def secs (Y M D u m s : Int) : Int := (bgI Y + D - 1 - 693595 + ms Y (M - 1).toNat) * 86400 + u * 3600 + m * 60 + s
def toD (Y M D u m s fr : Int) : AV := if vd Y M D u m s then .tup [.agg [.sc (.int .i64 (secs Y M D u m s / 4294967296)), .sc (.int .u64 (secs Y M D u m s % 4294967296 * 4294967296 + fr))], .sc (.int .i64 0)] else .tup [.agg [.sc (.int .i64 0), .sc (.int .u64 0)], .sc (.int .i64 20)]
@[reducible] def civ (Y M D u m s fr : Int) : AV := .agg [.sc (.int .i64 Y), .sc (.int .i64 M), .sc (.int .i64 D), .sc (.int .i64 u), .sc (.int .i64 m), .sc (.int .i64 s), .sc (.int .u32 fr)]
@[reducible] def mtab (Y : Int) : List AV := [.sc (.int .i64 31), .sc (.int .i64 (28 + lpI Y)), .sc (.int .i64 31), .sc (.int .i64 30), .sc (.int .i64 31), .sc (.int .i64 30), .sc (.int .i64 31), .sc (.int .i64 31), .sc (.int .i64 30), .sc (.int .i64 31), .sc (.int .i64 30), .sc (.int .i64 31)]
theorem mtab_at (Y : Int) {i : Nat} (h : i < 12) : (mtab Y)[i]? = some (.sc (.int .i64 (mnI Y ((i : Int) + 1)))) := by
  have : i = 0 ∨ i = 1 ∨ i = 2 ∨ i = 3 ∨ i = 4 ∨ i = 5 ∨ i = 6 ∨ i = 7 ∨ i = 8 ∨ i = 9 ∨ i = 10 ∨ i = 11 := by omega
  rcases this with rfl | rfl | rfl | rfl | rfl | rfl | rfl | rfl | rfl | rfl | rfl | rfl <;> rfl
set_option maxHeartbeats 8000000 in
theorem toDateP_spec (Y M D u m s fr : Int) (hY : 0 ≤ Y ∧ Y ≤ 9999) (hM : 0 ≤ M ∧ M ≤ 9999) (hD : 0 ≤ D ∧ D ≤ 9999) (hh : 0 ≤ u ∧ u ≤ 9999) (hm : 0 ≤ m ∧ m ≤ 9999) (hs : 0 ≤ s ∧ s ≤ 9999) (hf : 0 ≤ fr ∧ fr ≤ 4294967295) : ACalls Tryd.prog 16 [civ Y M D u m s fr] ⟨0, []⟩ (fun r _ => r = toD Y M D u m s fr) := by
  have hl := lp_le Y
  refine enter1 Tryd.func16 rfl 120 0 [.cell 2 29, .tmp 3] rfl rfl rfl ?_
  repeat' (first | (refine aops_nil ?_) | (show AOps _ _ _ _ _ _; first | (show AOps _ _ _ _ (⟨some _, .build _ _, _, _, _, none⟩ :: _) _; first | (refine o_y (y_build (cs := [.sc _, .sc _]) rfl rfl) rfl ?_)) | (show AOps _ _ _ _ (⟨some _, .move _, _, _, _, none⟩ :: _) _; first | (refine o_y (v_move (v := .sc _) rfl) rfl ?_)) | (show AOps _ _ _ _ (⟨some _, .load _ _, _, _, _, none⟩ :: _) _; first | (refine o_y (y_load1 (v := .sc _) rfl rfl rfl) rfl ?_)) | (show AOps _ _ _ _ (⟨some _, .fieldAddr _ _ _, _, _, _, none⟩ :: _) _; first | (refine o_y (y_fld_ptr rfl rfl) rfl ?_)) | (show AOps _ _ _ _ (⟨some _, .assign _, _, _, _, none⟩ :: _) _; first | (refine o_y (v_assign (v := .sc _) rfl) rfl ?_)) | (show AOps _ _ _ _ (⟨some _, .binOp .add _ _ _ _, _, _, _, none⟩ :: _) _; first | (refine o_y (y_bin rfl rfl rfl) rfl ?_)) | (show AOps _ _ _ _ (⟨some _, .binOp .sub _ _ _ _, _, _, _, none⟩ :: _) _; first | (refine o_y (y_bin rfl rfl rfl) rfl ?_)) | (show AOps _ _ _ _ (⟨some _, .binOp .mul _ _ _ _, _, _, _, none⟩ :: _) _; first | (refine o_y (y_bin rfl rfl rfl) rfl ?_)) | (show AOps _ _ _ _ (⟨some _, .binOp .and _ _ _ _, _, _, _, none⟩ :: _) _; first | (refine o_y (y_bin rfl rfl rfl) rfl ?_)) | (show AOps _ _ _ _ (⟨some _, .binOp _ _ _ _ _, _, _, _, none⟩ :: _) _; first | (refine o_y (y_bin rfl rfl rfl) rfl ?_)) | (show AOps _ _ _ _ (⟨some _, .pick _ _ _, _, _, _, none⟩ :: _) _; first | (refine o_y (v_pick_t (v := .sc _) rfl (by first | rfl | assumption | exact beq_self_eq_true _ | exact decide_eq_true rfl) rfl) rfl ?_) | (refine o_y (v_pick_f (v := .sc _) rfl (by first | rfl | assumption) rfl) rfl ?_)) | (show AOps _ _ _ _ (⟨_, .store _ _ _, _, _, _, none⟩ :: _) _; first | (refine o_x (s_storeW rfl rfl rfl rfl rfl (by first | rfl | assumption) ?_))) | (show AOps _ _ _ _ (⟨_, .box _ _, _, _, _, none⟩ :: _) _; first | (refine o_x (b_agg rfl rfl rfl ?_))) | (show AOps _ _ _ _ (⟨_, .alloc _, _, _, _, none⟩ :: _) _; first | (refine o_x (a_new (by first | (simp only [AV.ofV, AV.cells, List.map_cons, List.map_nil]; rfl) | rfl) rfl rfl rfl ?_))) | (show AOps _ _ _ _ (⟨_, _, _, _, _, some (_, _)⟩ :: _) _; first | (refine o_g_t rfl rfl rfl (by first | rfl | assumption | exact beq_self_eq_true _ | exact decide_eq_true rfl) ?_) | (refine o_g_f rfl rfl rfl (by first | rfl | assumption) ?_) | (refine o_un rfl rfl rfl (fun h hp => ?_) (fun h hp => ?_)))) | (show IW _ _ [.code (.seq _ _)] _ _; first | (show AWP _ _ (.seq (.seq _ _) _) _ _; refine awp_seq ?_) | (show AWP _ _ (.seq (.region 0 _ _) _) _ _; refine awp_seq ?_) | (show AWP _ _ (.seq (.region 1 _ _) _) _ _; refine awp_seq ?_) | (show AWP _ _ (.seq (.region 2 _ _) _) _ _; refine awp_seq ?_)) | (show IW _ _ _ _ _; first | (refine awp_region ?_) | (refine awp_ret ?_) | (refine awp_skip ?_) | (refine awp_if_t rfl (by first | rfl | assumption | exact beq_self_eq_true _ | exact decide_eq_true rfl) ?_) | (refine awp_if rfl (fun h hp => ?_) (fun h hp => ?_))) | (show thenQ _ _ _ _; first | (refine k_n ?_) | (refine k_r ?_)))
  all_goals first
    | (exfalso; omega)
    | (refine ret2c [] (by decide) rfl rfl rfl rfl ?_
       rw [toD, if_neg (by unfold vd; omega)]
       rfl)
    | skip
  have hv : (mtab Y)[0 + (M - 1).toNat * 1]? = some (.sc (.int .i64 (mnI Y M))) := by
    have := mtab_at Y (i := (M - 1).toNat) (by omega)
    rw [show ((M - 1).toNat : Int) + 1 = M by omega] at this
    rwa [show 0 + (M - 1).toNat * 1 = (M - 1).toNat by omega]
  have hmn := mn_le Y M
  have hb : 0 ≤ bgI Y ∧ bgI Y ≤ 800000 := by unfold bgI; omega
  repeat' (first | (show AWP _ _ (.region 4 _ true) _ _; refine awp_draw 8 (by kernel_rfl) ?_) | (show AWP _ _ (.region 6 _ true) _ _; refine awp_draw 9 (by kernel_rfl) ?_) | (refine aops_nil ?_) | (show AOps _ _ _ _ _ _; first | (show AOps _ _ _ _ (⟨some _, .build _ _, _, _, _, none⟩ :: _) _; first | (refine o_y (y_build (cs := [.sc _, .sc _]) rfl rfl) rfl ?_)) | (show AOps _ _ _ _ (⟨some _, .move _, _, _, _, none⟩ :: _) _; first | (refine o_y (v_move (v := .sc _) rfl) rfl ?_)) | (show AOps _ _ _ _ (⟨some _, .load _ _, _, _, _, none⟩ :: _) _; first | (refine o_y (y_load1 (v := .sc _) rfl rfl rfl) rfl ?_)) | (show AOps _ _ _ _ (⟨some _, .fieldAddr _ _ _, _, _, _, none⟩ :: _) _; first | (refine o_y (y_fld_ptr rfl rfl) rfl ?_)) | (show AOps _ _ _ _ (⟨some _, .assign _, _, _, _, none⟩ :: _) _; first | (refine o_y (v_assign (v := .sc _) rfl) rfl ?_)) | (show AOps _ _ _ _ (⟨some _, .binOp .sub _ _ _ _, _, _, _, none⟩ :: _) _; first | (refine o_y (z_sub rfl rfl (by omega) (by omega)) rfl ?_)) | (show AOps _ _ _ _ (⟨some _, .call ⟨.builtin .len, _, _⟩, _, _, _, none⟩ :: _) _; first | (refine o_y (y_lenL rfl) rfl ?_)) | (show AOps _ _ _ _ (⟨_, .call ⟨.value (.func 23), _, _⟩, _, _, _, none⟩ :: _) _; refine o_x (x_callX (monthsP_spec Y (by omega) (by omega)) rfl (by rintro _ rfl; rfl) ?_); rintro _ rfl) | (show AOps _ _ _ _ (⟨_, .slice _ _ _ _ _, _, _, _, none⟩ :: _) _; first | (refine o_x (x_sliceArrH rfl rfl rfl rfl rfl rfl rfl rfl (by omega) (by omega) rfl ?_))) | (show AOps _ _ _ _ (⟨_, .store _ _ _, _, _, _, none⟩ :: _) _; first | (refine o_x (s_storeW rfl rfl rfl rfl rfl (by first | rfl | assumption) ?_))) | (show AOps _ _ _ _ (⟨_, .alloc _, _, _, _, none⟩ :: _) _; first | (refine o_x (a_new (by first | (simp only [AV.ofV, AV.cells, List.map_cons, List.map_nil]; rfl) | rfl) rfl rfl rfl ?_)))) | (refine aq_nil ?_) | (show AQuiet _ _ _ _ _ _; first | (show AQuiet _ _ _ (⟨some _, .load _ _, _, _, _, none⟩ :: _) _ _; first | (refine q_y (y_load1 (v := .sc _) rfl rfl rfl) rfl ?_) | (refine q_y (y_load1 rfl rfl (by assumption)) rfl ?_)) | (show AQuiet _ _ _ (⟨some _, .fieldAddr _ _ _, _, _, _, none⟩ :: _) _ _; first | (refine q_y (y_fld_ptr rfl rfl) rfl ?_)) | (show AQuiet _ _ _ (⟨some _, .assign _, _, _, _, none⟩ :: _) _ _; first | (refine q_y (v_assign (v := .sc _) rfl) rfl ?_)) | (show AQuiet _ _ _ (⟨some _, .binOp .add _ _ _ _, _, _, _, none⟩ :: _) _ _; first | (refine q_y (z_add rfl rfl (by omega) (by omega)) rfl ?_) | (refine q_y (y_bin rfl rfl rfl) rfl ?_)) | (show AQuiet _ _ _ (⟨some _, .binOp .sub _ _ _ _, _, _, _, none⟩ :: _) _ _; first | (refine q_y (z_sub rfl rfl (by omega) (by omega)) rfl ?_) | (refine q_y (y_bin rfl rfl rfl) rfl ?_)) | (show AQuiet _ _ _ (⟨some _, .binOp .mul _ _ _ _, _, _, _, none⟩ :: _) _ _; first | (refine q_y (y_bin rfl rfl rfl) rfl ?_)) | (show AQuiet _ _ _ (⟨some _, .binOp .and _ _ _ _, _, _, _, none⟩ :: _) _ _; first | (refine q_y (y_bin rfl rfl rfl) rfl ?_)) | (show AQuiet _ _ _ (⟨some _, .binOp _ _ _ _ _, _, _, _, none⟩ :: _) _ _; first | (refine q_y (y_bin rfl rfl rfl) rfl ?_)) | (show AQuiet _ _ _ (⟨some _, .indexAddr _ _ _, _, _, _, none⟩ :: _) _ _; first | (refine q_y (y_ix_arr rfl rfl (by omega) (by omega)) rfl ?_)) | (show AQuiet _ _ _ (⟨some _, .call ⟨.value (.func 24), _, _⟩, _, _, _, none⟩ :: _) _ _; first | (refine q_c (q_call (beginsP_spec Y (by omega) (by omega))) rfl ?_))) | (show IW _ _ [.code (.seq _ _)] _ _; first | (show AWP _ _ (.seq (.region _ _ _) _) _ _; refine awp_seq ?_) | (show AWP _ _ (.seq (.seq _ _) _) _ _; refine awp_seq ?_)) | (show IW _ _ _ _ _; first | (refine awp_region ?_) | (refine awp_block ?_) | (refine awp_ret ?_) | (refine awp_skip ?_) | (refine awp_if rfl (fun h hp => ?_) (fun h hp => ?_))) | (show thenQ _ _ _ _; first | (refine k_r ?_)))
  all_goals first
    | (exfalso; omega)
    | (refine ret2c [] (by decide) rfl rfl rfl rfl ?_
       rw [toD, if_neg (by unfold vd; omega)]
       rfl)
    | skip
  refine awp_loopI (fun i : Nat => (i : Int) ≤ M - 1) (fun i => (M - 1).toNat - i) (fun i => [(1, .ptr 0 0), (2, .ptr 1 0), (5, .sc (.int .i64 (bgI Y + D - 1 - 693595 + ms Y i))), (86, .sl 2 0 (M - 1).toNat), (87, .sc (.int .i64 ((M - 1).toNat : Nat))), (88, .sc (.int .i64 i))]) 3 (fun _ => [(0, some ⟨[.sc (.int .i64 Y), .sc (.int .i64 M), .sc (.int .i64 D), .sc (.int .i64 u), .sc (.int .i64 m), .sc (.int .i64 s), .sc (.int .u32 fr)], 7, 46⟩), (1, some ⟨[.sc (.int .i64 0), .sc (.int .u64 0)], 2, 29⟩), (2, some ⟨mtab Y, 1, 61⟩)]) 0 [0, 1, 3] (by decide) rfl rfl rfl (by omega) ⟨rfl, rfl, congrArg (fun x => AV.sc (.int .i64 x)) (Int.add_zero _).symm, rfl, rfl, rfl, trivial⟩ ⟨rfl, rfl, rfl, rfl, rfl, rfl, trivial⟩ ?_
  intro i hi ih
  have hms := ms_le Y i
  by_cases hlt : (i : Int) < M - 1
  · have hv2 : (mtab Y)[(0 + ((i : Nat) : Int).toNat) * 1]? = some (.sc (.int .i64 (mnI Y ((i : Int) + 1)))) := by
      rw [show (0 + ((i : Nat) : Int).toNat) * 1 = i by omega]
      exact mtab_at Y (by omega)
    have hmi := mn_le Y ((i : Int) + 1)
    repeat' (first | (refine aops_nil ?_) | (show AOps _ _ _ _ _ _; first | (show AOps _ _ _ _ (⟨some _, .move _, _, _, _, none⟩ :: _) _; first | (refine o_y (v_move (v := .sc _) rfl) rfl ?_)) | (show AOps _ _ _ _ (⟨some _, .load _ _, _, _, _, none⟩ :: _) _; first | (refine o_y (y_load1 rfl rfl (by assumption)) rfl ?_)) | (show AOps _ _ _ _ (⟨some _, .assign _, _, _, _, none⟩ :: _) _; first | (refine o_y (v_assign (v := .sc _) rfl) rfl ?_)) | (show AOps _ _ _ _ (⟨some _, .binOp .add _ _ _ _, _, _, _, none⟩ :: _) _; first | (refine o_y (z_add rfl rfl (by omega) (by omega)) rfl ?_) | (refine o_y (y_bin rfl rfl rfl) rfl ?_)) | (show AOps _ _ _ _ (⟨some _, .binOp .sub _ _ _ _, _, _, _, none⟩ :: _) _; first | (refine o_y (y_bin rfl rfl rfl) rfl ?_)) | (show AOps _ _ _ _ (⟨some _, .binOp .mul _ _ _ _, _, _, _, none⟩ :: _) _; first | (refine o_y (y_bin rfl rfl rfl) rfl ?_)) | (show AOps _ _ _ _ (⟨some _, .binOp .and _ _ _ _, _, _, _, none⟩ :: _) _; first | (refine o_y (y_bin rfl rfl rfl) rfl ?_)) | (show AOps _ _ _ _ (⟨some _, .binOp _ _ _ _ _, _, _, _, none⟩ :: _) _; first | (refine o_y (y_bin rfl rfl rfl) rfl ?_)) | (show AOps _ _ _ _ (⟨some _, .indexAddr _ _ _, _, _, _, none⟩ :: _) _; first | (refine o_y (y_ix_sl rfl rfl rfl rfl (by omega) (by omega)) rfl ?_))) | (show IW _ _ [.code (.seq _ _)] _ _; first | (show AWP _ _ (.seq (.cond _ _ _) _) _ _; refine awp_seq ?_) | (show AWP _ _ (.seq (.block _ _) _) _ _; refine awp_seq ?_) | (show AWP _ _ (.seq (.region 8 _ _) _) _ _; refine awp_seq ?_) | (show AWP _ _ (.seq (.region 9 _ _) _) _ _; refine awp_seq ?_)) | (show IW _ _ _ _ _; first | (refine awp_region ?_) | (refine awp_block ?_) | (refine awp_exit ?_) | (refine awp_skip ?_) | (refine awp_if rfl (fun h hp => ?_) (fun h hp => ?_))) | (show thenQ _ _ _ _; first | (refine k_n ?_) | (refine k_x ?_)) | (show blockQ _ _ _ _; first | (refine b_hit rfl ?_)))
    all_goals first | (exfalso; omega) | skip
    exact iw_at [0, 1, 2] (ih (i + 1) (by omega) (by omega)) (by decide) rfl rfl rfl ⟨rfl, rfl, congrArg (fun x => AV.sc (.int .i64 x)) (by rw [ms]; omega), rfl, rfl, rfl, trivial⟩ ⟨rfl, rfl, rfl, rfl, rfl, rfl, trivial⟩
  · have hii : i = (M - 1).toNat := by omega
    subst hii
    repeat' (first | (refine aops_nil ?_) | (show AOps _ _ _ _ _ _; first | (show AOps _ _ _ _ (⟨some _, .build _ _, _, _, _, none⟩ :: _) _; first | (refine o_y (y_build (cs := [.sc _, .sc _]) rfl rfl) rfl ?_)) | (show AOps _ _ _ _ (⟨some _, .binOp .shr _ _ _ _, _, _, _, none⟩ :: _) _; first | (refine o_y (z_shrC 4294967296 rfl rfl (by decide) (by decide) (by decide)) rfl ?_)) | (show AOps _ _ _ _ (⟨some _, .binOp .and _ _ _ _, _, _, _, none⟩ :: _) _; first | (refine o_y (z_maskN rfl rfl) rfl ?_)) | (show AOps _ _ _ _ (⟨some _, .binOp .shl _ _ _ _, _, _, _, none⟩ :: _) _; first | (refine o_y (z_shlU rfl rfl (by omega) (by omega)) rfl ?_)) | (show AOps _ _ _ _ (⟨some _, .binOp .or _ _ _ _, _, _, _, none⟩ :: _) _; first | (refine o_y (z_orU rfl rfl (by omega) (by omega) (by omega) (by omega)) rfl ?_)) | (show AOps _ _ _ _ (⟨some _, .move _, _, _, _, none⟩ :: _) _; first | (refine o_y (v_move (v := .sc _) rfl) rfl ?_)) | (show AOps _ _ _ _ (⟨some _, .load _ _, _, _, _, none⟩ :: _) _; first | (refine o_y (y_load1 (v := .sc _) rfl rfl rfl) rfl ?_)) | (show AOps _ _ _ _ (⟨some _, .fieldAddr _ _ _, _, _, _, none⟩ :: _) _; first | (refine o_y (y_fld_ptr rfl rfl) rfl ?_)) | (show AOps _ _ _ _ (⟨some _, .assign _, _, _, _, none⟩ :: _) _; first | (refine o_y (v_assign (v := .sc _) rfl) rfl ?_)) | (show AOps _ _ _ _ (⟨some _, .binOp .add _ _ _ _, _, _, _, none⟩ :: _) _; first | (refine o_y (z_add rfl rfl (by omega) (by omega)) rfl ?_) | (refine o_y (y_bin rfl rfl rfl) rfl ?_)) | (show AOps _ _ _ _ (⟨some _, .binOp .sub _ _ _ _, _, _, _, none⟩ :: _) _; first | (refine o_y (y_bin rfl rfl rfl) rfl ?_)) | (show AOps _ _ _ _ (⟨some _, .binOp .mul _ _ _ _, _, _, _, none⟩ :: _) _; first | (refine o_y (z_mul rfl rfl (by omega) (by omega)) rfl ?_) | (refine o_y (y_bin rfl rfl rfl) rfl ?_)) | (show AOps _ _ _ _ (⟨some _, .binOp .and _ _ _ _, _, _, _, none⟩ :: _) _; first | (refine o_y (y_bin rfl rfl rfl) rfl ?_)) | (show AOps _ _ _ _ (⟨some _, .binOp _ _ _ _ _, _, _, _, none⟩ :: _) _; first | (refine o_y (y_bin rfl rfl rfl) rfl ?_)) | (show AOps _ _ _ _ (⟨some _, .convert _ _ _, _, _, _, none⟩ :: _) _; first | (refine o_y (z_convu64 rfl (by omega) (by omega)) rfl ?_)) | (show AOps _ _ _ _ (⟨_, .store _ _ _, _, _, _, none⟩ :: _) _; first | (refine o_x (s_storeW rfl rfl rfl rfl rfl (by first | rfl | assumption) ?_)))) | (show IW _ _ [.code (.seq _ _)] _ _; first | (show AWP _ _ (.seq (.cond _ _ _) _) _ _; refine awp_seq ?_) | (show AWP _ _ (.seq (.block _ _) _) _ _; refine awp_seq ?_) | (show AWP _ _ (.seq (.region 8 _ _) _) _ _; refine awp_seq ?_) | (show AWP _ _ (.seq (.region 12 _ _) _) _ _; refine awp_seq ?_) | (show AWP _ _ (.seq (.region 13 _ _) _) _ _; refine awp_seq ?_)) | (show IW _ _ _ _ _; first | (refine awp_region ?_) | (refine awp_block ?_) | (refine awp_exit ?_) | (refine awp_ret ?_) | (refine awp_skip ?_) | (refine awp_if rfl (fun h hp => ?_) (fun h hp => ?_))))
    all_goals first | (exfalso; omega) | skip
    refine ret2c [] (by decide) rfl rfl rfl rfl ?_
    rw [toD, if_pos (by unfold vd; omega)]
    rfl
end Go.Proofs.YtdkdnhenogdjiaaDoor.Sx
