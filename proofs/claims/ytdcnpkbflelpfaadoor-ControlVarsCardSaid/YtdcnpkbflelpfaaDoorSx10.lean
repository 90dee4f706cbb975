/- Sums within their kind's bounds. -/
import Derived.Test.YtdcnpkbflelpfaaDoorSx9
import Derived.IntWalk
namespace Go.Proofs.YtdcnpkbflelpfaaDoor.Sx
open Go Go.RowKit

theorem wrap_i64 {x : Int} (h0 : -9223372036854775808 ≤ x) (h1 : x ≤ 9223372036854775807) : IntKind.i64.wrap x = x := IntWalk.i64_in x ⟨h0, h1⟩
theorem wrap_u64 {x : Int} (h0 : 0 ≤ x) (h1 : x ≤ 18446744073709551615) : IntKind.u64.wrap x = x := IntWalk.u64_in x ⟨h0, h1⟩
theorem wrap_u32 {x : Int} (h0 : 0 ≤ x) (h1 : x ≤ 4294967295) : IntKind.u32.wrap x = x := IntWalk.u32_in x ⟨h0, h1⟩
theorem wrap_u8 {x : Int} (h0 : 0 ≤ x) (h1 : x ≤ 255) : IntKind.u8.wrap x = x := IntWalk.u8_in x ⟨h0, h1⟩
theorem wrap_i32 {x : Int} (h0 : -2147483648 ≤ x) (h1 : x ≤ 2147483647) : IntKind.i32.wrap x = x := IntWalk.i32_in x ⟨h0, h1⟩

section
variable {P : Program} {N : Sg} {σ : St} {d : Option Tmp} {ty : TypeId} {pos : String} {af : Array Edge} {gd : Option (Nat × Bool)} {xt yt : TypeId} {x y : Operand} {m n : Int}
theorem z_add (hx : σ.ev x = .sc (.int .i64 m)) (hy : σ.ev y = .sc (.int .i64 n)) (h0 : -9223372036854775808 ≤ m + n) (h1 : m + n ≤ 9223372036854775807) : Yld P N ⟨d, .binOp .add xt x y yt, ty, pos, af, gd⟩ σ (.sc (.int .i64 (m + n))) := by
  have := y_bin (P := P) (N := N) (d := d) (op := .add) (xt := xt) (yt := yt) (ty := ty) (pos := pos) (af := af) (gd := gd) hx hy rfl
  rwa [wrap_i64 h0 h1] at this
theorem z_sub (hx : σ.ev x = .sc (.int .i64 m)) (hy : σ.ev y = .sc (.int .i64 n)) (h0 : -9223372036854775808 ≤ m - n) (h1 : m - n ≤ 9223372036854775807) : Yld P N ⟨d, .binOp .sub xt x y yt, ty, pos, af, gd⟩ σ (.sc (.int .i64 (m - n))) := by
  have := y_bin (P := P) (N := N) (d := d) (op := .sub) (xt := xt) (yt := yt) (ty := ty) (pos := pos) (af := af) (gd := gd) hx hy rfl
  rwa [wrap_i64 h0 h1] at this
theorem z_mul (hx : σ.ev x = .sc (.int .i64 m)) (hy : σ.ev y = .sc (.int .i64 n)) (h0 : -9223372036854775808 ≤ m * n) (h1 : m * n ≤ 9223372036854775807) : Yld P N ⟨d, .binOp .mul xt x y yt, ty, pos, af, gd⟩ σ (.sc (.int .i64 (m * n))) := by
  have := y_bin (P := P) (N := N) (d := d) (op := .mul) (xt := xt) (yt := yt) (ty := ty) (pos := pos) (af := af) (gd := gd) hx hy rfl
  rwa [wrap_i64 h0 h1] at this
theorem z_addb (hx : σ.ev x = .sc (.int .u8 m)) (hy : σ.ev y = .sc (.int .u8 n)) (h0 : 0 ≤ m + n) (h1 : m + n ≤ 255) : Yld P N ⟨d, .binOp .add xt x y yt, ty, pos, af, gd⟩ σ (.sc (.int .u8 (m + n))) := by
  have := y_bin (P := P) (N := N) (d := d) (op := .add) (xt := xt) (yt := yt) (ty := ty) (pos := pos) (af := af) (gd := gd) hx hy rfl
  rwa [wrap_u8 h0 h1] at this
theorem z_subb (hx : σ.ev x = .sc (.int .u8 m)) (hy : σ.ev y = .sc (.int .u8 n)) (h0 : 0 ≤ m - n) (h1 : m - n ≤ 255) : Yld P N ⟨d, .binOp .sub xt x y yt, ty, pos, af, gd⟩ σ (.sc (.int .u8 (m - n))) := by
  have := y_bin (P := P) (N := N) (d := d) (op := .sub) (xt := xt) (yt := yt) (ty := ty) (pos := pos) (af := af) (gd := gd) hx hy rfl
  rwa [wrap_u8 h0 h1] at this
/-- Divided and the rest: of what is not below nought. -/
theorem z_quo (hx : σ.ev x = .sc (.int .i64 m)) (hy : σ.ev y = .sc (.int .i64 n)) (h0 : 0 ≤ m) (h1 : 0 < n) (h2 : m ≤ 9223372036854775807) : Yld P N ⟨d, .binOp .quo xt x y yt, ty, pos, af, gd⟩ σ (.sc (.int .i64 (m / n))) := by
  have := y_quo (P := P) (N := N) (d := d) (xt := xt) (yt := yt) (ty := ty) (pos := pos) (af := af) (gd := gd) hx hy (by omega)
  rw [Int.tdiv_eq_ediv_of_nonneg h0] at this
  have a : 0 ≤ m / n := Int.ediv_nonneg h0 (by omega)
  have b : m / n ≤ m := Int.ediv_le_self n h0
  rwa [wrap_i64 (by omega) (by omega)] at this
theorem z_rem {k : IntKind} (hx : σ.ev x = .sc (.int k m)) (hy : σ.ev y = .sc (.int k n)) (h0 : 0 ≤ m) (h1 : 0 < n) : Yld P N ⟨d, .binOp .rem xt x y yt, ty, pos, af, gd⟩ σ (.sc (.int k (m % n))) := by
  have := y_rem (P := P) (N := N) (d := d) (xt := xt) (yt := yt) (ty := ty) (pos := pos) (af := af) (gd := gd) hx hy (by omega)
  rwa [Int.tmod_eq_emod_of_nonneg h0] at this
theorem z_conv64 {src dst : TypeId} {k : IntKind} {d0 : TypeDesc} [hs : Und P src d0] [hd : Und P dst (.int .i64)] (hx : σ.ev x = .sc (.int k n)) (h0 : -9223372036854775808 ≤ n) (h1 : n ≤ 9223372036854775807) : Yld P N ⟨d, .convert src dst x, ty, pos, af, gd⟩ σ (.sc (.int .i64 n)) := by
  have := y_conv (P := P) (N := N) (d := d) (ty := ty) (pos := pos) (af := af) (gd := gd) (src := src) (dst := dst) (k' := .i64) hx
  rwa [wrap_i64 h0 h1] at this
theorem z_convu64 {src dst : TypeId} {k : IntKind} {d0 : TypeDesc} [hs : Und P src d0] [hd : Und P dst (.int .u64)] (hx : σ.ev x = .sc (.int k n)) (h0 : 0 ≤ n) (h1 : n ≤ 18446744073709551615) : Yld P N ⟨d, .convert src dst x, ty, pos, af, gd⟩ σ (.sc (.int .u64 n)) := by
  have := y_conv (P := P) (N := N) (d := d) (ty := ty) (pos := pos) (af := af) (gd := gd) (src := src) (dst := dst) (k' := .u64) hx
  rwa [wrap_u64 h0 h1] at this
theorem z_convu32 {src dst : TypeId} {k : IntKind} {d0 : TypeDesc} [hs : Und P src d0] [hd : Und P dst (.int .u32)] (hx : σ.ev x = .sc (.int k n)) (h0 : 0 ≤ n) (h1 : n ≤ 4294967295) : Yld P N ⟨d, .convert src dst x, ty, pos, af, gd⟩ σ (.sc (.int .u32 n)) := by
  have := y_conv (P := P) (N := N) (d := d) (ty := ty) (pos := pos) (af := af) (gd := gd) (src := src) (dst := dst) (k' := .u32) hx
  rwa [wrap_u32 h0 h1] at this
theorem z_convu8 {src dst : TypeId} {k : IntKind} {d0 : TypeDesc} [hs : Und P src d0] [hd : Und P dst (.int .u8)] (hx : σ.ev x = .sc (.int k n)) (h0 : 0 ≤ n) (h1 : n ≤ 255) : Yld P N ⟨d, .convert src dst x, ty, pos, af, gd⟩ σ (.sc (.int .u8 n)) := by
  have := y_conv (P := P) (N := N) (d := d) (ty := ty) (pos := pos) (af := af) (gd := gd) (src := src) (dst := dst) (k' := .u8) hx
  rwa [wrap_u8 h0 h1] at this
theorem two_pow_le {e : Int} (h0 : 0 ≤ e) {b : Nat} (h1 : e ≤ b) : (0 : Int) < 2 ^ e.toNat ∧ (2 : Int) ^ e.toNat ≤ 2 ^ b := by
  have h : e.toNat ≤ b := by omega
  have := Nat.pow_le_pow_right (show 0 < 2 by omega) h
  have p := Nat.two_pow_pos e.toNat
  constructor
  · exact_mod_cast p
  · exact_mod_cast this
theorem z_shl1 {k : IntKind} (hx : σ.ev x = .sc (.int .i64 1)) (hy : σ.ev y = .sc (.int k n)) (h0 : 0 ≤ n) (h1 : n ≤ 62) : Yld P N ⟨d, .binOp .shl xt x y yt, ty, pos, af, gd⟩ σ (.sc (.int .i64 (2 ^ n.toNat))) := by
  have := y_shl (P := P) (N := N) (d := d) (xt := xt) (yt := yt) (ty := ty) (pos := pos) (af := af) (gd := gd) hx hy h0
  have hm : min n.toNat IntKind.i64.bits = n.toNat := by simp only [IntKind.bits]; omega
  rw [hm, Int.one_mul] at this
  obtain ⟨a, b⟩ := two_pow_le h0 (b := 62) (by omega)
  have c : (2 : Int) ^ 62 = 4611686018427387904 := by decide
  rwa [wrap_i64 (by omega) (by omega)] at this
theorem mask_mod {m : Int} {e : Nat} (h0 : 0 ≤ m) (h1 : m ≤ 9223372036854775807) (he : e ≤ 62) : IntKind.i64.wrap ((BitVec.ofInt IntKind.i64.bits m &&& BitVec.ofInt IntKind.i64.bits (2 ^ e - 1)).toNat) = m % 2 ^ e := by
  have hp : 2 ^ e ≤ 2 ^ 62 := Nat.pow_le_pow_right (by omega) he
  have hp0 := Nat.two_pow_pos e
  have c62 : (2 : Nat) ^ 62 = 4611686018427387904 := by decide
  obtain ⟨k, rfl⟩ : ∃ k : Nat, m = k := ⟨m.toNat, by omega⟩
  have e1 : ((2 : Int) ^ e - 1) = ((2 ^ e - 1 : Nat) : Int) := by
    have : ((2 ^ e : Nat) : Int) = (2 : Int) ^ e := by norm_cast
    omega
  have key : ((BitVec.ofInt 64 (k : Int) &&& BitVec.ofInt 64 ((2 : Int) ^ e - 1)).toNat : Nat) = k % 2 ^ e := by
    rw [e1, BitVec.ofInt_natCast, BitVec.ofInt_natCast, BitVec.toNat_and, BitVec.toNat_ofNat, BitVec.toNat_ofNat, Nat.mod_eq_of_lt (show k < 2 ^ 64 by omega), Nat.mod_eq_of_lt (show 2 ^ e - 1 < 2 ^ 64 by omega), Nat.and_two_pow_sub_one_eq_mod]
  show IntKind.i64.wrap (((BitVec.ofInt 64 (k : Int) &&& BitVec.ofInt 64 ((2 : Int) ^ e - 1)).toNat : Nat) : Int) = _
  rw [key]
  have hm := Nat.mod_lt k hp0
  rw [wrap_i64 (by omega) (by omega)]
  norm_cast
theorem z_mask {e : Nat} (hx : σ.ev x = .sc (.int .i64 m)) (hy : σ.ev y = .sc (.int .i64 (2 ^ e - 1))) (h0 : 0 ≤ m) (h1 : m ≤ 9223372036854775807) (he : e ≤ 62) : Yld P N ⟨d, .binOp .and xt x y yt, ty, pos, af, gd⟩ σ (.sc (.int .i64 (m % 2 ^ e))) := by
  have := y_bin (P := P) (N := N) (d := d) (op := .and) (xt := xt) (yt := yt) (ty := ty) (pos := pos) (af := af) (gd := gd) hx hy rfl
  rwa [mask_mod h0 h1 he] at this
theorem z_shl8 {k : IntKind} (hx : σ.ev x = .sc (.int .u8 m)) (hy : σ.ev y = .sc (.int k 1)) : Yld P N ⟨d, .binOp .shl xt x y yt, ty, pos, af, gd⟩ σ (.sc (.int .u8 (m * 2 % 256))) := by
  have := y_shl (P := P) (N := N) (d := d) (xt := xt) (yt := yt) (ty := ty) (pos := pos) (af := af) (gd := gd) hx hy (by decide)
  have e : IntKind.u8.wrap (m * 2 ^ min (1 : Int).toNat IntKind.u8.bits) = m * 2 % 256 := IntKind.wrap_u8 _
  rwa [e] at this
end
section
variable {P : Program} {N : Sg} {Q : Exit → St → Prop} {env : List (Nat × AV)} {dfs : List (FuncId × List AV)} {hp : Hp} {ops : Array Oper} {rest : List Oper}
  {op : Op} {ty : TypeId} {pos : String} {af : Array Edge} {t : Tmp} {d : Option Tmp} {v : AV} {K : St → Prop} {σ : St}
theorem aexec_q {o : Oper} (h : QY P N o σ v) (hd : okDst N o.dst = true) (hk : K (σ.put o.dst v)) : AExec P N o K σ := fun ρ Z F a w hr next Qc hn => by
  obtain ⟨u, h1, h2⟩ := h ρ Z F a w hr
  refine Oper.wp_of_quiet (C := Below w.heap.size w) (K := fun a' => a' = a.put o.dst u) (.refl _ _) ?_ ⟨u, h2, rfl⟩
  rintro a' w' hb rfl
  exact hn _ w' ρ Z _ (.of_below hb) ((hr.below hb).put (okDst_spec hd) h1) hk
/-- A call that hands back a plain value. -/
theorem o_q (hy : QY P N ⟨some t, op, ty, pos, af, none⟩ ⟨env, dfs, hp⟩ v) (hd : Nat.blt t N.n = true) (h : AOps P N ops Q rest ⟨(t, v) :: env, dfs, hp⟩) : AOps P N ops Q (⟨some t, op, ty, pos, af, none⟩ :: rest) ⟨env, dfs, hp⟩ :=
  aops_cons rfl (aexec_q hy hd h)
theorem s_store {t : TypeId} {x y : Operand} {id off bytes n ez et : Nat} {cs : List AV} {bs : List (Nat × Option Blk)} {zero : Value} {gd : Option (Nat × Bool)} [ha : Inf P t 1 bytes zero] (hx : St.ev ⟨env, dfs, ⟨n, bs⟩⟩ x = .ptr id off) (hy : St.ev ⟨env, dfs, ⟨n, bs⟩⟩ y = v) (hb : find id bs = some ⟨cs, ez, et⟩) (h1 : v.one = true) (hl0 : Nat.blt off cs.length = true)
    (hk : K ⟨env, dfs, ⟨n, (id, some ⟨cs.set off v, ez, et⟩) :: bs⟩⟩) : AExec P N ⟨none, .store t x y, ty, pos, af, gd⟩ K ⟨env, dfs, ⟨n, bs⟩⟩ := x_store1 (b := ⟨cs, ez, et⟩) hx hy hb h1 hl0 hk
/-- A state spelled anew. -/
theorem o_st (σ' : St) (h : σ = σ') (k : AOps P N ops Q rest σ') : AOps P N ops Q rest σ := h ▸ k
theorem i_st {is : List Item} (σ' : St) (h : σ = σ') (k : IW P N is Q σ') : IW P N is Q σ := h ▸ k
end
end Go.Proofs.YtdcnpkbflelpfaaDoor.Sx
