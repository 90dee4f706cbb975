/- The rules of operations: numbers, texts, and what reads memory. -/
import Derived.Test.YtdcnpkbflelpfaaDoorSx2
import Derived.Lib.SmallJoins
namespace Go.Proofs.YtdcnpkbflelpfaaDoor.Sx
open Go Go.RowKit

section
variable {P : Program} {N : Sg} {σ : St} {d : Option Tmp} {ty : TypeId} {pos : String} {af : Array Edge} {gd : Option (Nat × Bool)}

/-! ### Numbers, bools, texts -/
theorem y_quo {xt yt : TypeId} {x y : Operand} {k : IntKind} {m n : Int} (hx : σ.ev x = .sc (.int k m)) (hy : σ.ev y = .sc (.int k n)) (h0 : n ≠ 0) : Yld P N ⟨d, .binOp .quo xt x y yt, ty, pos, af, gd⟩ σ (.sc (.int k (k.wrap (m.tdiv n)))) :=
  yld_pure fun ρ Z F a w hr => ⟨_, rfl, fun w' => by simp [execOp, ev_sc hr hx, ev_sc hr hy, run_eqGuard_int, binOp, Op.intDiv, h0]⟩
theorem y_rem {xt yt : TypeId} {x y : Operand} {k : IntKind} {m n : Int} (hx : σ.ev x = .sc (.int k m)) (hy : σ.ev y = .sc (.int k n)) (h0 : n ≠ 0) : Yld P N ⟨d, .binOp .rem xt x y yt, ty, pos, af, gd⟩ σ (.sc (.int k (m.tmod n))) :=
  yld_pure fun ρ Z F a w hr => ⟨_, rfl, fun w' => by simp [execOp, ev_sc hr hx, ev_sc hr hy, run_eqGuard_int, binOp, Op.intDiv, h0]⟩
theorem y_shl {xt yt : TypeId} {x y : Operand} {k k' : IntKind} {m n : Int} (hx : σ.ev x = .sc (.int k m)) (hy : σ.ev y = .sc (.int k' n)) (h0 : 0 ≤ n) : Yld P N ⟨d, .binOp .shl xt x y yt, ty, pos, af, gd⟩ σ (.sc (.int k (k.wrap (m * 2 ^ min n.toNat k.bits)))) :=
  yld_pure fun ρ Z F a w hr => ⟨_, rfl, fun w' => by simp [execOp, ev_sc hr hx, ev_sc hr hy, run_eqGuard_int, binOp, Op.shift, show ¬ n < 0 by omega]⟩
theorem y_shr {xt yt : TypeId} {x y : Operand} {k k' : IntKind} {m n : Int} (hx : σ.ev x = .sc (.int k m)) (hy : σ.ev y = .sc (.int k' n)) (h0 : 0 ≤ n) : Yld P N ⟨d, .binOp .shr xt x y yt, ty, pos, af, gd⟩ σ (.sc (.int k (m.fdiv (2 ^ min n.toNat k.bits)))) :=
  yld_pure fun ρ Z F a w hr => ⟨_, rfl, fun w' => by simp [execOp, ev_sc hr hx, ev_sc hr hy, run_eqGuard_int, binOp, Op.shift, show ¬ n < 0 by omega]⟩
theorem y_not {xt : TypeId} {x : Operand} {b : Bool} (hx : σ.ev x = .sc (.bool b)) : Yld P N ⟨d, .unOp .not xt x, ty, pos, af, gd⟩ σ (.sc (.bool (!b))) :=
  yld_pure fun ρ Z F a w hr => ⟨_, rfl, fun w' => by simp [execOp, ev_sc hr hx, Op.unary]⟩
theorem y_neg {xt : TypeId} {x : Operand} {k : IntKind} {n : Int} (hx : σ.ev x = .sc (.int k n)) : Yld P N ⟨d, .unOp .neg xt x, ty, pos, af, gd⟩ σ (.sc (.int k (k.wrap (0 - n)))) :=
  yld_pure fun ρ Z F a w hr => ⟨_, rfl, fun w' => by simp [execOp, ev_sc hr hx, Op.unary, Op.intArith]⟩
theorem y_conv {src dst : TypeId} {x : Operand} {k k' : IntKind} {n : Int} {d0 : TypeDesc} [hs : Und P src d0] [hd : Und P dst (.int k')] (hx : σ.ev x = .sc (.int k n)) : Yld P N ⟨d, .convert src dst x, ty, pos, af, gd⟩ σ (.sc (.int k' (k'.wrap n))) :=
  yld_pure fun ρ Z F a w hr => ⟨_, rfl, fun w' => by
    simp only [execOp, ev_sc hr hx, convert, Sem.run_bind, run_underlying hs.out, run_underlying hd.out, Result.andThen_ok]
    simp [Conv.intToInt]⟩
theorem y_convS {src dst : TypeId} {x : Operand} {s : ByteArray} [hs : Und P src .string] [hd : Und P dst .string] (hx : σ.ev x = .sc (.string s)) : Yld P N ⟨d, .convert src dst x, ty, pos, af, gd⟩ σ (.sc (.string s)) :=
  yld_pure fun ρ Z F a w hr => ⟨_, rfl, fun w' => by
    simp only [execOp, ev_sc hr hx, convert, Sem.run_bind, run_underlying hs.out, run_underlying hd.out, Result.andThen_ok]
    simp⟩
theorem max2_eq (x y : Int) : (if y > x then y else x) = max x y := by simp only [Int.max_def]; split <;> split <;> omega
theorem min2_eq (x y : Int) : (if y < x then y else x) = min x y := by simp only [Int.min_def]; split <;> split <;> omega
theorem y_max2 {x y : Operand} {k k' : IntKind} {m n : Int} {ts : Array TypeId} (hx : σ.ev x = .sc (.int k m)) (hy : σ.ev y = .sc (.int k' n)) : Yld P N ⟨d, .call ⟨.builtin .max, #[x, y], ts⟩, ty, pos, af, gd⟩ σ (.sc (.int k (max m n))) :=
  yld_pure fun ρ Z F a w hr => ⟨_, rfl, fun w' => by
    rw [← max2_eq]
    simp [execOp, resolve, invoke, builtin, Builtin.max_, Builtin.max2, ev_sc hr hx, ev_sc hr hy]⟩
theorem y_min2 {x y : Operand} {k k' : IntKind} {m n : Int} {ts : Array TypeId} (hx : σ.ev x = .sc (.int k m)) (hy : σ.ev y = .sc (.int k' n)) : Yld P N ⟨d, .call ⟨.builtin .min, #[x, y], ts⟩, ty, pos, af, gd⟩ σ (.sc (.int k (min m n))) :=
  yld_pure fun ρ Z F a w hr => ⟨_, rfl, fun w' => by
    rw [← min2_eq]
    simp [execOp, resolve, invoke, builtin, Builtin.min_, Builtin.min2, ev_sc hr hx, ev_sc hr hy]⟩
theorem y_max3 {x y z : Operand} {k k' k'' : IntKind} {m n q : Int} {ts : Array TypeId} (hx : σ.ev x = .sc (.int k m)) (hy : σ.ev y = .sc (.int k' n)) (hz : σ.ev z = .sc (.int k'' q)) : Yld P N ⟨d, .call ⟨.builtin .max, #[x, y, z], ts⟩, ty, pos, af, gd⟩ σ (.sc (.int k (max (max m n) q))) :=
  yld_pure fun ρ Z F a w hr => ⟨_, rfl, fun w' => by
    rw [← max2_eq, ← max2_eq]
    simp [execOp, resolve, invoke, builtin, Builtin.max_, Builtin.max2, ev_sc hr hx, ev_sc hr hy, ev_sc hr hz]⟩
theorem y_min3 {x y z : Operand} {k k' k'' : IntKind} {m n q : Int} {ts : Array TypeId} (hx : σ.ev x = .sc (.int k m)) (hy : σ.ev y = .sc (.int k' n)) (hz : σ.ev z = .sc (.int k'' q)) : Yld P N ⟨d, .call ⟨.builtin .min, #[x, y, z], ts⟩, ty, pos, af, gd⟩ σ (.sc (.int k (min (min m n) q))) :=
  yld_pure fun ρ Z F a w hr => ⟨_, rfl, fun w' => by
    rw [← min2_eq, ← min2_eq]
    simp [execOp, resolve, invoke, builtin, Builtin.min_, Builtin.min2, ev_sc hr hx, ev_sc hr hy, ev_sc hr hz]⟩

/-- A text's byte, as a number. -/
def bt (s : ByteArray) (i : Int) : Int := ((s.data.toList.getD i.toNat 0).toNat : Int)
theorem bt_range (s : ByteArray) (i : Int) : 0 ≤ bt s i ∧ bt s i ≤ 255 := by
  unfold bt
  have := (s.data.toList.getD i.toNat 0).toNat_lt
  omega
theorem toList_eq_iff (s t : ByteArray) : (s.toList == t.toList) = decide (s = t) := by
  rw [ByteArray.toList_eq, ByteArray.toList_eq]
  by_cases e : s = t
  · subst e; simp
  · have : s.data.toList ≠ t.data.toList := fun h' => e (ByteArray.ext (Array.toList_inj.1 h'))
    rw [decide_eq_false e]
    exact beq_eq_false_iff_ne.2 this
theorem run_eqGuard_str (op : BinOp) (t : TypeId) (x y : Operand) (m n : ByteArray) (w : World) : (eqGuard op t x y (.string m) (.string n)).run P w = .ok () w := by
  unfold eqGuard
  simp only []
  cases op <;> simp
def binStr : BinOp → ByteArray → ByteArray → Option Value
  | .eql, s, t => some (.bool (decide (s = t)))
  | .neq, s, t => some (.bool (!decide (s = t)))
  | _, _, _ => none
theorem y_binS {op : BinOp} {xt yt : TypeId} {x y : Operand} {s t : ByteArray} {v : Value} (hx : σ.ev x = .sc (.string s)) (hy : σ.ev y = .sc (.string t)) (hv : binStr op s t = some v) : Yld P N ⟨d, .binOp op xt x y yt, ty, pos, af, gd⟩ σ (.sc v) :=
  yld_pure fun ρ Z F a w hr => ⟨_, rfl, fun w' => by
    simp only [execOp, ev_sc hr hx, ev_sc hr hy]
    have hb : (binOp op xt (.string s) (.string t)).run P w' = .ok v w' := by
      cases op <;> simp only [binStr, Option.some.injEq, reduceCtorEq] at hv <;> subst hv <;> simp only [binOp, Op.stringOp, toList_eq_iff] <;> rfl
    simp [run_eqGuard_str, hb]⟩
theorem y_cat {xt yt : TypeId} {x y : Operand} {s t : ByteArray} (hx : σ.ev x = .sc (.string s)) (hy : σ.ev y = .sc (.string t)) (hs : s.size + t.size ≤ 9223372036854775807) : Yld P N ⟨d, .binOp .add xt x y yt, ty, pos, af, gd⟩ σ (.sc (.string (s ++ t))) :=
  yld_pure fun ρ Z F a w hr => ⟨_, rfl, fun w' => by
    simp only [execOp, ev_sc hr hx, ev_sc hr hy]
    have hb : (binOp .add xt (.string s) (.string t)).run P w' = .ok (.string (s ++ t)) w' := by
      simp only [binOp, Op.stringOp]
      rw [if_neg (by simp [IntKind.max, IntKind.bits, IntKind.signed]; omega)]
      rfl
    simp [run_eqGuard_str, hb]⟩
theorem y_lenS {x : Operand} {t : TypeId} {s : ByteArray} [ht : Und P t .string] (hx : σ.ev x = .sc (.string s)) : Yld P N ⟨d, .call ⟨.builtin .len, #[x], #[t]⟩, ty, pos, af, gd⟩ σ (.sc (.int .i64 s.size)) :=
  yld_pure fun ρ Z F a w hr => ⟨_, rfl, fun w' => by
    simp [execOp, resolve, invoke, builtin, Builtin.len_, ev_sc hr hx, run_underlying ht.out, goInt]⟩
theorem y_indexS {x y : Operand} {t : TypeId} {s : ByteArray} {k : IntKind} {i : Int} [ht : Und P t .string] (hx : σ.ev x = .sc (.string s)) (hy : σ.ev y = .sc (.int k i)) (h0 : 0 ≤ i) (h1 : i < s.size) : Yld P N ⟨d, .index t x y, ty, pos, af, gd⟩ σ (.sc (.int .u8 (bt s i))) :=
  yld_pure fun ρ Z F a w hr => ⟨_, rfl, fun w' => by
    have hlt : i.toNat < s.size := by omega
    have hb : s[i.toNat]? = some (s.data.toList.getD i.toNat 0) := by
      have h' : i.toNat < s.data.size := hlt
      rw [show s[i.toNat]? = some s[i.toNat] from getElem?_pos ..]
      have e : s.data.toList.getD i.toNat 0 = s.data[i.toNat] := by
        simp only [List.getD_eq_getElem?_getD, Array.getElem?_toList, Array.getElem?_eq_getElem h', Option.getD_some]
      rw [e]
      rfl
    simp [execOp, Instr.index, ev_sc hr hx, ev_sc hr hy, asIntOf, run_underlying ht.out, h0, hb, bt]⟩
theorem run_equal_bool {t : TypeId} (ht : P.underlying t = some .bool) (b c : Bool) (w : World) : (Op.equal t (.bool b) (.bool c)).run P w = .ok (b == c) w := by
  unfold Op.equal
  rw [show Op.maxDepth = 9999 + 1 from rfl, Op.equalIn]
  simp only [Sem.run_bind, run_underlying ht, Result.andThen_ok]
  rfl
theorem run_eqGuard_bool (op : BinOp) (t : TypeId) (x y : Operand) (m n : Bool) (w : World) : (eqGuard op t x y (.bool m) (.bool n)).run P w = .ok () w := by
  unfold eqGuard
  simp only []
  cases op <;> simp
theorem y_eqB {x y : Operand} {b c : Bool} {t yt : TypeId} [ht : Und P t .bool] (hx : σ.ev x = .sc (.bool b)) (hy : σ.ev y = .sc (.bool c)) : Yld P N ⟨d, .binOp .eql t x y yt, ty, pos, af, gd⟩ σ (.sc (.bool (b == c))) :=
  yld_pure fun ρ Z F a w hr => ⟨_, rfl, fun w' => by
    simp only [execOp, ev_sc hr hx, ev_sc hr hy, Sem.run_bind, run_eqGuard_bool, Result.andThen_ok, binOp, run_equal_bool ht.out, Sem.run_pure]⟩
theorem y_neB {x y : Operand} {b c : Bool} {t yt : TypeId} [ht : Und P t .bool] (hx : σ.ev x = .sc (.bool b)) (hy : σ.ev y = .sc (.bool c)) : Yld P N ⟨d, .binOp .neq t x y yt, ty, pos, af, gd⟩ σ (.sc (.bool (!(b == c)))) :=
  yld_pure fun ρ Z F a w hr => ⟨_, rfl, fun w' => by
    simp only [execOp, ev_sc hr hx, ev_sc hr hy, Sem.run_bind, run_eqGuard_bool, Result.andThen_ok, binOp, run_equal_bool ht.out, Sem.run_pure]⟩

/-! ### Cuts of a text -/
theorem run_sliceBound (k : IntKind) (i : Int) (y : Nat) (c : BoundsCode) (h0 : 0 ≤ i) (h1 : i ≤ y) (w : World) : (Instr.sliceBound (.int k i) y c).run P w = .ok i.toNat w := by
  simp [Instr.sliceBound, asIntOf, h0, h1]
theorem run_sliceAt_str (t : TypeId) (ht : P.underlying t = some .string) (s : ByteArray) (lo hi : Option Value) (w : World) (l h : Nat)
    (hb : (Instr.sliceBounds false s.size s.size lo hi none).run P w = .ok (l, h, s.size) w) : (Instr.sliceAt t (.string s) lo hi none).run P w = .ok (.string (s.extract l h)) w := by
  simp [Instr.sliceAt, run_underlying ht, Instr.slice, hb]
theorem y_sliceS_l {t : TypeId} {x lo : Operand} {s : ByteArray} {k : IntKind} {l : Int} [ht : Und P t .string] (hx : σ.ev x = .sc (.string s)) (hl : σ.ev lo = .sc (.int k l)) (h0 : 0 ≤ l) (h1 : l ≤ s.size) :
    Yld P N ⟨d, .slice t x (some lo) none none, ty, pos, af, gd⟩ σ (.sc (.string (s.extract l.toNat s.size))) :=
  yld_pure fun ρ Z F a w hr => ⟨_, rfl, fun w' => by
    have hb : (Instr.sliceBounds false s.size s.size (some (.int k l)) none none).run P w' = .ok (l.toNat, s.size, s.size) w' := by
      simp [Instr.sliceBounds, run_sliceBound, h0, h1]
    simp [execOp, ev_sc hr hx, ev_sc hr hl, run_sliceAt_str t ht.out s _ _ w' _ _ hb]⟩
theorem y_sliceS_h {t : TypeId} {x hi : Operand} {s : ByteArray} {k : IntKind} {h : Int} [ht : Und P t .string] (hx : σ.ev x = .sc (.string s)) (hh : σ.ev hi = .sc (.int k h)) (h0 : 0 ≤ h) (h1 : h ≤ s.size) :
    Yld P N ⟨d, .slice t x none (some hi) none, ty, pos, af, gd⟩ σ (.sc (.string (s.extract 0 h.toNat))) :=
  yld_pure fun ρ Z F a w hr => ⟨_, rfl, fun w' => by
    have hb : (Instr.sliceBounds false s.size s.size none (some (.int k h)) none).run P w' = .ok (0, h.toNat, s.size) w' := by
      simp [Instr.sliceBounds, run_sliceBound, h0, h1]
    simp [execOp, ev_sc hr hx, ev_sc hr hh, run_sliceAt_str t ht.out s _ _ w' _ _ hb]⟩
theorem y_sliceS {t : TypeId} {x lo hi : Operand} {s : ByteArray} {k k' : IntKind} {l h : Int} [ht : Und P t .string] (hx : σ.ev x = .sc (.string s)) (hl : σ.ev lo = .sc (.int k l)) (hh : σ.ev hi = .sc (.int k' h)) (h0 : 0 ≤ l) (h1 : l ≤ h) (h2 : h ≤ s.size) :
    Yld P N ⟨d, .slice t x (some lo) (some hi) none, ty, pos, af, gd⟩ σ (.sc (.string (s.extract l.toNat h.toNat))) :=
  yld_pure fun ρ Z F a w hr => ⟨_, rfl, fun w' => by
    have hb : (Instr.sliceBounds false s.size s.size (some (.int k l)) (some (.int k' h)) none).run P w' = .ok (l.toNat, h.toNat, s.size) w' := by
      simp [Instr.sliceBounds, run_sliceBound, show 0 ≤ h by omega, h0, h2, show l ≤ max h 0 by omega]
    simp [execOp, ev_sc hr hx, ev_sc hr hl, ev_sc hr hh, run_sliceAt_str t ht.out s _ _ w' _ _ hb]⟩

/-! ### Tuples, structs as values -/
theorem y_extract {x : Operand} {i : Nat} {cs : List AV} {v : AV} (hx : σ.ev x = .tup cs) (hi : cs[i]? = some v) : Yld P N ⟨d, .extract x i, ty, pos, af, gd⟩ σ v :=
  yld_pure fun ρ Z F a w hr => by
    have := hr.ev x
    rw [hx] at this
    obtain ⟨vs, e, hs, hp⟩ := this
    obtain ⟨u, hu, hv⟩ := hp.get hi
    refine ⟨u, hv, fun w' => ?_⟩
    have hu' : vs[i]? = some u := by simpa using hu
    simp [execOp, e, Instr.extract, hu']
theorem relP_extract {ρ : Nat → Option Geo} {Z : Nat → Option Obj} {cs : List AV} {vs : Array Value} (h : RelP ρ Z cs vs.toList) (o n : Nat) : RelP ρ Z ((cs.drop o).take n) (vs.extract o (o + n)).toList := by
  have := (h.drop o).take n
  simpa [List.extract_eq_take_drop] using this
theorem y_field1 {xt : TypeId} {x : Operand} {f off size : Nat} {ft : TypeId} {cs : List AV} {v : AV} [hf : Fld P xt f off size ft] [ha : Agg P ft false] (hx : σ.ev x = .agg cs) (hv : cs[off]? = some v) : Yld P N ⟨d, .field xt x f, ty, pos, af, gd⟩ σ v :=
  yld_pure fun ρ Z F a w hr => by
    have := hr.ev x
    rw [hx] at this
    obtain ⟨vs, e, hs, hp⟩ := this
    obtain ⟨u, hu, hv⟩ := hp.get hv
    refine ⟨u, hv, fun w' => ?_⟩
    have hu' : vs[off]? = some u := by simpa using hu
    have ho := hf.out
    cases hun : P.underlying xt with
    | none => rw [hun] at ho; cases ho
    | some D =>
      rw [hun] at ho
      cases D <;> simp only [reduceCtorEq] at ho
      rename_i fs
      cases hfs : fs[f]? with
      | none => rw [hfs] at ho; cases ho
      | some fld =>
        rw [hfs] at ho
        simp only [Option.map_some, Option.some.injEq, Prod.mk.injEq] at ho
        simp [execOp, Instr.field, run_underlying hun, hfs, asAgg, e, part, ho.1, ho.2, run_isAgg' ha, hu']
theorem y_fieldA {xt : TypeId} {x : Operand} {f off size : Nat} {ft : TypeId} {cs : List AV} [hf : Fld P xt f off size ft] [ha : Agg P ft true] (hx : σ.ev x = .agg cs) (hl0 : Nat.ble (off + size) cs.length = true) : Yld P N ⟨d, .field xt x f, ty, pos, af, gd⟩ σ (.agg ((cs.drop off).take size)) :=
  yld_pure fun ρ Z F a w hr => by
    have := hr.ev x
    rw [hx] at this
    obtain ⟨vs, e, hs, hp⟩ := this
    have hl := Nat.le_of_ble_eq_true hl0
    refine ⟨.agg (vs.extract off (off + size)), ⟨_, rfl, by simp; omega, relP_extract hp off size⟩, fun w' => ?_⟩
    have ho := hf.out
    have hz := hf.sz
    cases hun : P.underlying xt with
    | none => rw [hun] at ho; cases ho
    | some D =>
      rw [hun] at ho
      cases D <;> simp only [reduceCtorEq] at ho
      rename_i fs
      cases hfs : fs[f]? with
      | none => rw [hfs] at ho; cases ho
      | some fld =>
        rw [hfs] at ho
        simp only [Option.map_some, Option.some.injEq, Prod.mk.injEq] at ho
        cases hi : P.info? ft with
        | none => rw [hi] at hz; cases hz
        | some i =>
          rw [hi] at hz
          simp only [Option.map_some, Option.some.injEq] at hz
          simp [execOp, Instr.field, run_underlying hun, hfs, asAgg, e, part, ho.1, ho.2, run_isAgg' ha, run_sizeOf' hi, hz]
end
end Go.Proofs.YtdcnpkbflelpfaaDoor.Sx
