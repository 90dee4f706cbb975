/- More operations: lengths of slices, pointers against nil, what a view holds. -/
import Derived.Test.YtdcnpkbflelpfaaDoorSx13
import Derived.Laws.Pointers
namespace Go.Proofs.YtdcnpkbflelpfaaDoor.Sx
open Go Go.RowKit
section
variable {P : Program} {N : Sg} {σ : St} {d : Option Tmp} {ty : TypeId} {pos : String} {af : Array Edge} {gd : Option (Nat × Bool)}
theorem y_lenV {x : Operand} {t e : TypeId} {cs : List AV} {esz o len : Nat} [ht : Und P t (.slice e)] (hx : σ.ev x = .vsl cs esz o len) : Yld P N ⟨d, .call ⟨.builtin .len, #[x], #[t]⟩, ty, pos, af, gd⟩ σ (.sc (.int .i64 len)) :=
  yld_pure fun ρ Z F a w hr => ⟨_, rfl, fun w' => by
    have := hr.ev x
    rw [hx] at this
    obtain ⟨A, cap, hu, _⟩ := this
    simp [execOp, resolve, invoke, builtin, Builtin.len_, hu, run_underlying ht.out, goInt]⟩
theorem y_lenL {x : Operand} {t e : TypeId} {id o len : Nat} [ht : Und P t (.slice e)] (hx : σ.ev x = .sl id o len) : Yld P N ⟨d, .call ⟨.builtin .len, #[x], #[t]⟩, ty, pos, af, gd⟩ σ (.sc (.int .i64 len)) :=
  yld_pure fun ρ Z F a w hr => ⟨_, rfl, fun w' => by
    have := hr.ev x
    rw [hx] at this
    obtain ⟨g, A, _, hu, _⟩ := this
    simp [execOp, resolve, invoke, builtin, Builtin.len_, hu, run_underlying ht.out, goInt]⟩
theorem run_eqInPtrNil {t e : TypeId} [ht : Und P t (.pointer e)] (n : Nat) (p : Option Addr) (w : World) : (Op.equalIn (n + 1) t (.pointer p) (.pointer none)).run P w = .ok p.isNone w := by
  cases p <;> simp [Op.equalIn, run_underlying ht.out]
theorem run_eqPtrNil {t e : TypeId} [ht : Und P t (.pointer e)] (p : Option Addr) (w : World) : (binOp .eql t (.pointer p) (.pointer none)).run P w = .ok (.bool p.isNone) w := by
  have h' : (Op.equal t (.pointer p) (.pointer none)).run P w = .ok p.isNone w := run_eqInPtrNil 9999 p w
  simp only [binOp]
  simp [h']
theorem run_nePtrNil {t e : TypeId} [ht : Und P t (.pointer e)] (p : Option Addr) (w : World) : (binOp .neq t (.pointer p) (.pointer none)).run P w = .ok (.bool (!p.isNone)) w := by
  have h' : (Op.equal t (.pointer p) (.pointer none)).run P w = .ok p.isNone w := run_eqInPtrNil 9999 p w
  simp only [binOp]
  simp [h']
theorem run_eqGuardPtr (op : BinOp) (t : TypeId) (x y : Operand) (p q : Option Addr) (w : World) : (eqGuard op t x y (.pointer p) (.pointer q)).run P w = .ok () w := by
  unfold eqGuard
  simp only []
  cases op <;> simp
theorem y_eqNil {x y : Operand} {t e t' : TypeId} {id off : Nat} [ht : Und P t (.pointer e)] (hx : σ.ev x = .ptr id off) (hy : σ.ev y = .sc (.pointer none)) : Yld P N ⟨d, .binOp .eql t x y t', ty, pos, af, gd⟩ σ (.sc (.bool false)) :=
  yld_pure fun ρ Z F a w hr => ⟨_, rfl, fun w' => by
    have := hr.ev x
    rw [hx] at this
    obtain ⟨g, _, hu⟩ := this
    simp [execOp, hu, ev_sc hr hy, run_eqGuardPtr, run_eqPtrNil (t := t)]⟩
theorem y_neNil {x y : Operand} {t e t' : TypeId} {id off : Nat} [ht : Und P t (.pointer e)] (hx : σ.ev x = .ptr id off) (hy : σ.ev y = .sc (.pointer none)) : Yld P N ⟨d, .binOp .neq t x y t', ty, pos, af, gd⟩ σ (.sc (.bool true)) :=
  yld_pure fun ρ Z F a w hr => ⟨_, rfl, fun w' => by
    have := hr.ev x
    rw [hx] at this
    obtain ⟨g, _, hu⟩ := this
    simp [execOp, hu, ev_sc hr hy, run_eqGuardPtr, run_nePtrNil (t := t)]⟩
theorem y_eqNil0 {x y : Operand} {t e t' : TypeId} [ht : Und P t (.pointer e)] (hx : σ.ev x = .sc (.pointer none)) (hy : σ.ev y = .sc (.pointer none)) : Yld P N ⟨d, .binOp .eql t x y t', ty, pos, af, gd⟩ σ (.sc (.bool true)) :=
  yld_pure fun ρ Z F a w hr => ⟨_, rfl, fun w' => by
    simp [execOp, ev_sc hr hx, ev_sc hr hy, run_eqGuardPtr, run_eqPtrNil (t := t)]⟩
theorem y_neNil0 {x y : Operand} {t e t' : TypeId} [ht : Und P t (.pointer e)] (hx : σ.ev x = .sc (.pointer none)) (hy : σ.ev y = .sc (.pointer none)) : Yld P N ⟨d, .binOp .neq t x y t', ty, pos, af, gd⟩ σ (.sc (.bool false)) :=
  yld_pure fun ρ Z F a w hr => ⟨_, rfl, fun w' => by
    simp [execOp, ev_sc hr hx, ev_sc hr hy, run_eqGuardPtr, run_nePtrNil (t := t)]⟩
/-- What a view holds, where it is known. -/
theorem y_vload {t : TypeId} {x : Operand} {cs : List AV} {off : Nat} {v : AV} [ha : Agg P t false] (hx : σ.ev x = .vptr cs off) (hv : cs[off]? = some v) : Yld P N ⟨d, .load t x, ty, pos, af, gd⟩ σ v := y_vload1 hx hv
theorem y_vloadE {t : TypeId} {x : Operand} {cs vs : List AV} {off size bytes : Nat} {zero : Value} [ha : Agg P t true] [hs : Inf P t size bytes zero] (hx : σ.ev x = .vptr cs off) (hv : (cs.drop off).take size = vs) (hz : vs.length = size) (h0 : Nat.blt 0 size = true) :
    Yld P N ⟨d, .load t x, ty, pos, af, gd⟩ σ (.agg vs) := by
  have hl : off + size ≤ cs.length := by
    have := congrArg List.length hv
    simp at this h0
    omega
  rw [← hv]
  exact y_vloadA hx (by simpa using hl)
end
end Go.Proofs.YtdcnpkbflelpfaaDoor.Sx
