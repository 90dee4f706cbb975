/- Calls of functions that the model stands in for; exclusive or with all ones; a result that lies in a cell. -/
import Derived.Test.YtdcnpkbflelpfaaDoorSx25
import Derived.Laws.Externs
namespace Go.Proofs.YtdcnpkbflelpfaaDoor.Sx
open Go Go.RowKit
class Extn (P : Program) (f : FuncId) (e : Array Value → Sem Value) : Prop where
  out : ∀ args w, (callFunc f args).run P w = ((e args).run P w).andThen fun v w' => .ok (.value v) w'
theorem extn_of {P : Program} {f : FuncId} {fn : Func} {e : Array Value → Sem Value} (hf : P.funcs[f]? = some fn) (hname : (fn.name == "runtime.NumGoroutine") = false) (hb : fn.body.isNone = true) (hn : Extern.findNext fn = none) (he : Extern.find fn = some e) : Extn P f e :=
  ⟨run_callFunc_extern hf hname hb hn he⟩
section
variable {P : Program} {N : Sg} {σ : St} {d : Option Tmp} {ty : TypeId} {pos : String} {af : Array Edge} {gd : Option (Nat × Bool)}
theorem y_xor {xt : TypeId} {x : Operand} {k : IntKind} {n : Int} (hx : σ.ev x = .sc (.int k n)) : Yld P N ⟨d, .unOp .xor xt x, ty, pos, af, gd⟩ σ (.sc (.int k (k.wrap (BitVec.ofInt k.bits (if k.signed then -1 else k.max) ^^^ BitVec.ofInt k.bits n).toNat))) :=
  yld_pure fun ρ Z F a w hr => ⟨_, rfl, fun w' => by simp [execOp, ev_sc hr hx, Op.unary, Op.intBits]⟩
theorem y_add64 {f : FuncId} {x y z : Operand} {ts : Array TypeId} {m n c : Int} [he : Extn P f add64Entry] (hx : σ.ev x = .sc (.int .u64 m)) (hy : σ.ev y = .sc (.int .u64 n)) (hz : σ.ev z = .sc (.int .u64 c)) (h0 : 0 ≤ m) (h1 : 0 ≤ n) (h2 : 0 ≤ c) (h3 : c ≤ 1) :
    Yld P N ⟨d, .call ⟨.value (.func f), #[x, y, z], ts⟩, ty, pos, af, gd⟩ σ (.tup [.sc (.int .u64 ((m + n + c) % 18446744073709551616)), .sc (.int .u64 ((m + n + c) / 18446744073709551616))]) :=
  yld_pure fun ρ Z F a w hr => ⟨.tuple #[.int .u64 ((m + n + c) % 18446744073709551616), .int .u64 ((m + n + c) / 18446744073709551616)], ⟨_, rfl, rfl, rfl, rfl, trivial⟩, fun w' => by
    have hrun : (execOp a.eval ⟨d, .call ⟨.value (.func f), #[x, y, z], ts⟩, ty, pos, af, gd⟩).run P w' = (callFunc f #[a.eval x, a.eval y, a.eval z]).run P w' := by
      simp [execOp, resolve, Deferred.ofValue, Act.eval, invoke]
    rw [hrun, ev_sc hr hx, ev_sc hr hy, ev_sc hr hz, he.out, run_add64 m n c h0 h1 h2 h3]
    rfl⟩
end
section
variable {P : Program} {R : AV → Hp → Prop} {env : List (Nat × AV)} {hp : Hp}
theorem retc1 {k t0 ty id size bytes ez et : Nat} {cs : List AV} {zero : Value} (l : List Nat) [ha : Agg P ty true] [hi : Inf P ty size bytes zero] (hn : l.Nodup) (hk : Keeps k l = true) (h0 : look t0 env = .ptr id 0) (hb : hp.get id = some ⟨cs, ez, et⟩) (hl : Nat.ble size cs.length = true) (h : R ((AV.agg (cs.take size)).ren (idx l)) (hp.sub l)) : retQ P k [.cell t0 ty] R .ret ⟨env, [], hp⟩ :=
  ⟨rfl, [_], ⟨⟨id, _, h0, hb, .inr ⟨size, bytes, zero, ha, hi, by simpa using hl, rfl⟩⟩, trivial⟩, l, hn, hk, h⟩
end
end Go.Proofs.YtdcnpkbflelpfaaDoor.Sx
