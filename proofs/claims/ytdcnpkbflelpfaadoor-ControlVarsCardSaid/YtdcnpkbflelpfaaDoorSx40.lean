/- Structs of plain cells against one another. -/
import Derived.Test.YtdcnpkbflelpfaaDoorSx38
import Derived.Laws.StructEq
namespace Go.Proofs.YtdcnpkbflelpfaaDoor.Sx
open Go Go.RowKit
section
variable {P : Program} {N : Sg} {σ : St} {d : Option Tmp} {ty : TypeId} {pos : String} {af : Array Edge} {gd : Option (Nat × Bool)}
theorem exV_agg {cs : List AV} {l : List Value} (h : exVL cs = some l) : AV.exV (.agg cs) = some (.agg l.toArray) := by
  unfold AV.exV
  rw [h]
theorem y_neSt {x y : Operand} {t t' : TypeId} {cs cs' : List AV} {l l' : List Value} {b : Bool} (hx : σ.ev x = .agg cs) (hy : σ.ev y = .agg cs') (hl : exVL cs = some l) (hl' : exVL cs' = some l') (hg : P.eqGuardType P.depth t = false) (out : ∀ w, (Op.equalIn 10000 t (.agg l.toArray) (.agg l'.toArray)).run P w = .ok b w) : Yld P N ⟨d, .binOp .neq t x y t', ty, pos, af, gd⟩ σ (.sc (.bool (!b))) :=
  yld_pure fun ρ Z F A w hr => ⟨_, rfl, fun w' => by
    have h1 := hr.ev x
    have h2 := hr.ev y
    rw [hx] at h1
    rw [hy] at h2
    simp only [execOp, (exV_rel _ _ (exV_agg hl)).2 _ h1, (exV_rel _ _ (exV_agg hl')).2 _ h2, Sem.run_bind, run_eqGuard_agg w' .neq t x y _ _ hg, Result.andThen_ok, run_neq_struct, out]
    rfl⟩
theorem y_eqSt {x y : Operand} {t t' : TypeId} {cs cs' : List AV} {l l' : List Value} {b : Bool} (hx : σ.ev x = .agg cs) (hy : σ.ev y = .agg cs') (hl : exVL cs = some l) (hl' : exVL cs' = some l') (hg : P.eqGuardType P.depth t = false) (out : ∀ w, (Op.equalIn 10000 t (.agg l.toArray) (.agg l'.toArray)).run P w = .ok b w) : Yld P N ⟨d, .binOp .eql t x y t', ty, pos, af, gd⟩ σ (.sc (.bool b)) :=
  yld_pure fun ρ Z F A w hr => ⟨_, rfl, fun w' => by
    have h1 := hr.ev x
    have h2 := hr.ev y
    rw [hx] at h1
    rw [hy] at h2
    simp only [execOp, (exV_rel _ _ (exV_agg hl)).2 _ h1, (exV_rel _ _ (exV_agg hl')).2 _ h2, Sem.run_bind, run_eqGuard_agg w' .eql t x y _ _ hg, Result.andThen_ok, run_eql_struct, out]
    rfl⟩
end
/-- One field more that is compared. -/
theorem eqF_cons {P : Program} {w : World} {d : Nat} {xs ys : Array Value} {f : Field} {fs : List Field} {a b : Value} {r q : Bool} (hn : f.name ≠ "_") (ha : (part f.type xs f.offset).run P w = .ok a w) (hb : (part f.type ys f.offset).run P w = .ok b w) (he : (Op.equalIn d f.type a b).run P w = .ok r w) (rest : (Op.eqFields d xs ys fs).run P w = .ok q w) : (Op.eqFields d xs ys (f :: fs)).run P w = .ok (r && q) w := by
  unfold Op.eqFields
  rw [if_pos hn]
  simp only [Sem.run_bind, ha, hb, he, Result.andThen_ok, Sem.run_ite]
  cases r
  · simp [Sem.run_pure]
  · simpa using rest
theorem eqF_nil {P : Program} {w : World} {d : Nat} {xs ys : Array Value} : (Op.eqFields d xs ys []).run P w = .ok true w := by
  unfold Op.eqFields
  exact Sem.run_pure ..
end Go.Proofs.YtdcnpkbflelpfaaDoor.Sx
