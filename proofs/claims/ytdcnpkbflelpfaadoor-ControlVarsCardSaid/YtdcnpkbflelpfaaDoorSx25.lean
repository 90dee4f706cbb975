/- Maps made, of which nothing is known; slices from a place on; more operators. -/
import Derived.Test.YtdcnpkbflelpfaaDoorSx24
namespace Go.Proofs.YtdcnpkbflelpfaaDoor.Sx
open Go Go.RowKit
section
variable {P : Program} {N : Sg} {σ : St} {d : Option Tmp} {ty : TypeId} {pos : String} {af : Array Edge} {gd : Option (Nat × Bool)} {K : St → Prop}
  {env : List (Nat × AV)} {dfs : List (FuncId × List AV)} {hp : Hp} {t : Tmp}
theorem x_makeMap {T : TypeId} (hd : Nat.blt t N.n = true) (hk : K ⟨(t, .opq) :: env, dfs, hp⟩) : AExec P N ⟨some t, .makeMap T none, ty, pos, af, gd⟩ K ⟨env, dfs, hp⟩ := fun ρ Z F a w hr next Qc hn => by
  have hrun : (execOp a.eval ⟨some t, .makeMap T none, ty, pos, af, gd⟩).run P w = .ok (.value (.map (some w.heap.size))) (w.alloc (.map #[] 0)) := by
    simp [execOp, Instr.makeMap]
  have hb : Below w.heap.size w (w.alloc (.map #[] 0)) := ⟨rfl, rfl, rfl, by simp, fun k hk => heap_push_old w _ hk⟩
  unfold Oper.wp
  rw [hrun]
  exact hn _ _ ρ Z _ (.of_below hb) ((hr.below hb).put (d := some t) (v := .opq) (by rintro _ ⟨⟩; rwa [Nat.blt_eq] at hd) rfl) hk
theorem y_slice_sl_l {t e : TypeId} {size bytes : Nat} {zero : Value} {x lo : Operand} {id o len : Nat} {k : IntKind} {l : Int} {b : Blk} [ht : Und P t (.slice e)] [hI : Inf P e size bytes zero] (hx : σ.ev x = .sl id o len) (hl : σ.ev lo = .sc (.int k l)) (hb : σ.hp.get id = some b) (hz : b.esz = size) (h0 : 0 ≤ l) (h1 : l ≤ len) :
    Yld P N ⟨d, .slice t x (some lo) none none, ty, pos, af, gd⟩ σ (.sl id (o + l.toNat) (len - l.toNat)) :=
  yld_pure fun ρ Z F a w hr => by
    have := hr.ev x
    rw [hx] at this
    obtain ⟨A, cap, e1, hc, hrel⟩ := rel_sliced_sl (l := l.toNat) (h := len) (size := size) this (by omega) (Nat.le_refl _) (fun g hg => (hr.hp.esz hb hg).trans hz)
    refine ⟨_, hrel, fun w' => ?_⟩
    simp only [execOp, e1, ev_sc hr hl, Option.map, run_slice_bounds (bounds_l (P := P) (k := k) (w := w') (len := len) h0 h1 hc), Sem.run_bind, Result.andThen_ok, Sem.run_pure]
end
end Go.Proofs.YtdcnpkbflelpfaaDoor.Sx
