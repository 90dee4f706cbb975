/- Contracts of another make, met by this engine; what the package variables hold. -/
import Derived.Test.YtdcnpkbflelpfaaDoorSx12
import Derived.Test.YtdcnpkbflelpfaaDoorSx10
import Derived.Lib.LaidTab
import Derived.Lib.AppendIntMem
namespace Go.Proofs.YtdcnpkbflelpfaaDoor.Sx
open Go Go.RowKit
/-- What the listed package variables hold, in a world. -/
def Pinned (w : World) : Prop := ∀ b cs, pinT b = some cs → ∃ t st, w.heap[b]? = some (.cells cs t st)
theorem tab_of {P : Program} {w : World} {name : String} {k : IntKind} {zs : List Int} {g : Nat} (hg : P.globalNamed name = some g) (hp : pinT g = some (zs.map fun z => Value.int k z).toArray) (h : Pinned w) : Lib.TabIs P w name k zs := by
  obtain ⟨t, st, e⟩ := h g _ hp
  unfold Lib.TabIs World.var?
  rw [hg]
  simp [e]
theorem tab_heap {P : Program} {w : World} {name : String} {k : IntKind} {zs : List Int} {g : Nat} (hg : P.globalNamed name = some g) (h : Lib.TabIs P w name k zs) : ∃ t st, w.heap[g]? = some (.cells (zs.map fun z => Value.int k z).toArray t st) := by
  unfold Lib.TabIs World.var? at h
  rw [hg] at h
  simp only [Option.bind_some] at h
  split at h
  · rename_i cs t st e
    cases h
    exact ⟨t, st, e⟩
  · cases h
theorem relP_scs {ρ : Nat → Option Geo} {Z : Nat → Option Obj} : ∀ {us vs : List Value}, vs.length = us.length → RelP ρ Z (us.map AV.sc) vs → vs = us
  | [], [], _, _ => rfl
  | [], _ :: _, hl, _ => by cases hl
  | _ :: _, [], hl, _ => by cases hl
  | u :: us, v :: vs, hl, ⟨h1, h2⟩ => by
    have e : v = u := h1
    rw [e, relP_scs (by simpa using hl) h2]
/-- A function of which it is known, in plain words, what it hands back: the world is as it was, but for new blocks. -/
theorem acalls_calls {P : Program} {f : FuncId} {us : List Value} {u : Value} {S : Hp} (h : ∀ w, Pinned w → Calls P f us.toArray w (fun e w' => e = .returned u ∧ Below w.heap.size w w')) : ACalls P f (us.map AV.sc) S (fun r S' => r = .sc u ∧ S' = S) := fun ρ Z F w cargs hp hk hl hr => by
  have e : cargs = us.toArray := by
    rw [← relP_scs (by simpa using hl) hr]
  subst e
  refine (h w (fun b cs hb => let ⟨t, st, h1⟩ := hp.pin b cs hb; ⟨t, st, hp.fixZ _ _ h1⟩)).mono ?_
  rintro e w' ⟨rfl, hb⟩
  exact ⟨u, ρ, Z, .sc u, S, rfl, .of_below hb, hp.below hb, rfl, rfl, rfl⟩
section
variable {P : Program} {N : Sg} {σ : St} {d : Option Tmp} {ty : TypeId} {pos : String} {af : Array Edge} {gd : Option (Nat × Bool)} {xt yt : TypeId} {x y : Operand} {m n : Int}
theorem u_add (hx : σ.ev x = .sc (.int .u64 m)) (hy : σ.ev y = .sc (.int .u64 n)) (h0 : 0 ≤ m + n) (h1 : m + n ≤ 18446744073709551615) : Yld P N ⟨d, .binOp .add xt x y yt, ty, pos, af, gd⟩ σ (.sc (.int .u64 (m + n))) := by
  have := y_bin (P := P) (N := N) (d := d) (op := .add) (xt := xt) (yt := yt) (ty := ty) (pos := pos) (af := af) (gd := gd) hx hy rfl
  rwa [wrap_u64 h0 h1] at this
theorem z_neg (hx : σ.ev x = .sc (.int .i64 m)) (h0 : -9223372036854775808 ≤ 0 - m) (h1 : 0 - m ≤ 9223372036854775807) : Yld P N ⟨d, .unOp .neg xt x, ty, pos, af, gd⟩ σ (.sc (.int .i64 (0 - m))) := by
  have := y_neg (P := P) (N := N) (d := d) (xt := xt) (ty := ty) (pos := pos) (af := af) (gd := gd) hx
  rwa [wrap_i64 h0 h1] at this
theorem u_quo (hx : σ.ev x = .sc (.int .u64 m)) (hy : σ.ev y = .sc (.int .u64 n)) (h0 : 0 ≤ m) (h1 : 0 < n) (h2 : m ≤ 18446744073709551615) : Yld P N ⟨d, .binOp .quo xt x y yt, ty, pos, af, gd⟩ σ (.sc (.int .u64 (m / n))) := by
  have := y_quo (P := P) (N := N) (d := d) (xt := xt) (yt := yt) (ty := ty) (pos := pos) (af := af) (gd := gd) hx hy (by omega)
  rw [Int.tdiv_eq_ediv_of_nonneg h0] at this
  have a : 0 ≤ m / n := Int.ediv_nonneg h0 (by omega)
  have b : m / n ≤ m := Int.ediv_le_self n h0
  rwa [wrap_u64 (by omega) (by omega)] at this
end
end Go.Proofs.YtdcnpkbflelpfaaDoor.Sx
