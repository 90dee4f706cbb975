/- Calls in the written-out form; a heap spelled anew. -/
import Derived.Test.YtdcnpkbflelpfaaDoorSx16
namespace Go.Proofs.YtdcnpkbflelpfaaDoor.Sx
open Go Go.RowKit
/-- Each of these blocks is one of the heap's. -/
def SubHp (bs : List (Nat × Option Blk)) : List (Nat × Option Blk) → Prop
  | [] => True
  | (i, some b) :: r => find i bs = some b ∧ SubHp bs r
  | (_, none) :: r => SubHp bs r
theorem subHp_get {bs : List (Nat × Option Blk)} {i : Nat} {b : Blk} : ∀ {bs' : List (Nat × Option Blk)}, SubHp bs bs' → find i bs' = some b → find i bs = some b
  | [], _, h => by cases h
  | (k, some c) :: r, ⟨h1, h2⟩, h => by
    rw [find_cons] at h
    split at h
    · rename_i e; subst e; rw [h1, ← h]
    · exact subHp_get h2 h
  | (k, none) :: r, h2, h => by
    rw [find_cons] at h
    split at h
    · cases h
    · exact subHp_get (bs' := r) h2 h
theorem HpRel.less {ρ : Nat → Option Geo} {Z : Nat → Option Obj} {F : Ctx} {S S' : Hp} {w : World} (h : HpRel ρ Z F S w) (hn : S'.nxt = S.nxt) (hs : SubHp S.bs S'.bs) : HpRel ρ Z F S' w := by
  have get : ∀ i b, S'.get i = some b → S.get i = some b := fun i b hb => subHp_get hs hb
  exact ⟨fun i b hb => h.live i b (get i b hb), fun i j bi bj gi gj h1 h2 => h.inj i j bi bj gi gj (get _ _ h1) (get _ _ h2), fun i b g hb => h.offZ i b g (get _ _ hb), fun i b g hb => h.offF i b g (get _ _ hb), h.fixZ, h.fixF, fun i hi => h.fresh i (by omega), h.disj, h.anch, h.pin⟩
section
variable {P : Program} {N : Sg} {Q : Exit → St → Prop} {env : List (Nat × AV)} {dfs : List (FuncId × List AV)} {hp : Hp} {ops : Array Oper} {rest : List Oper}
  {ty : TypeId} {pos : String} {af : Array Edge} {t : Tmp} {gd : Option (Nat × Bool)} {K : St → Prop}
theorem o_norm (hp' : Hp) (hn : hp'.nxt = hp.nxt) (hs : SubHp hp.bs hp'.bs) (h : AOps P N ops Q rest ⟨env, dfs, hp'⟩) : AOps P N ops Q rest ⟨env, dfs, hp⟩ := fun ρ Z F a w hr =>
  h ρ Z F a w ⟨hr.size, hr.env, hr.dfs, hr.hp.less hn hs, hr.kk⟩
theorem s_call {f : FuncId} {xs : List Operand} {ts : Array TypeId} {R : AV → Hp → Prop} [hc : Callable P f] (m : List Nat) (hn : m.Nodup) (hm : allLive hp m = true) (hd : Nat.blt t N.n = true)
    (spec : ACalls P f (renL (idx m) (xs.map (St.ev ⟨env, dfs, hp⟩))) (hp.sub m) R)
    (hk : ∀ r S', R r S' → K ⟨(t, r.ren (rOut m hp.nxt)) :: env, dfs, hp.back m S'⟩) : AExec P N ⟨some t, .call ⟨.value (.func f), xs.toArray, ts⟩, ty, pos, af, gd⟩ K ⟨env, dfs, hp⟩ :=
  x_call m hn hm hd spec hk
end
end Go.Proofs.YtdcnpkbflelpfaaDoor.Sx
