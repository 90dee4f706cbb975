/- A whole struct stored into a block of the call's own. -/
import Derived.Test.YtdcnpkbflelpfaaDoorSx15
import Derived.Deep.MidRow
namespace Go.Proofs.YtdcnpkbflelpfaaDoor.Sx
open Go Go.RowKit
def setRow : List AV → Nat → List AV → List AV
  | cs, _, [] => cs
  | cs, o, v :: r => setRow (cs.set o v) (o + 1) r
theorem setRow_length : ∀ (vs cs : List AV) (o : Nat), (setRow cs o vs).length = cs.length
  | [], _, _ => rfl
  | v :: r, cs, o => by unfold setRow; rw [setRow_length r]; simp
theorem setCells_rel {ρ : Nat → Option Geo} {Z : Nat → Option Obj} {b : Nat} {e : TypeId} : ∀ (vs : List AV) (us : List Value) (o : Nat) (w : World) (cs : List AV) (cur : Array Value), vs.length = us.length → RelP ρ Z vs us → w.heap[b]? = some (.cells cur e (0, 0)) → RelP ρ Z cs cur.toList →
    ∃ cur', (w.setCells b o us).heap[b]? = some (.cells cur' e (0, 0)) ∧ cur'.size = cur.size ∧ RelP ρ Z (setRow cs o vs) cur'.toList ∧ (∀ k, k ≠ b → (w.setCells b o us).heap[k]? = w.heap[k]?) ∧ (w.setCells b o us).os = w.os ∧ (w.setCells b o us).tape = w.tape ∧ (w.setCells b o us).output = w.output ∧ (w.setCells b o us).heap.size = w.heap.size
  | [], [], o, w, cs, cur, _, _, h, hr => ⟨cur, h, rfl, hr, fun _ _ => rfl, rfl, rfl, rfl, rfl⟩
  | v :: vs, u :: us, o, w, cs, cur, hl, ⟨h1, h2⟩, h, hr => by
    obtain ⟨cur', g1, g2, g3, g4, g5, g6, g7, g8⟩ := setCells_rel vs us (o + 1) (w.setCell ⟨b, o, none⟩ u) (cs.set o v) (cur.setIfInBounds o u) (by simpa using hl) h2 (heap_setRow h u) (by rw [Array.toList_setIfInBounds]; exact hr.set h1)
    exact ⟨cur', g1, by simpa using g2, g3, fun k hk => (g4 k hk).trans (heap_setOther u hk), g5, g6, g7, g8.trans (by simp [World.setCell])⟩
  | [], _ :: _, _, _, _, _, hl, _, _, _ => by simp at hl
  | _ :: _, [], _, _, _, _, hl, _, _, _ => by simp at hl
section
variable {P : Program} {N : Sg} {env : List (Nat × AV)} {dfs : List (FuncId × List AV)} {ty : TypeId} {pos : String} {af : Array Edge} {gd : Option (Nat × Bool)} {K : St → Prop}
theorem s_storeA {t : TypeId} {x y : Operand} {id off size bytes n ez et : Nat} {cs vs : List AV} {bs : List (Nat × Option Blk)} {zero : Value} [ha : Inf P t size bytes zero] (hx : St.ev ⟨env, dfs, ⟨n, bs⟩⟩ x = .ptr id off) (hy : St.ev ⟨env, dfs, ⟨n, bs⟩⟩ y = .agg vs) (hb : find id bs = some ⟨cs, ez, et⟩) (h1 : vs.all AV.one = true) (hz : vs.length = size) (hl0 : Nat.ble (off + size) cs.length = true)
    (hk : K ⟨env, dfs, ⟨n, (id, some ⟨setRow cs off vs, ez, et⟩) :: bs⟩⟩) : AExec P N ⟨none, .store t x y, ty, pos, af, gd⟩ K ⟨env, dfs, ⟨n, bs⟩⟩ := fun ρ Z F a w hr next Qc hn => by
  have hl := Nat.le_of_ble_eq_true hl0
  have hx' := hr.ev x
  rw [hx] at hx'
  obtain ⟨g, hg, g0, e⟩ := hx'
  have hy' := hr.ev y
  rw [hy] at hy'
  obtain ⟨us, eu, hus, hp⟩ := hy'
  obtain ⟨cur, g1, g2, g3, g4⟩ := hr.hp.liveAt (b := ⟨cs, ez, et⟩) hb hg g0
  obtain ⟨I, hI, hIs, _, _⟩ := ha.get
  have hlen : cs.length ≤ cur.size := by simpa using g4.length
  have hrow := all_one hp (by simpa using hus) h1
  have hrun : (execOp a.eval ⟨none, .store t x y, ty, pos, af, gd⟩).run P w = .ok .skip (w.setCells g.blk off us.toList) := by
    have := run_storeAt_mid (P := P) w g.blk off t us (fun j hj => by
      have hj' : off + j < cur.size := by omega
      constructor
      · rw [cell_of g1]; simp [hj']
      · simp [World.frozen?, g1]) (by rw [hI]; simp [hIs, hus, hz]) (by rw [Array.all_eq_true_iff_forall_mem]; exact fun u hu => hrow u (by simpa using hu))
    simp [execOp, e, eu, this]
  unfold Oper.wp
  rw [hrun]
  obtain ⟨cur', k1, k2, k3, k4, k5, k6, k7, k8⟩ := setCells_rel vs us.toList off w cs cur (by simp [hus]) hp g1 g4
  refine hn _ _ ρ Z ⟨env, dfs, ⟨n, (id, some ⟨setRow cs off vs, ez, et⟩) :: bs⟩⟩ ⟨.refl _, k5, k6, k7, by omega⟩ ⟨hr.size, hr.env, hr.dfs, ?_, hr.kk⟩ hk
  exact hr.hp.set (i := id) (b := ⟨cs, ez, et⟩) (b' := ⟨setRow cs off vs, ez, et⟩) hb hg (.of g0 ⟨_, k1, by rw [k2]; exact g2, g3, k3⟩) (.inl g0) k4
end
end Go.Proofs.YtdcnpkbflelpfaaDoor.Sx
