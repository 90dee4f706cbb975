/- Calls through a closure; pairs of strings against one another; rows of such pairs. -/
import Derived.Test.YtdcnpkbflelpfaaDoorSx26
import Derived.Laws.StructEq
namespace Go.Proofs.YtdcnpkbflelpfaaDoor.Sx
open Go Go.RowKit
theorem frzS_fn {S : Hp} {f : FuncId} {cap cap' : List AV} (h : FrzSL S cap cap') : FrzS S (.fn f cap) (.fn f cap') := fun ρ Z F w u hp hr => by
  obtain ⟨vs, e, hs, hr'⟩ := hr
  exact ⟨vs, e, by rw [hs, frzSL_length h], frzSL_rel hp h hr'⟩
section
variable {P : Program} {N : Sg} {σ : St} {d : Option Tmp} {ty : TypeId} {pos : String} {af : Array Edge} {gd : Option (Nat × Bool)}
theorem q_callV {x : Operand} {f : FuncId} {cap : List AV} {xs : List Operand} {ts : Array TypeId} {v : Value} [hc : Callable P f] (hx : σ.ev x = .fn f cap) (spec : ACalls P f (renL (fun _ => none) (xs.map σ.ev ++ cap)) ⟨0, []⟩ (fun r _ => r = .sc v)) :
    QY P N ⟨d, .call ⟨.value x, xs.toArray, ts⟩, ty, pos, af, gd⟩ σ (.sc v) := fun ρ Z F a w hr => by
  refine ⟨v, rfl, fun w' hb => ?_⟩
  have hx' := hr.ev x
  rw [hx] at hx'
  obtain ⟨vs, e, hs, hp'⟩ := hx'
  have hrun : (execOp a.eval ⟨d, .call ⟨.value x, xs.toArray, ts⟩, ty, pos, af, gd⟩).run P w' = .ok (.enter f ((xs.map a.eval).toArray ++ vs)) w' := by
    simp [execOp, resolve, Deferred.ofValue, e, invoke, hc.out]
  unfold Oper.quietAt
  rw [hrun]
  refine ⟨rfl, ?_⟩
  have hr' := hr.below hb
  have hp := callee_hp hr'.hp (m := []) List.nodup_nil
  refine (spec (subρ ρ []) Z _ w' _ hp (fun i hi => by exact subρ_out (ρ := ρ) (m := []) (Nat.zero_le i)) (by simp [renL_length, hs]) ?_).mono ?_
  · have h1 : RelP ρ Z (xs.map σ.ev ++ cap) ((xs.map a.eval).toArray ++ vs).toList := by
      simpa using RelP.append (by simp) (map_ev hr xs) hp'
    exact h1.ren (ρ' := subρ ρ []) (r := fun _ => none) (fun _ _ _ h => by cases h)
  · rintro e w'' ⟨u, ρ', Z', r, S', rfl, hx, h', hrel, rfl⟩
    have hu : u = v := hrel
    subst hu
    refine ⟨rfl, hx.os.trans hb.os, hx.tape.trans hb.tape, hx.output.trans hb.output, Nat.le_trans hb.size hx.size, fun k hk => ?_⟩
    refine Eq.trans ?_ (hb.block k hk)
    have hk' : k < w'.heap.size := Nat.lt_of_lt_of_le hk hb.size
    have ho : w'.heap[k]? = some w'.heap[k] := by simp [hk']
    rw [ho]
    cases hz : Z k with
    | some o =>
      have h1 := hr'.hp.fixZ k o hz
      rw [ho] at h1; cases h1
      exact h'.fixZ k _ (hx.Z_le k _ hz)
    | none => exact h'.fixF k _ (frame_of ho hz fun i _ _ hi => by cases hi)

/-- What an own block holds, where it is known. -/
theorem y_loadE {t : TypeId} {x : Operand} {id off size bytes : Nat} {zero : Value} {b : Blk} {vs : List AV} [ha : Agg P t true] [hs : Inf P t size bytes zero] (hx : σ.ev x = .ptr id off) (hb : σ.hp.get id = some b) (hv : (b.cells.drop off).take size = vs) (hz : vs.length = size) (h0 : Nat.blt 0 size = true) :
    Yld P N ⟨d, .load t x, ty, pos, af, gd⟩ σ (.agg vs) := by
  have hl : off + size ≤ b.cells.length := by
    have := congrArg List.length hv
    simp at this h0
    omega
  rw [← hv]
  exact y_loadA hx hb (by simpa using hl)
/-- Structs of two strings are compared string by string. -/
class Eq2S (P : Program) (t : TypeId) : Prop where
  out : ∀ (a b c d : ByteArray) (w : World), (Op.equalIn 10000 t (.agg #[.string a, .string b]) (.agg #[.string c, .string d])).run P w = .ok (decide (a = c) && decide (b = d)) w
  gd : P.eqGuardType P.depth t = false
theorem agg2 {ρ : Nat → Option Geo} {Z : Nat → Option Obj} {a b : ByteArray} {u : Value} (h : Rel ρ Z (.agg [.sc (.string a), .sc (.string b)]) u) : u = .agg #[.string a, .string b] := by
  obtain ⟨vs, rfl, hs, hr⟩ := h
  obtain ⟨l⟩ := vs
  match l, hs, hr with
  | [_, _], _, ⟨rfl, rfl, _⟩ => rfl
theorem y_eq2S {x y : Operand} {t t' : TypeId} {a b a' b' : ByteArray} [h : Eq2S P t] (hx : σ.ev x = .agg [.sc (.string a), .sc (.string b)]) (hy : σ.ev y = .agg [.sc (.string a'), .sc (.string b')]) : Yld P N ⟨d, .binOp .eql t x y t', ty, pos, af, gd⟩ σ (.sc (.bool (decide (a = a') && decide (b = b')))) :=
  yld_pure fun ρ Z F A w hr => ⟨_, rfl, fun w' => by
    have h1 := hr.ev x
    have h2 := hr.ev y
    rw [hx] at h1
    rw [hy] at h2
    simp only [execOp, agg2 h1, agg2 h2, Sem.run_bind, run_eqGuard_agg w' .eql t x y _ _ h.gd, Result.andThen_ok, run_eql_struct, h.out]
    rfl⟩
theorem y_ne2S {x y : Operand} {t t' : TypeId} {a b a' b' : ByteArray} [h : Eq2S P t] (hx : σ.ev x = .agg [.sc (.string a), .sc (.string b)]) (hy : σ.ev y = .agg [.sc (.string a'), .sc (.string b')]) : Yld P N ⟨d, .binOp .neq t x y t', ty, pos, af, gd⟩ σ (.sc (.bool (!(decide (a = a') && decide (b = b'))))) :=
  yld_pure fun ρ Z F A w hr => ⟨_, rfl, fun w' => by
    have h1 := hr.ev x
    have h2 := hr.ev y
    rw [hx] at h1
    rw [hy] at h2
    simp only [execOp, agg2 h1, agg2 h2, Sem.run_bind, run_eqGuard_agg w' .neq t x y _ _ h.gd, Result.andThen_ok, run_neq_struct, h.out]
    rfl⟩
end
abbrev Pr := ByteArray × ByteArray
def prC (v : Pr) : List AV := [.sc (.string v.1), .sc (.string v.2)]
def prs (l : List Pr) : List AV := l.flatMap prC
theorem prs_length (l : List Pr) : (prs l).length = l.length * 2 := flat_length (f := prC) (fun _ => rfl) l
theorem prs_snoc (l : List Pr) (a b : ByteArray) : prs l ++ [.sc (.string a), .sc (.string b)] = prs (l ++ [(a, b)]) := by simp [prs, prC]
theorem prs_flat (l : List Pr) : (prs l).all AV.flat = true := by
  simp [prs, prC, AV.flat]
theorem prs_one (l : List Pr) : (prs l).all AV.one = true := by
  simp [prs, prC, AV.one, Value.oneCell']
theorem prs_at {l : List Pr} {i : Nat} {v : Pr} (h : l[i]? = some v) : ((prs l).drop (i * 2)).take 2 = [.sc (.string v.1), .sc (.string v.2)] := flat_at (f := prC) (fun _ => rfl) h
theorem prs_get {l : List Pr} {i : Nat} {v : Pr} (h : l[i]? = some v) (j : Nat) (hj : j < 2) : (prs l)[i * 2 + j]? = (prC v)[j]? := flat_get (f := prC) (fun _ => rfl) h hj
end Go.Proofs.YtdcnpkbflelpfaaDoor.Sx
