/- Maps whose keys are arrays of two numbers; regions whose order is open, met by what stays true. -/
import Derived.Test.YtcidoghpacihpaaSx38
namespace Go.Proofs.Ytcidoghpacihpaa.Sx
open Go Go.RowKit
abbrev k2 (p : Int × Int) : Value := .agg #[.int .i64 p.1, .int .i64 p.2]
class EqArr (P : Program) (t : TypeId) : Prop where
  und : ∃ e, P.underlying t = some (.array 2 e)
  eq : ∀ (a b : Int × Int) (w : World), (Op.equal t (k2 a) (k2 b)).run P w = .ok (decide (a = b)) w
  chk : ∀ (a : Int × Int) (e : Bool) (w : World), (Instr.checkKey e 10000 t (k2 a)).run P w = .ok () w
section
variable {P : Program} {β : Type}
def fidx (vf : β → Value) (l : List ((Int × Int) × β)) (a : Int × Int) (i : Nat) : Option (Nat × Value) := match l with
  | [] => none
  | p :: r => if p.1 = a then some (i, vf p.2) else fidx vf r a (i + 1)
theorem fidx_alk (vf : β → Value) (a : Int × Int) : ∀ (l : List ((Int × Int) × β)) (i : Nat), (fidx vf l a i).map (·.2) = (alk l a).map vf
  | [], _ => rfl
  | p :: r, i => by
    unfold fidx alk
    split
    · rfl
    · exact fidx_alk vf a r (i + 1)
theorem fidx_none {vf : β → Value} {a : Int × Int} : ∀ {l : List ((Int × Int) × β)} {i : Nat}, alk l a = none → fidx vf l a i = none
  | [], _, _ => rfl
  | p :: r, i, h => by
    unfold alk at h
    unfold fidx
    split at h
    · cases h
    · rename_i hne
      rw [if_neg hne]
      exact fidx_none h
theorem run_findAsking {kt : TypeId} [E : EqArr P kt] {ρ : Nat → Option Geo} {Z : Nat → Option Obj} {vf : β → Value} (a : Int × Int) (w : World) : ∀ (l : List ((Int × Int) × β)) (es : List MapEntry) (i : Nat), EntR ρ Z k2 (l.map fun p => (p.1, AV.sc (vf p.2))) es → (Instr.findAsking kt (k2 a) es i).run P w = .ok (fidx vf l a i) w
  | [], [], i, _ => by simp [Instr.findAsking, fidx]
  | [], _ :: _, _, h => h.elim
  | _ :: _, [], _, h => h.elim
  | p :: l, e :: es, i, ⟨h1, h2, h3⟩ => by
    unfold Instr.findAsking fidx
    rw [h1]
    simp only [Sem.run_bind, E.eq, Result.andThen_ok]
    have h2' : e.val = vf p.2 := h2
    by_cases h : p.1 = a
    · subst h
      simp [h2']
    · have h' : ¬ a = p.1 := fun e => h e.symm
      simp only [h', decide_false, Bool.false_eq_true, if_false, if_neg h]
      exact run_findAsking a w l es (i + 1) h3
theorem run_findKeyA {kt : TypeId} [E : EqArr P kt] {ρ : Nat → Option Geo} {Z : Nat → Option Obj} {vf : β → Value} (a : Int × Int) (w : World) (l : List ((Int × Int) × β)) (es : List MapEntry) (h : EntR ρ Z k2 (l.map fun p => (p.1, AV.sc (vf p.2))) es) : (Instr.findKey kt (k2 a) es).run P w = .ok (fidx vf l a 0) w := by
  obtain ⟨e0, hu⟩ := E.und
  unfold Instr.findKey
  simp only [Sem.run_bind, run_underlying hu, Result.andThen_ok]
  cases l with
  | nil =>
    cases es with
    | nil => simp [Instr.findNow, fidx]
    | cons _ _ => exact h.elim
  | cons p r =>
    cases es with
    | nil => exact h.elim
    | cons e es =>
      have hn : Instr.findNow (.array 2 e0) (k2 a) (e :: es) 0 = none := by
        unfold Instr.findNow
        rw [h.1]
        rfl
      rw [hn]
      exact run_findAsking a w (p :: r) (e :: es) 0 h
end
section
variable {P : Program} {N : Sg} {σ : St} {d : Option Tmp} {ty : TypeId} {pos : String} {af : Array Edge} {gd : Option (Nat × Bool)} {K : St → Prop} {env : List (Nat × AV)} {dfs : List (FuncId × List AV)} {n : Nat} {bs : List (Nat × Option Blk)} {β : Type}
theorem ev_k2 {ρ Z F a w} {x : Operand} {p : Int × Int} (hr : StRel N ρ Z F σ a w) (h : σ.ev x = .agg [.sc (.int .i64 p.1), .sc (.int .i64 p.2)]) : a.eval x = k2 p := by
  have := hr.ev x
  rw [h] at this
  exact (exV_rel _ _ (by rfl)).2 _ this
theorem y_lookupA {T kt et : TypeId} {vf : β → Value} {x y : Operand} {id : Nat} {et' : TypeId} {l : List ((Int × Int) × β)} {a : Int × Int} {v zero : Value} {size bytes : Nat} [hT : Und P T (.map kt et)] [E : EqArr P kt] [hi : Inf P et size bytes zero]
    (hx : σ.ev x = .mp id) (hb : σ.hp.get id = some ⟨mpv k2 vf l, 0, et'⟩) (hy : σ.ev y = .agg [.sc (.int .i64 a.1), .sc (.int .i64 a.2)]) (hv : ((alk l a).map vf).getD zero = v) : Yld P N ⟨d, .lookup T x y false, ty, pos, af, gd⟩ σ (.sc v) := fun ρ Z F ac w hr => by
  have hx' := hr.ev x
  rw [hx] at hx'
  obtain ⟨g, hg, g0, gm, e⟩ := hx'
  obtain ⟨es, clock, h1, h2, h3, _⟩ := hr.hp.mapAt hb hg g0 gm rfl
  have hE : EntR ρ Z k2 (l.map fun p => (p.1, AV.sc (vf p.2))) es.toList := entR_of (by simpa [mpv] using h2) h3
  obtain ⟨I, hI, _, _, hIz⟩ := hi.get
  subst hv
  have key : ∀ w', w'.heap[g.blk]? = some (.map es clock) → (execOp ac.eval ⟨d, .lookup T x y false, ty, pos, af, gd⟩).run P w' = .ok (.value (((alk l a).map vf).getD zero)) w' := fun w' hw => by
    have r1 := Go.MapKept.run_getObj_map (P := P) hw
    have r3 := run_findKeyA (P := P) (kt := kt) a w' l es.toList hE
    rw [← fidx_alk vf a l 0]
    cases hf : fidx vf l a 0 with
    | none =>
      rw [hf] at r3
      simp [execOp, e, ev_k2 hr hy, Instr.lookup, run_underlying hT.out, r1, E.chk, r3, zeroValue, run_typeInfo' hI, hIz]
    | some p =>
      rw [hf] at r3
      simp [execOp, e, ev_k2 hr hy, Instr.lookup, run_underlying hT.out, r1, E.chk, r3]
  exact ⟨_, rfl, key w h1, fun w' hw => key w' ((hw.block _ (Array.getElem?_eq_some_iff.1 h1).1).trans h1)⟩
theorem x_insertA {T kt et : TypeId} {vf : β → Value} {x y z : Operand} {id : Nat} {et' : TypeId} {l : List ((Int × Int) × β)} {a : Int × Int} {b : β} [hT : Und P T (.map kt et)] [E : EqArr P kt]
    (hx : St.ev ⟨env, dfs, ⟨n, bs⟩⟩ x = .mp id) (hb : find id bs = some ⟨mpv k2 vf l, 0, et'⟩) (hy : St.ev ⟨env, dfs, ⟨n, bs⟩⟩ y = .agg [.sc (.int .i64 a.1), .sc (.int .i64 a.2)]) (hz : St.ev ⟨env, dfs, ⟨n, bs⟩⟩ z = .sc (vf b)) (hno : alk l a = none)
    (hk : K ⟨env, dfs, ⟨n, (id, some ⟨mpv k2 vf (l ++ [(a, b)]), 0, et'⟩) :: bs⟩⟩) : AExec P N ⟨none, .insert T x y z, ty, pos, af, gd⟩ K ⟨env, dfs, ⟨n, bs⟩⟩ := fun ρ Z F ac w hr next Qc hn => by
  have hx' := hr.ev x
  rw [hx] at hx'
  obtain ⟨g, hg, g0, gm, e⟩ := hx'
  obtain ⟨es, clock, h1, h2, h3, hst⟩ := hr.hp.mapAt (S := ⟨n, bs⟩) (b := ⟨mpv k2 vf l, 0, et'⟩) hb hg g0 gm rfl
  have hE : EntR ρ Z k2 (l.map fun p => (p.1, AV.sc (vf p.2))) es.toList := entR_of (by simpa [mpv] using h2) h3
  have hesz := hr.hp.esz (S := ⟨n, bs⟩) (b := ⟨mpv k2 vf l, 0, et'⟩) hb hg
  have hlt := (Array.getElem?_eq_some_iff.1 h1).1
  have r1 := Go.MapKept.run_getObj_map (P := P) h1
  have r3 := run_findKeyA (P := P) (kt := kt) a w l es.toList hE
  rw [fidx_none hno] at r3
  have hE' : EntR ρ Z k2 ((l ++ [(a, b)]).map fun p => (p.1, AV.sc (vf p.2))) (es.push ⟨k2 a, vf b, clock⟩).toList := by
    rw [Array.toList_push, List.map_append]
    have app : ∀ (l1 : List ((Int × Int) × AV)) (es1 : List MapEntry), EntR ρ Z k2 l1 es1 → EntR ρ Z k2 (l1 ++ [(a, AV.sc (vf b))]) (es1 ++ [⟨k2 a, vf b, clock⟩]) := fun l1 => by
      induction l1 with
      | nil =>
        intro es1 h
        cases es1 with
        | nil => exact ⟨rfl, rfl, trivial⟩
        | cons _ _ => exact h.elim
      | cons p l1 ih =>
        intro es1 h
        cases es1 with
        | nil => exact h.elim
        | cons e es1 => exact ⟨h.1, h.2.1, ih es1 h.2.2⟩
    exact app _ _ hE
  have hrun : (execOp ac.eval ⟨none, .insert T x y z, ty, pos, af, gd⟩).run P w = .ok .skip { w with heap := w.heap.setIfInBounds g.blk (.map (es.push ⟨k2 a, vf b, clock⟩) (clock + 1)) } := by
    simp [execOp, e, ev_k2 hr hy, ev_sc hr hz, Instr.mapUpdate, run_underlying hT.out, r1, E.chk, r3, Go.MapKept.run_setObj_map _ h1]
  unfold Oper.wp
  rw [hrun]
  obtain ⟨k1, k2'⟩ := entR_to hE'
  refine hn _ _ ρ Z ⟨env, dfs, ⟨n, (id, some ⟨mpv k2 vf (l ++ [(a, b)]), 0, et'⟩) :: bs⟩⟩ ⟨.refl _, rfl, rfl, rfl, by simp⟩ ⟨hr.size, hr.env, hr.dfs, ?_, hr.kk⟩ hk
  exact hr.hp.set (S := ⟨n, bs⟩) (b := ⟨mpv k2 vf l, 0, et'⟩) (b' := ⟨mpv k2 vf (l ++ [(a, b)]), 0, et'⟩) hb hg ⟨fun h => by omega, fun _ => ⟨hesz, fun h => (by rw [gm] at h; cases h), fun _ => ⟨.map (es.push ⟨k2 a, vf b, clock⟩) (clock + 1), (es.push ⟨k2 a, vf b, clock⟩).toList.map entV, by simp [hlt], (by simp [ents, stamp_push hst]), (by rw [List.length_map]; exact k1), k2'⟩⟩⟩ (.inr gm) (fun k hk => by simp [Array.getElem?_setIfInBounds_ne (Ne.symm hk)])
theorem alk_snoc {κ : Type} [DecidableEq κ] (l : List (κ × β)) (a : κ) (b : β) (c : κ) : alk (l ++ [(a, b)]) c = (alk l c).or (if a = c then some b else none) := by
  induction l with
  | nil => simp [alk]
  | cons p r ih =>
    simp only [List.cons_append, alk]
    split
    · rfl
    · exact ih
end
section
variable {P : Program} {N : Sg} {Q : Exit → St → Prop} {ops : Array Oper} {σ : St} {fuel : Nat} {listed : Array Bool}
theorem aall_of : ∀ {rs : List Nat}, (∀ i ∈ rs, match ops[i]? with | some o => AOps P N ops (thenQ (AAny P N ops Q fuel (listed.setIfInBounds i true)) Q) [o] σ | none => False) → AAll P N ops Q fuel listed σ rs
  | [], _ => trivial
  | _ :: _, h => ⟨h _ (by simp), aall_of fun i hi => h i (by simp [hi])⟩
variable {d : Option Tmp} {ty : TypeId} {pos : String} {af : Array Edge} {gd : Option (Nat × Bool)}
/-- What is built out of numbers computes only. -/
theorem p_buildA {s e : TypeId} {parts : List (Nat × Operand)} {size bytes k esz eb : Nat} {zero ez : Value} {cs : List AV} [hu : Und P s (.array k e)] [hi : Inf P s size bytes zero] [he : Inf P e esz eb ez] (hz : (AV.ofV zero).solid = true)
    (hf : fillA (fun i : Nat => some (i * esz, esz)) (AV.ofV zero).cells (parts.map fun p => (p.1, σ.ev p.2)) = some cs) : Pur P N ⟨d, .build s parts.toArray, ty, pos, af, gd⟩ σ (.agg cs) := fun ρ Z F a w hr => by
  obtain ⟨I, hI, _, _, hIz⟩ := hi.get
  obtain ⟨E, hE, hEs, _, _⟩ := he.get
  obtain ⟨hc, hl⟩ := cells_rel (Rel_ofV ρ Z zero) hz
  obtain ⟨vs', h1, h2, h3⟩ := fill_rel (ρ := ρ) (Z := Z) (qs := parts.map fun p => (p.1, a.eval p.2)) (by simp) (fun j p q hj hq => by
    simp only [List.getElem?_map, Option.map_eq_some_iff] at hj hq
    obtain ⟨x, hx, rfl⟩ := hj
    obtain ⟨y, hy, rfl⟩ := hq
    rw [hx] at hy; cases hy
    exact ⟨rfl, hr.ev _⟩) hl hc hf
  refine ⟨.agg vs', ⟨vs', rfl, h2, h3⟩, fun w' => ?_⟩
  have h1' : Instr.fill (fun i => some (i * esz, esz)) zero.cells (parts.toArray.map fun (i, x) => (i, a.eval x)).toList = some vs' := by simpa using h1
  simp only [execOp, Instr.build, zeroValue, Sem.run_bind, run_typeInfo' hI, hIz, run_underlying hu.out, run_sizeOf' hE, hEs, Result.andThen_ok, Sem.run_pure, h1']
end
/-- The regions of a body, by their numbers. -/
def regOf (k : Nat) : Code → Option (List Oper)
  | .region id ops _ => if id = k then some ops.toList else none
  | .seq a b => (regOf k a).or (regOf k b)
  | .cond _ a b => (regOf k a).or (regOf k b)
  | .block _ c => regOf k c
  | .loop c => regOf k c
  | .scope c => regOf k c
  | _ => none
def opsOf (P : Program) (f k : Nat) : List Oper := (((P.funcs[f]?).bind (·.body)).bind (regOf k)).getD []
section
variable {P : Program} {fn : Func} {c : Code} {f : FuncId} {S : Hp} {R : AV → Hp → Prop}
theorem enter6 {a0 a1 a2 a3 a4 a5 : AV} (hf : P.funcs[f]? = some fn) (hb : fn.body = some c) (n k : Nat) (rs : List ResultVar) (hn : 6 + (fn.ntmps - 6) = n) (hk : S.nxt = k) (hr : fn.results.toList = rs)
    (h : AWP P ⟨n, k⟩ c (retQ P k rs R) ⟨[(0, a0), (1, a1), (2, a2), (3, a3), (4, a4), (5, a5)], [], S⟩) : ACalls P f [a0, a1, a2, a3, a4, a5] S R := by subst hk; subst hr; exact acalls_of hf hb n hn h
theorem enter7 {a0 a1 a2 a3 a4 a5 a6 : AV} (hf : P.funcs[f]? = some fn) (hb : fn.body = some c) (n k : Nat) (rs : List ResultVar) (hn : 7 + (fn.ntmps - 7) = n) (hk : S.nxt = k) (hr : fn.results.toList = rs)
    (h : AWP P ⟨n, k⟩ c (retQ P k rs R) ⟨[(0, a0), (1, a1), (2, a2), (3, a3), (4, a4), (5, a5), (6, a6)], [], S⟩) : ACalls P f [a0, a1, a2, a3, a4, a5, a6] S R := by subst hk; subst hr; exact acalls_of hf hb n hn h
end
end Go.Proofs.Ytcidoghpacihpaa.Sx
