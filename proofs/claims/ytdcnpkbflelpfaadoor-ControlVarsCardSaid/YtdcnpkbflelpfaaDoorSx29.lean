/- Maps of the call's own: made, asked, written, counted. -/
import Derived.Test.YtdcnpkbflelpfaaDoorSx28
import Derived.MapKept
namespace Go.Proofs.YtdcnpkbflelpfaaDoor.Sx
open Go Go.RowKit Go.MapKept
/-- The kinds of keys. -/
class MKey (P : Program) (kt : TypeId) (κ : outParam Type) [DecidableEq κ] (kf : outParam (κ → Value)) where
  desc : TypeDesc
  und : P.underlying kt = some desc
  key : ∀ a, IsKey desc (kf a)
  now : ∀ a b, Instr.sameNow desc (kf a) (kf b) = some (decide (a = b))
  bits : ∀ a, Instr.sameBits 10000 (kf a) (kf a) = true
instance mkeyI {P : Program} {kt : TypeId} {ik : IntKind} [h : Und P kt (.int ik)] : MKey P kt Int (fun a => .int ik a) where
  desc := .int ik
  und := h.out
  key a := by simp [IsKey]
  now a b := by by_cases h : a = b <;> simp [Instr.sameNow, h]
  bits a := by simp [Instr.sameBits]
instance mkeyS {P : Program} {kt : TypeId} [h : Und P kt .string] : MKey P kt ByteArray (fun a => .string a) where
  desc := .string
  und := h.out
  key a := by simp [IsKey]
  now a b := by
    have : (a == b) = decide (a = b) := by
      by_cases h : a = b
      · rw [(bytes_beq a b).2 h, decide_eq_true h]
      · rw [decide_eq_false h]; cases hb : a == b with
        | false => rfl
        | true => exact absurd ((bytes_beq a b).1 hb) h
    simp [Instr.sameNow, this]
  bits a := by simp [Instr.sameBits, bytes_beq]
section
set_option linter.unusedSectionVars false
variable {κ : Type} [DecidableEq κ]
/-- A map's cells. -/
def mpc (kf : κ → Value) (l : List (κ × AV)) : List AV := l.map fun p => .tup [.sc (kf p.1), p.2]
def lk (l : List (κ × AV)) (a : κ) : Option AV := (l.find? fun p => decide (p.1 = a)).map (·.2)
def mput (l : List (κ × AV)) (a : κ) (v : AV) : List (κ × AV) := match l with
  | [] => [(a, v)]
  | p :: r => if p.1 = a then (a, v) :: r else p :: mput r a v
theorem mpc_length (kf : κ → Value) (l : List (κ × AV)) : (mpc kf l).length = l.length := by simp [mpc]
/-- Entries as they lie. -/
def EntR (ρ : Nat → Option Geo) (Z : Nat → Option Obj) (kf : κ → Value) : List (κ × AV) → List MapEntry → Prop
  | [], [] => True
  | p :: l, e :: es => e.key = kf p.1 ∧ Rel ρ Z p.2 e.val ∧ EntR ρ Z kf l es
  | _, _ => False
theorem entR_of {ρ : Nat → Option Geo} {Z : Nat → Option Obj} {kf : κ → Value} : ∀ {l : List (κ × AV)} {es : List MapEntry}, es.length = (mpc kf l).length → RelP ρ Z (mpc kf l) (es.map entV) → EntR ρ Z kf l es
  | [], [], _, _ => trivial
  | [], _ :: _, h, _ => by simp [mpc] at h
  | _ :: _, [], h, _ => by simp [mpc] at h
  | p :: l, e :: es, h, ⟨⟨vs, h1, _, h3⟩, h2⟩ => by
    have e1 : vs = #[e.key, e.val] := by
      have : Value.tuple #[e.key, e.val] = .tuple vs := h1
      cases this; rfl
    subst e1
    exact ⟨h3.1, h3.2.1, entR_of (by simpa [mpc] using h) h2⟩
theorem entR_to {ρ : Nat → Option Geo} {Z : Nat → Option Obj} {kf : κ → Value} : ∀ {l : List (κ × AV)} {es : List MapEntry}, EntR ρ Z kf l es → es.length = (mpc kf l).length ∧ RelP ρ Z (mpc kf l) (es.map entV)
  | [], [], _ => ⟨rfl, trivial⟩
  | [], _ :: _, h => h.elim
  | _ :: _, [], h => h.elim
  | p :: l, e :: es, ⟨h1, h2, h3⟩ => by
    obtain ⟨g1, g2⟩ := entR_to h3
    exact ⟨by simpa [mpc] using g1, ⟨_, rfl, rfl, h1, h2, trivial⟩, g2⟩
theorem findNow_at {P : Program} {kt : TypeId} {kf : κ → Value} [K : MKey P kt κ kf] {ρ : Nat → Option Geo} {Z : Nat → Option Obj} {a : κ} : ∀ {l : List (κ × AV)} {es : List MapEntry} (i : Nat), EntR ρ Z kf l es →
    (lk l a = none ∧ Instr.findNow K.desc (kf a) es i = some none) ∨ (∃ v j e, lk l a = some v ∧ es[j]? = some e ∧ Rel ρ Z v e.val ∧ e.key = kf a ∧ Instr.findNow K.desc (kf a) es i = some (some (i + j, e.val)))
  | [], [], i, _ => .inl ⟨rfl, rfl⟩
  | [], _ :: _, _, h => h.elim
  | _ :: _, [], _, h => h.elim
  | p :: l, e :: es, i, ⟨h1, h2, h3⟩ => by
    by_cases hp : a = p.1
    · refine .inr ⟨p.2, 0, e, by simp [lk, hp], rfl, h2, by rw [h1, hp], ?_⟩
      unfold Instr.findNow
      rw [h1, K.now, decide_eq_true hp]
      rfl
    · have hl : lk (p :: l) a = lk l a := by simp [lk, Ne.symm hp]
      have hf : Instr.findNow K.desc (kf a) (e :: es) i = Instr.findNow K.desc (kf a) es (i + 1) := by
        conv => lhs; unfold Instr.findNow
        rw [h1, K.now, decide_eq_false hp]
      rw [hl, hf]
      rcases findNow_at (P := P) (kt := kt) (a := a) (i + 1) h3 with h | ⟨v, j, e', g1, g2, g3, g4, g5⟩
      · exact .inl h
      · exact .inr ⟨v, j + 1, e', g1, by simpa using g2, g3, g4, by rw [g5]; simp; omega⟩
theorem entR_put {ρ : Nat → Option Geo} {Z : Nat → Option Obj} {kf : κ → Value} {a : κ} {v : AV} {u : Value} {c : Nat} (hu : Rel ρ Z v u) : ∀ {l : List (κ × AV)} {es : List MapEntry}, EntR ρ Z kf l es → lk l a = none → EntR ρ Z kf (mput l a v) (es ++ [⟨kf a, u, c⟩])
  | [], [], _, _ => ⟨rfl, hu, trivial⟩
  | [], _ :: _, h, _ => h.elim
  | _ :: _, [], h, _ => h.elim
  | p :: l, e :: es, ⟨h1, h2, h3⟩, hl => by
    have hp : p.1 ≠ a := fun e => by simp [lk, e] at hl
    have hl' : lk l a = none := by simpa [lk, hp] using hl
    simp only [mput, if_neg hp]
    exact ⟨h1, h2, entR_put hu h3 hl'⟩
theorem entR_mod {P : Program} {kt : TypeId} {kf : κ → Value} [K : MKey P kt κ kf] {ρ : Nat → Option Geo} {Z : Nat → Option Obj} {a : κ} {v : AV} {u : Value} (hu : Rel ρ Z v u) : ∀ {l : List (κ × AV)} {es : List MapEntry} {i j : Nat} {x : Value}, EntR ρ Z kf l es → Instr.findNow K.desc (kf a) es i = some (some (i + j, x)) →
    EntR ρ Z kf (mput l a v) (es.modify j fun e => { e with key := kf a, val := u })
  | [], [], _, _, _, _, h => by simp [Instr.findNow] at h
  | [], _ :: _, _, _, _, h, _ => h.elim
  | _ :: _, [], _, _, _, h, _ => h.elim
  | p :: l, e :: es, i, j, x, ⟨h1, h2, h3⟩, h => by
    unfold Instr.findNow at h
    rw [h1, K.now] at h
    by_cases hp : a = p.1
    · rw [decide_eq_true hp] at h
      simp only [Option.some.injEq, Prod.mk.injEq] at h
      have hj : j = 0 := by omega
      subst hj
      simp only [mput, if_pos hp.symm, List.modify_zero_cons]
      exact ⟨rfl, hu, h3⟩
    · rw [decide_eq_false hp] at h
      simp only at h
      cases j with
      | zero =>
        exfalso
        have : ∀ (es : List MapEntry) (i k : Nat) (y : Value), Instr.findNow K.desc (kf a) es i = some (some (k, y)) → i ≤ k := by
          intro es
          induction es with
          | nil => intro i k y h; simp [Instr.findNow] at h
          | cons e es ih =>
            intro i k y h
            unfold Instr.findNow at h
            split at h
            · simp at h; omega
            · have := ih _ _ _ h; omega
            · cases h
        have := this _ _ _ _ h
        omega
      | succ j =>
        simp only [mput, if_neg (Ne.symm hp), List.modify_succ_cons]
        exact ⟨h1, h2, entR_mod (P := P) (kt := kt) (i := i + 1) (j := j) hu h3 (by rw [h]; congr 3; omega)⟩
end
section
set_option linter.unusedSectionVars false
variable {P : Program} {N : Sg} {σ : St} {d : Option Tmp} {ty : TypeId} {pos : String} {af : Array Edge} {gd : Option (Nat × Bool)} {K : St → Prop}
  {env : List (Nat × AV)} {dfs : List (FuncId × List AV)} {hp : Hp} {t : Tmp} {n : Nat} {bs : List (Nat × Option Blk)} {κ : Type} [DecidableEq κ]
theorem stamp_push {es : Array MapEntry} {c : Nat} {k v : Value} (h : stampB es c = true) : stampB (es.push ⟨k, v, c⟩) (c + 1) = true := by
  unfold stampB at h ⊢
  simp only [Bool.and_eq_true, List.all_eq_true, decide_eq_true_eq] at h ⊢
  obtain ⟨h1, h2⟩ := h
  refine ⟨fun e he => ?_, ?_⟩
  · rw [Array.toList_push] at he
    rcases List.mem_append.1 he with he | he
    · have := h1 e he; omega
    · simp at he; subst he; simp
  · rw [Array.toList_push, List.map_append]
    refine List.nodup_append.2 ⟨h2, by simp, fun a ha b hb e => ?_⟩
    obtain ⟨x, hx, rfl⟩ := List.mem_map.1 ha
    simp at hb
    have := h1 x hx
    omega
theorem stamp_mod {es : Array MapEntry} {c i : Nat} {f : MapEntry → MapEntry} (hf : ∀ e, (f e).born = e.born) (h : stampB es c = true) : stampB (es.modify i f) c = true := by
  unfold stampB at h ⊢
  simp only [Bool.and_eq_true, List.all_eq_true, decide_eq_true_eq] at h ⊢
  obtain ⟨h1, h2⟩ := h
  have hm : ∀ (l : List MapEntry) (i : Nat), (l.modify i f).map (·.born) = l.map (·.born) := fun l => by
    induction l with
    | nil => intro i; simp
    | cons a l ih => intro i; cases i <;> simp [hf, ih]
  refine ⟨fun e he => ?_, by rw [Array.toList_modify, hm]; exact h2⟩
  have : e.born ∈ (es.modify i f).toList.map (·.born) := List.mem_map.2 ⟨e, he, rfl⟩
  rw [Array.toList_modify, hm] at this
  obtain ⟨x, hx, hxe⟩ := List.mem_map.1 this
  have := h1 x hx
  omega
theorem HpRel.mapAt {ρ Z F S w} (h : HpRel ρ Z F S w) {i : Nat} {b : Blk} {g : Geo} (hb : S.get i = some b) (hg : ρ i = some g) (h0 : g.cap = 0) (hm : g.mp = true) (hz : b.esz = 0) : ∃ es clock, w.heap[g.blk]? = some (.map es clock) ∧ es.size = b.cells.length ∧ RelP ρ Z b.cells (es.toList.map entV) ∧ stampB es clock = true := by
  obtain ⟨g', hg', hr⟩ := h.live i b hb
  rw [hg] at hg'; cases hg'
  obtain ⟨o, l, k1, k2, k3, k4⟩ := (hr.2 h0).2.2 hm
  rw [hz] at k2
  unfold ents at k2
  split at k2
  · split at k2
    · rename_i hst
      cases k2
      exact ⟨_, _, k1, by simpa using k3, k4, hst⟩
    · cases k2
  · exact absurd ‹(0 : Nat) = 1› (by decide)
  · cases k2
theorem x_makeMapN {T : TypeId} (hd : Nat.blt t N.n = true) (hk : K ⟨(t, .mp n) :: env, dfs, ⟨n + 1, (n, some ⟨[], 0, 0⟩) :: bs⟩⟩) : AExec P N ⟨some t, .makeMap T none, ty, pos, af, gd⟩ K ⟨env, dfs, ⟨n, bs⟩⟩ := fun ρ Z F a w hr next Qc hn => by
  have hrun : (execOp a.eval ⟨some t, .makeMap T none, ty, pos, af, gd⟩).run P w = .ok (.value (.map (some w.heap.size))) (w.alloc (.map #[] 0)) := by
    simp [execOp, Instr.makeMap]
  unfold Oper.wp
  rw [hrun]
  have hle := upd_le (g := ⟨w.heap.size, 0, 0, true⟩) (hr.hp.fresh n (Nat.le_refl _))
  have hbl : BlkRel (upd ρ n ⟨w.heap.size, 0, 0, true⟩) Z ⟨w.heap.size, 0, 0, true⟩ ⟨[], 0, 0⟩ (w.alloc (.map #[] 0)) :=
    ⟨fun h => absurd h (Nat.lt_irrefl _), fun _ => ⟨rfl, fun _ => rfl, fun _ => ⟨.map #[] 0, [], heap_push_new w _, rfl, rfl, trivial⟩⟩⟩
  refine hn _ _ (upd ρ n ⟨w.heap.size, 0, 0, true⟩) Z _ ⟨.refl _, rfl, rfl, rfl, by simp⟩ (StRel.put (σ := ⟨env, dfs, ⟨n + 1, (n, some ⟨[], 0, 0⟩) :: bs⟩⟩) (d := some t) (v := .mp n) ?_ (by rintro _ ⟨⟩; rwa [Nat.blt_eq] at hd) ⟨_, upd_same .., rfl, rfl, rfl⟩) hk
  exact ⟨hr.size, fun t => (hr.env t).mono hle (.refl _), hr.dfs.mono hle (.refl _), hr.hp.grow (S := ⟨n, bs⟩) (fun _ => Nat.le_refl _) hbl (fun k hk => heap_push_old w _ hk), hr.kk⟩
theorem run_lookupM {T kt et : TypeId} {kf : κ → Value} [hT : Und P T (.map kt et)] [K : MKey P kt κ kf] {es : Array MapEntry} {clock b : Nat} {w : World} {a : κ} {ok : Bool} {r : Option (Nat × Value)} {z : Value} (hw : w.heap[b]? = some (.map es clock)) (hf : Instr.findNow K.desc (kf a) es.toList 0 = some r) (hz : r = none → (zeroValue et).run P w = .ok z w) :
    (Instr.lookup T (.map (some b)) (kf a) ok).run P w = .ok (if ok then .tuple #[(r.map (·.2)).getD z, .bool r.isSome] else (r.map (·.2)).getD z) w := by
  have h1 := Go.MapKept.run_getObj_map (P := P) hw
  have h2 := Go.MapKept.run_checkKey (P := P) (w := w) K.und (K.key a) es.isEmpty 9999
  have h3 := Go.MapKept.run_findKey (P := P) (w := w) K.und hf
  cases r with
  | none =>
    have hz' := hz rfl
    simp only [Instr.lookup, Sem.run_bind, run_underlying hT.out, Result.andThen_ok, h1, h2, h3, hz', Sem.run_pure]
    rfl
  | some p =>
    obtain ⟨i, v⟩ := p
    simp only [Instr.lookup, Sem.run_bind, run_underlying hT.out, Result.andThen_ok, h1, h2, h3, Sem.run_pure]
    rfl
theorem y_lookup {T kt et : TypeId} {kf : κ → Value} {x y : Operand} {id : Nat} {et' : TypeId} {l : List (κ × AV)} {a : κ} {v : AV} {size bytes : Nat} {zero : Value} [hT : Und P T (.map kt et)] [Kk : MKey P kt κ kf] [hi : Inf P et size bytes zero]
    (hx : σ.ev x = .mp id) (hb : σ.hp.get id = some ⟨mpc kf l, 0, et'⟩) (hy : σ.ev y = .sc (kf a)) (hv : (lk l a).getD (.ofV zero) = v) : Yld P N ⟨d, .lookup T x y false, ty, pos, af, gd⟩ σ v := fun ρ Z F ac w hr => by
  have hx' := hr.ev x
  rw [hx] at hx'
  obtain ⟨g, hg, g0, gm, e⟩ := hx'
  obtain ⟨es, clock, h1, h2, h3, hst⟩ := hr.hp.mapAt hb hg g0 gm rfl
  obtain ⟨I, hI, _, _, hIz⟩ := hi.get
  have hE := entR_of (by simpa using h2) h3
  subst hv
  have hzero : ∀ w', (zeroValue et).run P w' = .ok zero w' := fun w' => by simp [zeroValue, run_typeInfo' hI, hIz]
  have lift : ∀ w', Below w.heap.size w w' → w'.heap[g.blk]? = some (.map es clock) := fun w' hw => (hw.block _ (Array.getElem?_eq_some_iff.1 h1).1).trans h1
  rcases findNow_at (P := P) (kt := kt) (a := a) 0 hE with ⟨hn, hf⟩ | ⟨v, j, e', hl, hj, hrel, hk, hf⟩
  · have key : ∀ w', w'.heap[g.blk]? = some (.map es clock) → (execOp ac.eval ⟨d, .lookup T x y false, ty, pos, af, gd⟩).run P w' = .ok (.value zero) w' := fun w' hw => by
      have := run_lookupM (P := P) (T := T) (kt := kt) (et := et) (ok := false) hw hf (fun _ => hzero w')
      simp only [execOp, e, ev_sc hr hy, Sem.run_bind, this, Result.andThen_ok, Sem.run_pure]
      rfl
    rw [hn]
    exact ⟨zero, Rel_ofV ρ Z zero, key w h1, fun w' hw => key w' (lift w' hw)⟩
  · have key : ∀ w', w'.heap[g.blk]? = some (.map es clock) → (execOp ac.eval ⟨d, .lookup T x y false, ty, pos, af, gd⟩).run P w' = .ok (.value e'.val) w' := fun w' hw => by
      have := run_lookupM (P := P) (T := T) (kt := kt) (et := et) (ok := false) (z := zero) hw hf (fun h => by cases h)
      simp only [execOp, e, ev_sc hr hy, Sem.run_bind, this, Result.andThen_ok, Sem.run_pure]
      rfl
    rw [hl]
    exact ⟨e'.val, hrel, key w h1, fun w' hw => key w' (lift w' hw)⟩
theorem y_lookupOk {T kt et : TypeId} {kf : κ → Value} {x y : Operand} {id : Nat} {et' : TypeId} {l : List (κ × AV)} {a : κ} {v : AV} {o : Bool} {size bytes : Nat} {zero : Value} [hT : Und P T (.map kt et)] [Kk : MKey P kt κ kf] [hi : Inf P et size bytes zero]
    (hx : σ.ev x = .mp id) (hb : σ.hp.get id = some ⟨mpc kf l, 0, et'⟩) (hy : σ.ev y = .sc (kf a)) (hv : (lk l a).getD (.ofV zero) = v) (ho : (lk l a).isSome = o) : Yld P N ⟨d, .lookup T x y true, ty, pos, af, gd⟩ σ (.tup [v, .sc (.bool o)]) := fun ρ Z F ac w hr => by
  have hx' := hr.ev x
  rw [hx] at hx'
  obtain ⟨g, hg, g0, gm, e⟩ := hx'
  obtain ⟨es, clock, h1, h2, h3, hst⟩ := hr.hp.mapAt hb hg g0 gm rfl
  obtain ⟨I, hI, _, _, hIz⟩ := hi.get
  have hE := entR_of (by simpa using h2) h3
  subst hv
  subst ho
  have hzero : ∀ w', (zeroValue et).run P w' = .ok zero w' := fun w' => by simp [zeroValue, run_typeInfo' hI, hIz]
  have lift : ∀ w', Below w.heap.size w w' → w'.heap[g.blk]? = some (.map es clock) := fun w' hw => (hw.block _ (Array.getElem?_eq_some_iff.1 h1).1).trans h1
  rcases findNow_at (P := P) (kt := kt) (a := a) 0 hE with ⟨hn, hf⟩ | ⟨v, j, e', hl, hj, hrel, hk, hf⟩
  · have key : ∀ w', w'.heap[g.blk]? = some (.map es clock) → (execOp ac.eval ⟨d, .lookup T x y true, ty, pos, af, gd⟩).run P w' = .ok (.value (.tuple #[zero, .bool false])) w' := fun w' hw => by
      have := run_lookupM (P := P) (T := T) (kt := kt) (et := et) (ok := true) hw hf (fun _ => hzero w')
      simp only [execOp, e, ev_sc hr hy, Sem.run_bind, this, Result.andThen_ok, Sem.run_pure]
      rfl
    rw [hn]
    exact ⟨_, ⟨#[zero, .bool false], rfl, rfl, Rel_ofV ρ Z zero, rfl, trivial⟩, key w h1, fun w' hw => key w' (lift w' hw)⟩
  · have key : ∀ w', w'.heap[g.blk]? = some (.map es clock) → (execOp ac.eval ⟨d, .lookup T x y true, ty, pos, af, gd⟩).run P w' = .ok (.value (.tuple #[e'.val, .bool true])) w' := fun w' hw => by
      have := run_lookupM (P := P) (T := T) (kt := kt) (et := et) (ok := true) (z := zero) hw hf (fun h => by cases h)
      simp only [execOp, e, ev_sc hr hy, Sem.run_bind, this, Result.andThen_ok, Sem.run_pure]
      rfl
    rw [hl]
    exact ⟨_, ⟨#[e'.val, .bool true], rfl, rfl, hrel, rfl, trivial⟩, key w h1, fun w' hw => key w' (lift w' hw)⟩
theorem run_updateM {T kt et : TypeId} {kf : κ → Value} [hT : Und P T (.map kt et)] [K : MKey P kt κ kf] {es : Array MapEntry} {clock b : Nat} {w : World} {a : κ} {v : Value} {r : Option (Nat × Value)} (hw : w.heap[b]? = some (.map es clock)) (hf : Instr.findNow K.desc (kf a) es.toList 0 = some r) (hk : ∀ i x, r = some (i, x) → ∃ e, es[i]? = some e ∧ e.key = kf a) :
    (Instr.mapUpdate T (.map (some b)) (kf a) v).run P w = .ok () { w with heap := w.heap.setIfInBounds b (match r with | none => .map (es.push ⟨kf a, v, clock⟩) (clock + 1) | some (i, _) => .map (es.modify i fun e => { e with key := kf a, val := v }) clock) } := by
  have h1 := Go.MapKept.run_getObj_map (P := P) hw
  have h2 := Go.MapKept.run_checkKey (P := P) (w := w) K.und (K.key a) false 9999
  have h3 := Go.MapKept.run_findKey (P := P) (w := w) K.und hf
  cases r with
  | none =>
    simp only [Instr.mapUpdate, Sem.run_bind, run_underlying hT.out, Result.andThen_ok, h1, h2, h3, Go.MapKept.run_setObj_map _ hw]
  | some p =>
    obtain ⟨i, x⟩ := p
    obtain ⟨e, he, hek⟩ := hk i x rfl
    have hkeep : (Instr.keyThatStays (((es[i]?).map (·.key)).getD (kf a)) (kf a)).run P w = .ok (kf a) w := by
      simp [he, hek, Instr.keyThatStays, K.bits]
    simp only [Instr.mapUpdate, Sem.run_bind, run_underlying hT.out, Result.andThen_ok, h1, h2, h3, hkeep, Go.MapKept.run_setObj_map _ hw]
theorem x_mapUpdate {T kt et : TypeId} {kf : κ → Value} {x y z : Operand} {id : Nat} {et' : TypeId} {l : List (κ × AV)} {a : κ} {v : AV} [hT : Und P T (.map kt et)] [Kk : MKey P kt κ kf]
    (hx : St.ev ⟨env, dfs, ⟨n, bs⟩⟩ x = .mp id) (hb : find id bs = some ⟨mpc kf l, 0, et'⟩) (hy : St.ev ⟨env, dfs, ⟨n, bs⟩⟩ y = .sc (kf a)) (hz : St.ev ⟨env, dfs, ⟨n, bs⟩⟩ z = v)
    (hk : K ⟨env, dfs, ⟨n, (id, some ⟨mpc kf (mput l a v), 0, et'⟩) :: bs⟩⟩) : AExec P N ⟨none, .mapUpdate T x y z, ty, pos, af, gd⟩ K ⟨env, dfs, ⟨n, bs⟩⟩ := fun ρ Z F ac w hr next Qc hn => by
  have hx' := hr.ev x
  rw [hx] at hx'
  obtain ⟨g, hg, g0, gm, e⟩ := hx'
  obtain ⟨es, clock, h1, h2, h3, hst⟩ := hr.hp.mapAt (S := ⟨n, bs⟩) (b := ⟨mpc kf l, 0, et'⟩) hb hg g0 gm rfl
  have hE := entR_of (by simpa using h2) h3
  have hz' := hr.ev z
  rw [hz] at hz'
  have hesz := hr.hp.esz (S := ⟨n, bs⟩) (b := ⟨mpc kf l, 0, et'⟩) hb hg
  have hlt := (Array.getElem?_eq_some_iff.1 h1).1
  have fin : ∀ (es' : Array MapEntry) (clock' : Nat), (execOp ac.eval ⟨none, .mapUpdate T x y z, ty, pos, af, gd⟩).run P w = .ok .skip { w with heap := w.heap.setIfInBounds g.blk (.map es' clock') } → EntR ρ Z kf (mput l a v) es'.toList → stampB es' clock' = true →
      Oper.wp P ⟨none, .mapUpdate T x y z, ty, pos, af, gd⟩ ac w next Qc := fun es' clock' hrun hE' hst' => by
    unfold Oper.wp
    rw [hrun]
    obtain ⟨k1, k2⟩ := entR_to hE'
    refine hn _ _ ρ Z ⟨env, dfs, ⟨n, (id, some ⟨mpc kf (mput l a v), 0, et'⟩) :: bs⟩⟩ ⟨.refl _, rfl, rfl, rfl, by simp⟩ ⟨hr.size, hr.env, hr.dfs, ?_, hr.kk⟩ hk
    refine hr.hp.set (S := ⟨n, bs⟩) (b := ⟨mpc kf l, 0, et'⟩) (b' := ⟨mpc kf (mput l a v), 0, et'⟩) hb hg ⟨fun h => by omega, fun _ => ⟨hesz, fun h => (by rw [gm] at h; cases h), fun _ => ⟨.map es' clock', es'.toList.map entV, by simp [hlt], (by simp [ents, hst']), by simpa using k1, k2⟩⟩⟩ (.inr gm) (fun k hk => by simp [Array.getElem?_setIfInBounds_ne (Ne.symm hk)])
  rcases findNow_at (P := P) (kt := kt) (a := a) 0 hE with ⟨hnn, hf⟩ | ⟨v', j, e', hl, hj, hrel, hk', hf⟩
  · refine fin (es.push ⟨kf a, ac.eval z, clock⟩) (clock + 1) ?_ (by rw [Array.toList_push]; exact entR_put hz' hE hnn) (stamp_push hst)
    have := run_updateM (P := P) (T := T) (kt := kt) (et := et) (v := ac.eval z) h1 hf (fun i x h => by cases h)
    simp only [execOp, e, ev_sc hr hy, Sem.run_bind, this, Result.andThen_ok, Sem.run_pure]
  · rw [Nat.zero_add] at hf
    refine fin (es.modify j fun e => { e with key := kf a, val := ac.eval z }) clock ?_ ?_ (stamp_mod (fun _ => rfl) hst)
    · have := run_updateM (P := P) (T := T) (kt := kt) (et := et) (v := ac.eval z) h1 hf (fun i x h => by
        cases h; exact ⟨e', by simpa using hj, hk'⟩)
      simp only [execOp, e, ev_sc hr hy, Sem.run_bind, this, Result.andThen_ok, Sem.run_pure]
    · have := entR_mod (P := P) (kt := kt) (i := 0) (j := j) (u := ac.eval z) hz' hE (by rw [Nat.zero_add]; exact hf)
      simpa using this
theorem y_lenM {x : Operand} {T kt et : TypeId} {kf : κ → Value} {id : Nat} {et' : TypeId} {l : List (κ × AV)} [hT : Und P T (.map kt et)] (hx : σ.ev x = .mp id) (hb : σ.hp.get id = some ⟨mpc kf l, 0, et'⟩) : Yld P N ⟨d, .call ⟨.builtin .len, #[x], #[T]⟩, ty, pos, af, gd⟩ σ (.sc (.int .i64 l.length)) := fun ρ Z F ac w hr => by
  have hx' := hr.ev x
  rw [hx] at hx'
  obtain ⟨g, hg, g0, gm, e⟩ := hx'
  obtain ⟨es, clock, h1, h2, h3, hst⟩ := hr.hp.mapAt hb hg g0 gm rfl
  have hl : es.size = l.length := by simpa [mpc] using h2
  have key : ∀ w', w'.heap[g.blk]? = some (.map es clock) → (execOp ac.eval ⟨d, .call ⟨.builtin .len, #[x], #[T]⟩, ty, pos, af, gd⟩).run P w' = .ok (.value (.int .i64 l.length)) w' := fun w' hw => by
    have h1 := Go.MapKept.run_getObj_map (P := P) hw
    simp [execOp, resolve, invoke, builtin, Builtin.len_, e, run_underlying hT.out, h1, goInt, hl]
  exact ⟨_, rfl, key w h1, fun w' hw => key w' ((hw.block _ (Array.getElem?_eq_some_iff.1 h1).1).trans h1)⟩
end
end Go.Proofs.YtdcnpkbflelpfaaDoor.Sx
