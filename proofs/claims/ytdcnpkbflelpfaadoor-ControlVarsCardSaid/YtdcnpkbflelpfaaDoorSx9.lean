/- New variables, closures, deferred calls, structs built. -/
import Derived.Test.YtdcnpkbflelpfaaDoorSx8
namespace Go.Proofs.YtdcnpkbflelpfaaDoor.Sx
open Go Go.RowKit

section
variable {P : Program} {N : Sg} {σ : St} {d : Option Tmp} {ty : TypeId} {pos : String} {af : Array Edge} {gd : Option (Nat × Bool)} {K : St → Prop}
  {env : List (Nat × AV)} {dfs : List (FuncId × List AV)} {n : Nat} {bs : List (Nat × Option Blk)} {t : Tmp}

theorem heap_push_new (w : World) (o : Obj) : (w.alloc o).heap[w.heap.size]? = some o := heap_alloc_new w o
theorem heap_push_old (w : World) (o : Obj) {k : Nat} (h : k < w.heap.size) : (w.alloc o).heap[k]? = w.heap[k]? := Below.heap_alloc w o k h
/-- A new block, laid by one operation. -/
theorem x_new {o : Oper} {cs : List AV} {esz cap : Nat} {e : TypeId} {v : AV} (hd : okDst N o.dst = true)
    (h : ∀ ρ Z F a w, StRel N ρ Z F σ a w → ∃ u cur, (execOp a.eval o).run P w = .ok (.value u) (w.alloc (.cells cur e)) ∧ cur.size = cap * esz ∧ RelP ρ Z cs cur.toList ∧ Rel (upd ρ σ.hp.nxt ⟨w.heap.size, cap, esz, false⟩) Z v u)
    (hk : K (St.put ⟨σ.env, σ.dfs, σ.hp.new ⟨cs, esz, e⟩⟩ o.dst v)) : AExec P N o K σ := fun ρ Z F a w hr next Qc hn => by
  obtain ⟨u, cur, h1, h2, h3, h4⟩ := h ρ Z F a w hr
  unfold Oper.wp
  rw [h1]
  have hf : ρ σ.hp.nxt = none := hr.hp.fresh _ (Nat.le_refl _)
  have hle := upd_le (g := ⟨w.heap.size, cap, esz, false⟩) hf
  refine hn _ _ (upd ρ σ.hp.nxt ⟨w.heap.size, cap, esz, false⟩) Z _ ⟨.refl _, rfl, rfl, rfl, by simp⟩ (StRel.put (σ := ⟨σ.env, σ.dfs, σ.hp.new ⟨cs, esz, e⟩⟩) ?_ (okDst_spec hd) h4) hk
  refine ⟨hr.size, fun t => (hr.env t).mono hle (.refl _), hr.dfs.mono hle (.refl _), hr.hp.grow (fun _ => Nat.le_refl _) (.ofN rfl ⟨cur, heap_push_new w _, h2, rfl, h3.mono hle (.refl _)⟩) (fun k hk => heap_push_old w _ hk), hr.kk⟩
theorem upd_same (ρ : Nat → Option Geo) (i : Nat) (g : Geo) : upd ρ i g i = some g := by unfold upd; rw [if_pos rfl]
theorem x_box {e : TypeId} {x : Operand} {v : AV} (hx : σ.ev x = v) (hs : v.solid = true) (hd : okDst N d = true) (hk : K (St.put ⟨σ.env, σ.dfs, σ.hp.new ⟨v.cells, v.cells.length, e⟩⟩ d (.ptr σ.hp.nxt 0))) : AExec P N ⟨d, .box e x, ty, pos, af, gd⟩ K σ :=
  x_new (cs := v.cells) (esz := v.cells.length) (cap := 1) (e := e) hd (fun ρ Z F a w hr => by
    have hx' := hr.ev x
    rw [hx] at hx'
    obtain ⟨hc, hl⟩ := cells_rel hx' hs
    exact ⟨.pointer (some ⟨w.heap.size, 0, none⟩), (a.eval x).cells, by simp [execOp, Instr.box, newVar, newRow], by simp [hl], hc, ⟨_, upd_same .., Nat.one_pos, rfl⟩⟩) hk
theorem b_agg {e : TypeId} {x : Operand} {cs : List AV} (hx : St.ev ⟨env, dfs, ⟨n, bs⟩⟩ x = .agg cs) (hs : cs.all AV.one = true) (hd : Nat.blt t N.n = true) (hk : K ⟨(t, .ptr n 0) :: env, dfs, ⟨n + 1, (n, some ⟨cs, cs.length, e⟩) :: bs⟩⟩) : AExec P N ⟨some t, .box e x, ty, pos, af, gd⟩ K ⟨env, dfs, ⟨n, bs⟩⟩ :=
  x_box hx hs hd hk
theorem b_sc {e : TypeId} {x : Operand} {v : Value} (hx : St.ev ⟨env, dfs, ⟨n, bs⟩⟩ x = .sc v) (hs : v.oneCell' = true) (hd : Nat.blt t N.n = true) (hk : K ⟨(t, .ptr n 0) :: env, dfs, ⟨n + 1, (n, some ⟨[.sc v], 1, e⟩) :: bs⟩⟩) : AExec P N ⟨some t, .box e x, ty, pos, af, gd⟩ K ⟨env, dfs, ⟨n, bs⟩⟩ :=
  x_box hx hs hd hk
theorem b_ptr {e : TypeId} {x : Operand} {i o : Nat} (hx : St.ev ⟨env, dfs, ⟨n, bs⟩⟩ x = .ptr i o) (hd : Nat.blt t N.n = true) (hk : K ⟨(t, .ptr n 0) :: env, dfs, ⟨n + 1, (n, some ⟨[.ptr i o], 1, e⟩) :: bs⟩⟩) : AExec P N ⟨some t, .box e x, ty, pos, af, gd⟩ K ⟨env, dfs, ⟨n, bs⟩⟩ :=
  x_box hx rfl hd hk
theorem b_sl {e : TypeId} {x : Operand} {i o l : Nat} (hx : St.ev ⟨env, dfs, ⟨n, bs⟩⟩ x = .sl i o l) (hd : Nat.blt t N.n = true) (hk : K ⟨(t, .ptr n 0) :: env, dfs, ⟨n + 1, (n, some ⟨[.sl i o l], 1, e⟩) :: bs⟩⟩) : AExec P N ⟨some t, .box e x, ty, pos, af, gd⟩ K ⟨env, dfs, ⟨n, bs⟩⟩ :=
  x_box hx rfl hd hk
theorem b_vsl {e : TypeId} {x : Operand} {cs : List AV} {z o l : Nat} (hx : St.ev ⟨env, dfs, ⟨n, bs⟩⟩ x = .vsl cs z o l) (hd : Nat.blt t N.n = true) (hk : K ⟨(t, .ptr n 0) :: env, dfs, ⟨n + 1, (n, some ⟨[.vsl cs z o l], 1, e⟩) :: bs⟩⟩) : AExec P N ⟨some t, .box e x, ty, pos, af, gd⟩ K ⟨env, dfs, ⟨n, bs⟩⟩ :=
  x_box hx rfl hd hk
theorem b_fn {e : TypeId} {x : Operand} {f : FuncId} {cs : List AV} (hx : St.ev ⟨env, dfs, ⟨n, bs⟩⟩ x = .fn f cs) (hd : Nat.blt t N.n = true) (hk : K ⟨(t, .ptr n 0) :: env, dfs, ⟨n + 1, (n, some ⟨[.fn f cs], 1, e⟩) :: bs⟩⟩) : AExec P N ⟨some t, .box e x, ty, pos, af, gd⟩ K ⟨env, dfs, ⟨n, bs⟩⟩ :=
  x_box hx rfl hd hk

theorem solid_zero {z : Value} (h : (AV.ofV z).solid = true) : (AV.ofV z).cells.length = z.cells.size := by
  cases z <;> first | rfl | simp [AV.ofV, AV.cells, Value.cells]
theorem x_alloc {e : TypeId} {size bytes : Nat} {zero : Value} [hi : Inf P e size bytes zero] (hs : (AV.ofV zero).solid = true) (hd : okDst N d = true) (hk : K (St.put ⟨σ.env, σ.dfs, σ.hp.new ⟨(AV.ofV zero).cells, (AV.ofV zero).cells.length, e⟩⟩ d (.ptr σ.hp.nxt 0))) : AExec P N ⟨d, .alloc e, ty, pos, af, gd⟩ K σ :=
  x_new (cs := (AV.ofV zero).cells) (esz := (AV.ofV zero).cells.length) (cap := 1) (e := e) hd (fun ρ Z F a w hr => by
    obtain ⟨hc, hl⟩ := cells_rel (Rel_ofV ρ Z zero) hs
    obtain ⟨I, hI, _, _, hz⟩ := hi.get
    exact ⟨.pointer (some ⟨w.heap.size, 0, none⟩), zero.cells, by simp [execOp, Instr.alloc, zeroValue, typeInfo, hI, hz, newVar, newRow], by simp [hl], hc, ⟨_, upd_same .., Nat.one_pos, rfl⟩⟩) hk
theorem a_new {e : TypeId} {size bytes : Nat} {zero : Value} {cs : List AV} [hi : Inf P e size bytes zero] (hc : (AV.ofV zero).cells = cs) (hs : cs.all AV.one = true) (ho : (AV.ofV zero).solid = true) (hd : Nat.blt t N.n = true) (hk : K ⟨(t, .ptr n 0) :: env, dfs, ⟨n + 1, (n, some ⟨cs, cs.length, e⟩) :: bs⟩⟩) : AExec P N ⟨some t, .alloc e, ty, pos, af, gd⟩ K ⟨env, dfs, ⟨n, bs⟩⟩ := by
  subst hc
  exact x_alloc ho hd hk

/-! ### Structs built -/
/-- Where a struct's fields lie. -/
class Plc (P : Program) (t : TypeId) (ps : outParam (List (Nat × Nat))) : Prop where
  out : ∃ fs : Array Field, P.underlying t = some (.struct fs) ∧ ∀ w, (fs.mapM fun f => do pure (f.offset, ← sizeOf f.type) : Sem (Array (Nat × Nat))).run P w = .ok ps.toArray w
def fillA (place : Nat → Option (Nat × Nat)) : List AV → List (Nat × AV) → Option (List AV)
  | cs, [] => some cs
  | cs, (i, v) :: rest => match place i with
    | none => none
    | some (off, size) => match Nat.beq v.cells.length size && v.solid && Nat.ble (off + size) cs.length with
      | true => fillA place (cs.take off ++ v.cells ++ cs.drop (off + size)) rest
      | false => none
theorem foldl_set_get (off : Nat) : ∀ (l : List Value) (k : Nat) (cs : Array Value) (j : Nat), off + k + l.length ≤ cs.size →
    ((l.zipIdx k).foldl (fun cs (c, j) => cs.setIfInBounds (off + j) c) cs)[j]? = if off + k ≤ j ∧ j < off + k + l.length then l[j - (off + k)]? else cs[j]?
  | [], k, cs, j, _ => by
    rw [if_neg (by simp only [List.length_nil]; omega)]
    rfl
  | v :: l, k, cs, j, h => by
    rw [List.zipIdx_cons, List.foldl_cons]
    have h' : off + (k + 1) + l.length ≤ (cs.setIfInBounds (off + k) v).size := by simp at h ⊢; omega
    rw [foldl_set_get off l (k + 1) (cs.setIfInBounds (off + k) v) j h']
    by_cases h1 : off + k = j
    · subst h1
      rw [if_neg (by omega), if_pos ⟨Nat.le_refl _, by simp⟩]
      have : off + k < cs.size := by simp at h; omega
      simp [this]
    · by_cases h2 : off + (k + 1) ≤ j ∧ j < off + (k + 1) + l.length
      · rw [if_pos h2, if_pos ⟨by omega, by simp; omega⟩, show j - (off + k) = (j - (off + (k + 1))) + 1 by omega]
        simp
      · rw [if_neg h2]
        rw [if_neg (by simp; omega)]
        simp [Array.getElem?_setIfInBounds_ne h1]
theorem foldl_set_list (off : Nat) (l : List Value) (cs : Array Value) (h : off + l.length ≤ cs.size) :
    ((l.zipIdx 0).foldl (fun cs (c, j) => cs.setIfInBounds (off + j) c) cs) = (cs.toList.take off ++ l ++ cs.toList.drop (off + l.length)).toArray := by
  apply Array.ext_getElem?
  intro j
  rw [foldl_set_get off l 0 cs j (by omega)]
  simp only [Nat.add_zero, List.getElem?_toArray]
  have hlen : (cs.toList.take off).length = off := by simp; omega
  by_cases h1 : j < off
  · rw [if_neg (by omega), List.append_assoc, List.getElem?_append_left (by omega), List.getElem?_take, if_pos h1]
    simp
  · rw [List.append_assoc, List.getElem?_append_right (by omega), hlen]
    by_cases h2 : j < off + l.length
    · rw [if_pos ⟨by omega, h2⟩, List.getElem?_append_left (by omega)]
    · rw [if_neg (by omega), List.getElem?_append_right (by omega), List.getElem?_drop, show off + l.length + (j - off - l.length) = j by omega]
      simp
theorem fill_rel {ρ : Nat → Option Geo} {Z : Nat → Option Obj} {place : Nat → Option (Nat × Nat)} : ∀ {ps : List (Nat × AV)} {qs : List (Nat × Value)} {cs cs' : List AV} {vs : Array Value}, ps.length = qs.length →
    (∀ (j : Nat) (p : Nat × AV) (q : Nat × Value), ps[j]? = some p → qs[j]? = some q → p.1 = q.1 ∧ Rel ρ Z p.2 q.2) → vs.size = cs.length → RelP ρ Z cs vs.toList → fillA place cs ps = some cs' →
    ∃ vs', Instr.fill place vs qs = some vs' ∧ vs'.size = cs'.length ∧ RelP ρ Z cs' vs'.toList
  | [], [], cs, cs', vs, _, _, hl, hr, h => by simp [fillA] at h; subst h; exact ⟨vs, rfl, hl, hr⟩
  | (i, v) :: ps, (i', u) :: qs, cs, cs', vs, hlen, hpq, hl, hr, h => by
    obtain ⟨e, hv⟩ := hpq 0 _ _ rfl rfl
    simp only at e hv
    subst e
    unfold fillA at h
    unfold Instr.fill
    cases hp : place i with
    | none => rw [hp] at h; cases h
    | some os =>
      obtain ⟨off, size⟩ := os
      rw [hp] at h
      simp only at h ⊢
      cases hc : (Nat.beq v.cells.length size && v.solid && Nat.ble (off + size) cs.length) with
      | false => rw [hc] at h; cases h
      | true =>
        rw [hc] at h
        simp only [Bool.and_eq_true] at hc
        obtain ⟨⟨c1, c2⟩, c3⟩ := hc
        have c1' := Nat.eq_of_beq_eq_true c1
        have c3' := Nat.le_of_ble_eq_true c3
        obtain ⟨hcr, hcl⟩ := cells_rel hv c2
        have hus : u.cells.size = size := by omega
        rw [if_neg (by simp; omega)]
        have hz : (u.cells.zipIdx.foldl (fun cs (c, j) => cs.setIfInBounds (off + j) c) vs) = (vs.toList.take off ++ u.cells.toList ++ vs.toList.drop (off + u.cells.toList.length)).toArray := by
          rw [← foldl_set_list off u.cells.toList vs (by simp; omega), ← Array.foldl_toList, Array.toList_zipIdx]
        rw [hz]
        refine fill_rel (by simpa using hlen) (fun j p q h1 h2 => hpq (j + 1) p q (by simpa using h1) (by simpa using h2)) ?_ ?_ h
        · simp; omega
        · simp only [Array.length_toList]
          rw [show off + u.cells.size = off + size by omega]
          have a1 := hr.take off
          have a2 := hr.drop (off + size)
          refine RelP.append ?_ (RelP.append ?_ a1 hcr) a2
          · simp; omega
          · simp; omega
  | [], _ :: _, _, _, _, h, _, _, _, _ => by simp at h
  | _ :: _, [], _, _, _, h, _, _, _, _ => by simp at h
theorem y_build {s : TypeId} {parts : List (Nat × Operand)} {size bytes : Nat} {zero : Value} {ps : List (Nat × Nat)} {cs : List AV} [hi : Inf P s size bytes zero] [hp : Plc P s ps] (hz : (AV.ofV zero).solid = true)
    (hf : fillA (fun i : Nat => ps[i]?) (AV.ofV zero).cells (parts.map fun p => (p.1, σ.ev p.2)) = some cs) : Yld P N ⟨d, .build s parts.toArray, ty, pos, af, gd⟩ σ (.agg cs) :=
  yld_pure fun ρ Z F a w hr => by
    obtain ⟨I, hI, _, _, hIz⟩ := hi.get
    obtain ⟨fs, hu, hpl⟩ := hp.out
    obtain ⟨hc, hl⟩ := cells_rel (Rel_ofV ρ Z zero) hz
    obtain ⟨vs', h1, h2, h3⟩ := fill_rel (ρ := ρ) (Z := Z) (qs := parts.map fun p => (p.1, a.eval p.2)) (by simp) (fun j p q hj hq => by
      simp only [List.getElem?_map, Option.map_eq_some_iff] at hj hq
      obtain ⟨x, hx, rfl⟩ := hj
      obtain ⟨y, hy, rfl⟩ := hq
      rw [hx] at hy; cases hy
      exact ⟨rfl, hr.ev _⟩) hl hc hf
    refine ⟨.agg vs', ⟨vs', rfl, h2, h3⟩, fun w' => ?_⟩
    have hpl' := hpl w'
    have e : (fun i : Nat => ps[i]?) = (fun i : Nat => ps.toArray[i]?) := by funext i; simp
    rw [e] at h1
    simp only [execOp, Instr.build, zeroValue, Sem.run_bind, run_typeInfo' hI, hIz, run_underlying hu, Result.andThen_ok, Sem.run_pure, hpl']
    have h1' : Instr.fill (fun x => ps.toArray[x]?) zero.cells (parts.toArray.map fun (i, x) => (i, a.eval x)).toList = some vs' := by simpa using h1
    rw [h1']
    rfl

/-! ### Closures, deferred calls -/
theorem y_func {f : FuncId} {xs : List Operand} : Yld P N ⟨d, .makeFunc (.func f) #[] xs.toArray, ty, pos, af, gd⟩ σ (.fn f (xs.map σ.ev)) :=
  yld_pure fun ρ Z F a w hr => ⟨.func (.func f) #[] (xs.map a.eval).toArray, ⟨_, rfl, by simp, by simpa using map_ev hr xs⟩, fun w' => by simp [execOp, Instr.makeFunc]⟩
theorem v_func1 {f : FuncId} {x : Operand} {i o : Nat} (hx : σ.ev x = .ptr i o) : Yld P N ⟨d, .makeFunc (.func f) #[] #[x], ty, pos, af, gd⟩ σ (.fn f [.ptr i o]) := hx ▸ y_func (xs := [x])
theorem v_func2 {f : FuncId} {x y : Operand} {i o i' o' : Nat} (hx : σ.ev x = .ptr i o) (hy : σ.ev y = .ptr i' o') : Yld P N ⟨d, .makeFunc (.func f) #[] #[x, y], ty, pos, af, gd⟩ σ (.fn f [.ptr i o, .ptr i' o']) := hx ▸ hy ▸ y_func (xs := [x, y])
theorem v_func0 {f : FuncId} : Yld P N ⟨d, .makeFunc (.func f) #[] #[], ty, pos, af, gd⟩ σ (.fn f []) := y_func (xs := [])
theorem x_defer {x : Operand} {xs : List Operand} {ts : Array TypeId} {f : FuncId} {cap : List AV} (hx : σ.ev x = .fn f cap) (hk : K ⟨σ.env, (f, xs.map σ.ev ++ cap) :: σ.dfs, σ.hp⟩) : AExec P N ⟨none, .defer ⟨.value x, xs.toArray, ts⟩, ty, pos, af, gd⟩ K σ := fun ρ Z F a w hr next Qc hn => by
  have hx' := hr.ev x
  rw [hx] at hx'
  obtain ⟨vs, e, hs, hp⟩ := hx'
  have hrun : (execOp a.eval ⟨none, .defer ⟨.value x, xs.toArray, ts⟩, ty, pos, af, gd⟩).run P w = .ok (.defer ⟨.fn (.func f) vs, (xs.map a.eval).toArray⟩) w := by
    simp [execOp, resolve, e, Deferred.ofValue]
  unfold Oper.wp
  rw [hrun]
  refine hn _ _ ρ Z ⟨σ.env, (f, xs.map σ.ev ++ cap) :: σ.dfs, σ.hp⟩ (.refl _ _) ⟨hr.size, hr.env, ⟨⟨vs, _, rfl, by simp [hs], ?_⟩, hr.dfs⟩, hr.hp, hr.kk⟩ hk
  simpa using RelP.append (by simp) (map_ev hr xs) hp

def ACallsD (P : Program) (f : FuncId) (args : List AV) (S : Hp) (Q : AV → Hp → Prop) : Prop :=
  ∀ ρ Z F w (cargs : Array Value), HpRel ρ Z F S w → (∀ i, S.nxt ≤ i → F.β i = none) → cargs.size = args.length → RelP ρ Z args cargs.toList → CallsD P f cargs .returning w (fun e u' w' => u' = .returning ∧ RQ Z F w Q e w')
theorem acallsD_of {f : FuncId} {fn : Func} {c : Code} {args : List AV} {S : Hp} {Q : AV → Hp → Prop} (hf : P.funcs[f]? = some fn) (hb : fn.body = some c) (n : Nat) (hn : args.length + (fn.ntmps - args.length) = n)
    (h : AWP P ⟨n, S.nxt⟩ c (retQ P S.nxt fn.results.toList Q) ⟨envL args 0, [], S⟩) : ACallsD P f args S Q := fun ρ Z F w cargs hp hk hl hr => by
  refine callsD_of_wp hf hb (Code.wp_mono ?_ (h ρ Z F _ w (entry_rel hp hk hl hr hn)))
  rintro e a' w' ⟨ρ', Z', σ', h1, h2, h3⟩
  have key : σ'.dfs = [] ∧ (∃ vs, ResL P σ' fn.results.toList vs ∧ ∃ l : List Nat, l.Nodup ∧ Keeps S.nxt l = true ∧ Q ((oneOf vs).ren (idx l)) (σ'.hp.sub l)) → a'.defers = [] ∧ ∃ v, (results fn a'.tmps).run P w' = .ok v w' ∧ RQ Z F w Q (.returned v) w' := by
    rintro ⟨g1, vs, g2, l, g3, g4, g5⟩
    have hd := h2.dfs
    rw [g1] at hd
    obtain ⟨u, hu, hrel⟩ := results_run h2 g2
    have hs := h2.sub g3 g4
    refine ⟨?_, u, hu, u, _, Z', _, _, rfl, h1, hs.hp, hrel.ren (subρ_spec ρ' l), g5⟩
    cases hdd : a'.defers with
    | nil => rfl
    | cons x xs => rw [hdd] at hd; exact hd.elim
  cases e with
  | normal => exact key h3
  | ret => exact key h3
  | _ => exact h3.elim
theorem enterD2 {f : FuncId} {fn : Func} {c : Code} {S : Hp} {R : AV → Hp → Prop} {a0 a1 : AV} (hf : P.funcs[f]? = some fn) (hb : fn.body = some c) (n k : Nat) (rs : List ResultVar) (hn : 2 + (fn.ntmps - 2) = n) (hk : S.nxt = k) (hr : fn.results.toList = rs)
    (h : AWP P ⟨n, k⟩ c (retQ P k rs R) ⟨[(0, a0), (1, a1)], [], S⟩) : ACallsD P f [a0, a1] S R := by subst hk; subst hr; exact acallsD_of hf hb n hn h
theorem enterD1 {f : FuncId} {fn : Func} {c : Code} {S : Hp} {R : AV → Hp → Prop} {a0 : AV} (hf : P.funcs[f]? = some fn) (hb : fn.body = some c) (n k : Nat) (rs : List ResultVar) (hn : 1 + (fn.ntmps - 1) = n) (hk : S.nxt = k) (hr : fn.results.toList = rs)
    (h : AWP P ⟨n, k⟩ c (retQ P k rs R) ⟨[(0, a0)], [], S⟩) : ACallsD P f [a0] S R := by subst hk; subst hr; exact acallsD_of hf hb n hn h

/-- Behind a body: the deferred calls, the last one first; then the results. -/
def leaveQ (P : Program) (k : Nat) (rs : List ResultVar) (Q : AV → Hp → Prop) (env : List (Nat × AV)) : List (FuncId × List AV) → Hp → Prop
  | [], S => ∃ vs, ResL P ⟨env, [], S⟩ rs vs ∧ ∃ l : List Nat, l.Nodup ∧ Keeps k l = true ∧ Q ((oneOf vs).ren (idx l)) (S.sub l)
  | (f, cs) :: r, S => ∃ m Q', List.Nodup m ∧ allLive S m = true ∧ Callable P f ∧ ACallsD P f (renL (idx m) cs) (S.sub m) Q' ∧ ∀ x S', Q' x S' → leaveQ P k rs Q env r (S.back m S')
def retQD (P : Program) (k : Nat) (rs : List ResultVar) (Q : AV → Hp → Prop) : Exit → St → Prop
  | .normal, σ | .ret, σ => leaveQ P k rs Q σ.env σ.dfs σ.hp
  | _, _ => False
theorem leaves_of {fn : Func} {Q : AV → Hp → Prop} {Z0 : Nat → Option Obj} {w0 : World} {k : Nat} (hN : N.k = k) : ∀ (l : List (FuncId × List AV)) (σ : St) (ρ : Nat → Option Geo) (Z : Nat → Option Obj) (F : Ctx) (a : Act) (w : World), σ.dfs = l → StRel N ρ Z F σ a w → Ext Z0 w0 Z w →
    leaveQ P k fn.results.toList Q σ.env l σ.hp → Leaves P fn a.tmps (RQ Z0 F w0 Q) a.defers .returning w
  | [], σ, ρ, Z, F, a, w, hl, hr, hx, ⟨vs, g2, l, g3, g4, g5⟩ => by
    have hd := hr.dfs
    rw [hl] at hd
    have hd0 : a.defers = [] := by
      cases hdd : a.defers with
      | nil => rfl
      | cons x xs => rw [hdd] at hd; exact hd.elim
    rw [hd0]
    have e : σ = ⟨σ.env, [], σ.hp⟩ := by cases σ; simp only at hl; subst hl; rfl
    obtain ⟨u, hu, hrel⟩ := results_run hr (by rw [e]; exact g2)
    have hs := hr.sub g3 (by rw [hN]; exact g4)
    exact ⟨u, hu, u, _, Z, _, _, rfl, hx, hs.hp, hrel.ren (subρ_spec ρ l), g5⟩
  | (f, cs) :: r, σ, ρ, Z, F, a, w, hl, hr, hx, ⟨m, Q', hn, hm, hc, spec, hk⟩ => by
    have hd := hr.dfs
    rw [hl] at hd
    cases hdd : a.defers with
    | nil => rw [hdd] at hd; exact hd.elim
    | cons d0 ds =>
      rw [hdd] at hd
      obtain ⟨⟨cap, args, rfl, hsz, hp⟩, hds⟩ := hd
      refine leaves_cons (f := f) (args := args ++ cap) (by simp) (by simp only [invoke]; exact hc.out _ _) ?_
      have hcp := callee_hp hr.hp hn
      refine (spec (subρ ρ m) Z _ w _ hcp (fun i hi => subρ_out hi) (by simp [renL_length, hsz]) (hp.ren (subρ_spec ρ m))).mono ?_
      rintro e u' w' ⟨rfl, u, ρ', Z', rr, S', rfl, hx', h', hrel, hq⟩
      obtain ⟨hb, hren⟩ := caller_back hr.hp hn hm hx'.Z_le h'
      have hle := backρ_le hr.hp ρ' m.length
      exact leaves_of hN r ⟨σ.env, r, σ.hp.back m S'⟩ _ Z' F ⟨a.tmps, ds⟩ w' rfl ⟨hr.size, fun t => (hr.env t).mono hle hx'.Z_le, hds.mono hle hx'.Z_le, hb, hr.kk⟩ (hx.trans hx') (hk _ _ hq)
theorem acalls_ofD {f : FuncId} {fn : Func} {c : Code} {args : List AV} {S : Hp} {Q : AV → Hp → Prop} (hf : P.funcs[f]? = some fn) (hb : fn.body = some c) (n : Nat) (hn : args.length + (fn.ntmps - args.length) = n)
    (h : AWP P ⟨n, S.nxt⟩ c (retQD P S.nxt fn.results.toList Q) ⟨envL args 0, [], S⟩) : ACalls P f args S Q := fun ρ Z F w cargs hp hk hl hr => by
  refine calls_of_wp_defers hf hb (Code.wp_mono ?_ (h ρ Z F _ w (entry_rel hp hk hl hr hn)))
  rintro e a' w' ⟨ρ', Z', σ', h1, h2, h3⟩
  cases e with
  | normal => exact leaves_of rfl σ'.dfs σ' ρ' Z' F a' w' rfl h2 h1 h3
  | ret => exact leaves_of rfl σ'.dfs σ' ρ' Z' F a' w' rfl h2 h1 h3
  | _ => exact h3.elim
theorem enter3d {f : FuncId} {fn : Func} {c : Code} {S : Hp} {R : AV → Hp → Prop} {a0 a1 a2 : AV} (hf : P.funcs[f]? = some fn) (hb : fn.body = some c) (n k : Nat) (rs : List ResultVar) (hn : 3 + (fn.ntmps - 3) = n) (hk : S.nxt = k) (hr : fn.results.toList = rs)
    (h : AWP P ⟨n, k⟩ c (retQD P k rs R) ⟨[(0, a0), (1, a1), (2, a2)], [], S⟩) : ACalls P f [a0, a1, a2] S R := by subst hk; subst hr; exact acalls_ofD hf hb n hn h
end
end Go.Proofs.YtdcnpkbflelpfaaDoor.Sx
