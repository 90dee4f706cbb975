/- The same rules in the form in which a walk uses them: the state written out. -/
import Derived.Test.YtdcnpkbflelpfaaDoorSx7
namespace Go.Proofs.YtdcnpkbflelpfaaDoor.Sx
open Go Go.RowKit

section
variable {P : Program} {N : Sg} {Q : Exit → St → Prop} {env : List (Nat × AV)} {dfs : List (FuncId × List AV)} {hp : Hp} {ops : Array Oper} {rest : List Oper}
  {op : Op} {ty : TypeId} {pos : String} {af : Array Edge} {t : Tmp} {d : Option Tmp} {v : AV} {K : St → Prop}

theorem k_n {K : St → Prop} {σ : St} (h : K σ) : thenQ K Q .normal σ := h
theorem k_n' {id : Nat} {σ : St} (h : Q .normal σ) : blockQ id Q .normal σ := h
theorem k_x {K : St → Prop} {σ : St} {id : Nat} (h : Q (.exit id) σ) : thenQ K Q (.exit id) σ := h
theorem k_r {K : St → Prop} {σ : St} (h : Q .ret σ) : thenQ K Q .ret σ := h
theorem k_g {K : St → Prop} {σ : St} {l : Nat} (h : Q (.goto l) σ) : thenQ K Q (.goto l) σ := h
theorem b_r {σ : St} {id : Nat} (h : Q .ret σ) : blockQ id Q .ret σ := h
theorem b_g {σ : St} {id l : Nat} (h : Q (.goto l) σ) : blockQ id Q (.goto l) σ := h
theorem b_hit {σ : St} {i id : Nat} (hb : Nat.beq i id = true) (h : Q .normal σ) : blockQ id Q (.exit i) σ := by simp only [blockQ, hb]; exact h
theorem b_miss {σ : St} {i id : Nat} (hb : Nat.beq i id = false) (h : Q (.exit i) σ) : blockQ id Q (.exit i) σ := by simp only [blockQ, hb]; exact h
theorem s_n {body : Code} {σ : St} (h : Q .normal σ) : scopeQ P N body Q .normal σ := h
theorem s_x {body : Code} {σ : St} {i : Nat} (h : Q (.exit i) σ) : scopeQ P N body Q (.exit i) σ := h
theorem s_r {body : Code} {σ : St} (h : Q .ret σ) : scopeQ P N body Q .ret σ := h
theorem s_g {body rest : Code} {σ : St} {l : Nat} (hf : findLabel body l = some rest) (h : IW P N [.code rest, .inScope body] Q σ) : scopeQ P N body Q (.goto l) σ := by simp only [scopeQ, hf]; exact h

theorem o_y (hy : Yld P N ⟨some t, op, ty, pos, af, none⟩ ⟨env, dfs, hp⟩ v) (hd : Nat.blt t N.n = true) (h : AOps P N ops Q rest ⟨(t, v) :: env, dfs, hp⟩) : AOps P N ops Q (⟨some t, op, ty, pos, af, none⟩ :: rest) ⟨env, dfs, hp⟩ :=
  aops_cons rfl (aexec hy hd h)
theorem o_x (h : AExec P N ⟨d, op, ty, pos, af, none⟩ (AOps P N ops Q rest) ⟨env, dfs, hp⟩) : AOps P N ops Q (⟨d, op, ty, pos, af, none⟩ :: rest) ⟨env, dfs, hp⟩ := aops_cons rfl h
theorem wanted_none {o : Oper} {f : Nat → Option Bool} (h : o.guard = none) : Region.wanted o f = true := by simp [Region.wanted, h]
/-- A guarded operation: it comes up, or its slot is worth nothing. -/
theorem o_g {j tj : Nat} {want b : Bool} (hj : dstOf ops j = some tj) (hb : look tj env = .sc (.bool b)) (hd : okDst N d = true)
    (h1 : b = want → AOps P N ops Q (⟨d, op, ty, pos, af, none⟩ :: rest) ⟨env, dfs, hp⟩) (h2 : b = (!want) → AOps P N ops Q rest (St.put ⟨env, dfs, hp⟩ d (.sc undef))) : AOps P N ops Q (⟨d, op, ty, pos, af, some (j, want)⟩ :: rest) ⟨env, dfs, hp⟩ := fun ρ Z F a w hr => by
  have hw := wanted_of (o := ⟨d, op, ty, pos, af, some (j, want)⟩) hr rfl hj hb
  unfold wpList
  rw [hw]
  by_cases h : b = want
  · rw [if_pos (by simp [h])]
    have := h1 h ρ Z F a w hr
    unfold wpList at this
    rw [if_pos (wanted_none rfl)] at this
    exact this
  · rw [if_neg (by simp [h])]
    exact h2 (by cases b <;> cases want <;> simp_all) ρ Z F _ w (put_undef hr (okDst_spec hd))
theorem o_g_t {j tj : Nat} {want b : Bool} (hj : dstOf ops j = some tj) (hb : look tj env = .sc (.bool b)) (hd : okDst N d = true) (hk : b = want)
    (h1 : AOps P N ops Q (⟨d, op, ty, pos, af, none⟩ :: rest) ⟨env, dfs, hp⟩) : AOps P N ops Q (⟨d, op, ty, pos, af, some (j, want)⟩ :: rest) ⟨env, dfs, hp⟩ :=
  o_g hj hb hd (fun _ => h1) (fun h => by subst hk; cases b <;> cases h)
theorem o_g_f {j tj : Nat} {want b : Bool} (hj : dstOf ops j = some tj) (hb : look tj env = .sc (.bool b)) (hd : okDst N (some t) = true) (hk : b = !want)
    (h2 : AOps P N ops Q rest ⟨(t, .sc undef) :: env, dfs, hp⟩) : AOps P N ops Q (⟨some t, op, ty, pos, af, some (j, want)⟩ :: rest) ⟨env, dfs, hp⟩ :=
  o_g hj hb hd (fun h => by subst hk; cases want <;> cases h) (fun _ => h2)
theorem q_y (hy : Yld P N ⟨some t, op, ty, pos, af, none⟩ ⟨env, dfs, hp⟩ v) (hd : Nat.blt t N.n = true) (h : AQuiet P N ops rest K ⟨(t, v) :: env, dfs, hp⟩) : AQuiet P N ops (⟨some t, op, ty, pos, af, none⟩ :: rest) K ⟨env, dfs, hp⟩ :=
  aq_cons rfl (.of hy) hd h
theorem q_c (hy : QY P N ⟨some t, op, ty, pos, af, none⟩ ⟨env, dfs, hp⟩ v) (hd : Nat.blt t N.n = true) (h : AQuiet P N ops rest K ⟨(t, v) :: env, dfs, hp⟩) : AQuiet P N ops (⟨some t, op, ty, pos, af, none⟩ :: rest) K ⟨env, dfs, hp⟩ :=
  aq_cons rfl hy hd h
theorem q_g {j tj : Nat} {want b : Bool} (hj : dstOf ops j = some tj) (hb : look tj env = .sc (.bool b)) (hd : okDst N d = true)
    (h1 : b = want → AQuiet P N ops (⟨d, op, ty, pos, af, none⟩ :: rest) K ⟨env, dfs, hp⟩) (h2 : b = (!want) → AQuiet P N ops rest K (St.put ⟨env, dfs, hp⟩ d (.sc undef))) : AQuiet P N ops (⟨d, op, ty, pos, af, some (j, want)⟩ :: rest) K ⟨env, dfs, hp⟩ := fun ρ Z F a w hr => by
  have hw := wanted_of (o := ⟨d, op, ty, pos, af, some (j, want)⟩) hr rfl hj hb
  unfold wpQuiet
  rw [hw]
  by_cases h : b = want
  · rw [if_pos (by simp [h])]
    have := h1 h ρ Z F a w hr
    unfold wpQuiet at this
    rw [if_pos (wanted_none rfl)] at this
    exact this
  · rw [if_neg (by simp [h])]
    exact h2 (by cases b <;> cases want <;> simp_all) ρ Z F _ w (put_undef hr (okDst_spec hd))
theorem q_g_t {j tj : Nat} {want b : Bool} (hj : dstOf ops j = some tj) (hb : look tj env = .sc (.bool b)) (hd : okDst N d = true) (hk : b = want)
    (h1 : AQuiet P N ops (⟨d, op, ty, pos, af, none⟩ :: rest) K ⟨env, dfs, hp⟩) : AQuiet P N ops (⟨d, op, ty, pos, af, some (j, want)⟩ :: rest) K ⟨env, dfs, hp⟩ :=
  q_g hj hb hd (fun _ => h1) (fun h => by subst hk; cases b <;> cases h)
theorem q_g_f {j tj : Nat} {want b : Bool} (hj : dstOf ops j = some tj) (hb : look tj env = .sc (.bool b)) (hd : okDst N (some t) = true) (hk : b = !want)
    (h2 : AQuiet P N ops rest K ⟨(t, .sc undef) :: env, dfs, hp⟩) : AQuiet P N ops (⟨some t, op, ty, pos, af, some (j, want)⟩ :: rest) K ⟨env, dfs, hp⟩ :=
  q_g hj hb hd (fun h => by subst hk; cases want <;> cases h) (fun _ => h2)

theorem v_move {x : Operand} {σ : St} {gd : Option (Nat × Bool)} (hx : σ.ev x = v) : Yld P N ⟨d, .move x, ty, pos, af, gd⟩ σ v := hx ▸ y_move
theorem v_assign {x : Operand} {σ : St} {gd : Option (Nat × Bool)} (hx : σ.ev x = v) : Yld P N ⟨d, .assign x, ty, pos, af, gd⟩ σ v := hx ▸ y_assign
theorem v_pick_t {c x y : Operand} {σ : St} {gd : Option (Nat × Bool)} {b : Bool} (hc : σ.ev c = .sc (.bool b)) (hb : b = true) (hx : σ.ev x = v) : Yld P N ⟨d, .pick c x y, ty, pos, af, gd⟩ σ v := hx ▸ y_pick_t hc hb
theorem v_pick_f {c x y : Operand} {σ : St} {gd : Option (Nat × Bool)} {b : Bool} (hc : σ.ev c = .sc (.bool b)) (hb : b = false) (hx : σ.ev y = v) : Yld P N ⟨d, .pick c x y, ty, pos, af, gd⟩ σ v := hx ▸ y_pick_f hc hb

/-! ### The way in, by the number of parameters -/
variable {f : FuncId} {fn : Func} {c : Code} {S : Hp} {R : AV → Hp → Prop}
theorem enter0 (hf : P.funcs[f]? = some fn) (hb : fn.body = some c) (n k : Nat) (rs : List ResultVar) (hn : 0 + (fn.ntmps - 0) = n) (hk : S.nxt = k) (hr : fn.results.toList = rs)
    (h : AWP P ⟨n, k⟩ c (retQ P k rs R) ⟨[], [], S⟩) : ACalls P f [] S R := by subst hk; subst hr; exact acalls_of hf hb n hn h
theorem enter1 {a0 : AV} (hf : P.funcs[f]? = some fn) (hb : fn.body = some c) (n k : Nat) (rs : List ResultVar) (hn : 1 + (fn.ntmps - 1) = n) (hk : S.nxt = k) (hr : fn.results.toList = rs)
    (h : AWP P ⟨n, k⟩ c (retQ P k rs R) ⟨[(0, a0)], [], S⟩) : ACalls P f [a0] S R := by subst hk; subst hr; exact acalls_of hf hb n hn h
theorem enter2 {a0 a1 : AV} (hf : P.funcs[f]? = some fn) (hb : fn.body = some c) (n k : Nat) (rs : List ResultVar) (hn : 2 + (fn.ntmps - 2) = n) (hk : S.nxt = k) (hr : fn.results.toList = rs)
    (h : AWP P ⟨n, k⟩ c (retQ P k rs R) ⟨[(0, a0), (1, a1)], [], S⟩) : ACalls P f [a0, a1] S R := by subst hk; subst hr; exact acalls_of hf hb n hn h
theorem enter3 {a0 a1 a2 : AV} (hf : P.funcs[f]? = some fn) (hb : fn.body = some c) (n k : Nat) (rs : List ResultVar) (hn : 3 + (fn.ntmps - 3) = n) (hk : S.nxt = k) (hr : fn.results.toList = rs)
    (h : AWP P ⟨n, k⟩ c (retQ P k rs R) ⟨[(0, a0), (1, a1), (2, a2)], [], S⟩) : ACalls P f [a0, a1, a2] S R := by subst hk; subst hr; exact acalls_of hf hb n hn h
theorem enter4 {a0 a1 a2 a3 : AV} (hf : P.funcs[f]? = some fn) (hb : fn.body = some c) (n k : Nat) (rs : List ResultVar) (hn : 4 + (fn.ntmps - 4) = n) (hk : S.nxt = k) (hr : fn.results.toList = rs)
    (h : AWP P ⟨n, k⟩ c (retQ P k rs R) ⟨[(0, a0), (1, a1), (2, a2), (3, a3)], [], S⟩) : ACalls P f [a0, a1, a2, a3] S R := by subst hk; subst hr; exact acalls_of hf hb n hn h
/-! ### The way out -/
theorem ret0 {k : Nat} (l : List Nat) (hn : l.Nodup) (hk : Keeps k l = true) (h : R (.tup []) (hp.sub l)) : retQ P k [] R .ret ⟨env, [], hp⟩ := ⟨rfl, [], trivial, l, hn, hk, h⟩
theorem ret0n {k : Nat} (l : List Nat) (hn : l.Nodup) (hk : Keeps k l = true) (h : R (.tup []) (hp.sub l)) : retQ P k [] R .normal ⟨env, [], hp⟩ := ⟨rfl, [], trivial, l, hn, hk, h⟩
theorem ret1 {k t0 : Nat} (l : List Nat) (hn : l.Nodup) (hk : Keeps k l = true) (h : R ((look t0 env).ren (idx l)) (hp.sub l)) : retQ P k [.tmp t0] R .ret ⟨env, [], hp⟩ := ⟨rfl, [_], ⟨rfl, trivial⟩, l, hn, hk, h⟩
theorem ret2 {k t0 t1 : Nat} (l : List Nat) (hn : l.Nodup) (hk : Keeps k l = true) (h : R (.tup [(look t0 env).ren (idx l), (look t1 env).ren (idx l)]) (hp.sub l)) : retQ P k [.tmp t0, .tmp t1] R .ret ⟨env, [], hp⟩ := ⟨rfl, [_, _], ⟨rfl, rfl, trivial⟩, l, hn, hk, h⟩
theorem ret3 {k t0 t1 t2 : Nat} (l : List Nat) (hn : l.Nodup) (hk : Keeps k l = true) (h : R (.tup [(look t0 env).ren (idx l), (look t1 env).ren (idx l), (look t2 env).ren (idx l)]) (hp.sub l)) : retQ P k [.tmp t0, .tmp t1, .tmp t2] R .ret ⟨env, [], hp⟩ := ⟨rfl, [_, _, _], ⟨rfl, rfl, rfl, trivial⟩, l, hn, hk, h⟩
end
end Go.Proofs.YtdcnpkbflelpfaaDoor.Sx
