/- Heaps as they are: calls that are handed all blocks under their own numbers; arrays of frozen memory; entries of a map stored; what is read of frozen memory, by whoever owns it. -/
import Derived.Test.YtdcnpkbflelpfaaDoorSx37
import Derived.WideKeyEntry
namespace Go.Proofs.YtdcnpkbflelpfaaDoor.Sx
open Go Go.RowKit
/-! ### Values that are wholly known, of any depth -/
mutual
def AV.exV : AV → Option Value
  | .sc v => some v
  | .agg cs => match exVL cs with | some l => some (.agg l.toArray) | none => none
  | .tup cs => match exVL cs with | some l => some (.tuple l.toArray) | none => none
  | _ => none
def exVL : List AV → Option (List Value)
  | [] => some []
  | a :: r => match a.exV, exVL r with | some v, some l => some (v :: l) | _, _ => none
end
mutual
theorem exV_rel {ρ : Nat → Option Geo} {Z : Nat → Option Obj} : ∀ (v : AV) (u : Value), v.exV = some u → Rel ρ Z v u ∧ ∀ u', Rel ρ Z v u' → u' = u
  | .sc v, u, h => by
    simp only [AV.exV, Option.some.injEq] at h
    subst h
    exact ⟨rfl, fun u' h => h⟩
  | .agg cs, u, h => by
    unfold AV.exV at h
    cases hc : exVL cs with
    | none => rw [hc] at h; cases h
    | some l =>
      rw [hc] at h
      cases h
      obtain ⟨h1, h2, h3⟩ := exVL_rel (ρ := ρ) (Z := Z) cs l hc
      exact ⟨⟨_, rfl, by simpa using h2, by simpa using h1⟩, fun u' ⟨vs, e, hs, hp⟩ => by
        rw [e]
        have := h3 vs.toList (by simpa using hs) hp
        rw [← this]⟩
  | .tup cs, u, h => by
    unfold AV.exV at h
    cases hc : exVL cs with
    | none => rw [hc] at h; cases h
    | some l =>
      rw [hc] at h
      cases h
      obtain ⟨h1, h2, h3⟩ := exVL_rel (ρ := ρ) (Z := Z) cs l hc
      exact ⟨⟨_, rfl, by simpa using h2, by simpa using h1⟩, fun u' ⟨vs, e, hs, hp⟩ => by
        rw [e]
        have := h3 vs.toList (by simpa using hs) hp
        rw [← this]⟩
  | .ptr _ _, _, h | .sl _ _ _, _, h | .vptr _ _, _, h | .vsl _ _ _ _, _, h | .fn _ _, _, h | .ifc _ _, _, h | .junk, _, h | .opq, _, h | .mp _, _, h | .it _, _, h => by simp [AV.exV] at h
theorem exVL_rel {ρ : Nat → Option Geo} {Z : Nat → Option Obj} : ∀ (cs : List AV) (l : List Value), exVL cs = some l → RelP ρ Z cs l ∧ l.length = cs.length ∧ ∀ us : List Value, us.length = cs.length → RelP ρ Z cs us → us = l
  | [], l, h => by
    simp only [exVL, Option.some.injEq] at h
    subst h
    exact ⟨trivial, rfl, fun us hu _ => List.eq_nil_of_length_eq_zero (by simpa using hu)⟩
  | a :: r, l, h => by
    unfold exVL at h
    cases ha : a.exV with
    | none => rw [ha] at h; cases h
    | some v =>
      cases hr : exVL r with
      | none => rw [ha, hr] at h; cases h
      | some l' =>
        rw [ha, hr] at h
        cases h
        obtain ⟨g1, g2⟩ := exV_rel (ρ := ρ) (Z := Z) a v ha
        obtain ⟨h1, h2, h3⟩ := exVL_rel (ρ := ρ) (Z := Z) r l' hr
        refine ⟨⟨g1, h1⟩, by simp [h2], fun us hu hp => ?_⟩
        cases us with
        | nil => simp at hu
        | cons u us =>
          obtain ⟨e1, e2⟩ := hp
          rw [g2 u e1, h3 us (by simpa using hu) e2]
end
theorem find_at (i : Nat) (b : Option Blk) (r : List (Nat × Option Blk)) : find i ((i, b) :: r) = b := by rw [find_cons, if_pos rfl]
theorem find_sk {i k : Nat} {b x : Option Blk} {r : List (Nat × Option Blk)} (h : k ≠ i) (hr : find i r = x) : find i ((k, b) :: r) = x := by rw [find_cons, if_neg h, hr]
section
variable {P : Program} {N : Sg} {σ : St} {d : Option Tmp} {ty : TypeId} {pos : String} {af : Array Edge} {gd : Option (Nat × Bool)}
/-! ### Arrays of frozen memory -/
theorem y_ix_varr {t e : TypeId} {x y : Operand} {cs : List AV} {off n size bytes : Nat} {zero : Value} {k : IntKind} {i : Int} [ht : Und P t (.array n e)] [he : Inf P e size bytes zero] (hx : σ.ev x = .vptr cs off) (hy : σ.ev y = .sc (.int k i)) (h0 : 0 ≤ i) (h1 : i < n) :
    Yld P N ⟨d, .indexAddr t x y, ty, pos, af, gd⟩ σ (.vptr cs (off + i.toNat * size)) :=
  yld_pure fun ρ Z F a w hr => by
    have := hr.ev x
    rw [hx] at this
    obtain ⟨b, q, c, e', fr, e1, h2, h3⟩ := this
    obtain ⟨I, hI, hIs, _, _⟩ := he.get
    refine ⟨_, ⟨b, q, c, e', fr, rfl, h2, h3⟩, fun w' => ?_⟩
    simp [execOp, e1, ev_sc hr hy, Instr.indexAt, asIntOf, run_underlying ht.out, Instr.sureAddr, h0, h1, run_sizeOf' hI, hIs, add_off, Nat.add_assoc]
theorem y_sliceArrV {T e : TypeId} {x : Operand} {k esz eb : Nat} {ez : Value} {cs : List AV} [hA : Und P T (.array k e)] [he : Inf P e esz eb ez] (hx : σ.ev x = .vptr cs 0) (hl : cs.length = k * esz) (hk0 : Nat.blt 0 k = true) :
    Yld P N ⟨d, .slice T x none none none, ty, pos, af, gd⟩ σ (.vsl cs esz 0 k) :=
  yld_pure fun ρ Z F a w hr => by
    rw [Nat.blt_eq] at hk0
    have := hr.ev x
    rw [hx] at this
    obtain ⟨b, q, c, e', fr, e1, h2, h3⟩ := this
    obtain ⟨I, hI, hIs, _, _⟩ := he.get
    refine ⟨.slice (some ⟨b, q, none⟩) k k, ⟨_, k, rfl, Nat.le_refl _, by omega, fun _ => ⟨b, q, c, e', fr, by simp, h2, h3⟩⟩, fun w' => ?_⟩
    have hb0 : (Instr.sliceBounds false k k none none none).run P w' = .ok (0, k, k) w' := by
      simp [Instr.sliceBounds]
    have hk : ¬ k = 0 := by omega
    simp [execOp, e1, Instr.sliceAt, Instr.sureAddr, run_underlying hA.out, hb0, run_sizeOf' hI, hIs, hk, add_off]
theorem run_eqPtrNilL {t e : TypeId} (ht : P.underlying t = some (.pointer e)) (p : Addr) (w : World) : (binOp .eql t (.pointer none) (.pointer (some p))).run P w = .ok (.bool false) w := by
  have h : ∀ n : Nat, (Op.equalIn (n + 1) t (.pointer none) (.pointer (some p))).run P w = .ok false w := fun n => by simp [Op.equalIn, run_underlying ht]
  have h' : (Op.equal t (.pointer none) (.pointer (some p))).run P w = .ok false w := h 9999
  simp only [binOp]
  simp [h']
theorem y_eqNilV {x y : Operand} {t e t' : TypeId} {cs : List AV} {off : Nat} [ht : Und P t (.pointer e)] (hx : σ.ev x = .vptr cs off) (hy : σ.ev y = .sc (.pointer none)) : Yld P N ⟨d, .binOp .eql t x y t', ty, pos, af, gd⟩ σ (.sc (.bool false)) :=
  yld_pure fun ρ Z F a w hr => ⟨_, rfl, fun w' => by
    have := hr.ev x
    rw [hx] at this
    obtain ⟨b, q, c, e', fr, hu, _⟩ := this
    simp [execOp, hu, ev_sc hr hy, run_eqGuardPtr, run_eqPtrNil (t := t)]⟩
theorem y_neNilV {x y : Operand} {t e t' : TypeId} {cs : List AV} {off : Nat} [ht : Und P t (.pointer e)] (hx : σ.ev x = .vptr cs off) (hy : σ.ev y = .sc (.pointer none)) : Yld P N ⟨d, .binOp .neq t x y t', ty, pos, af, gd⟩ σ (.sc (.bool true)) :=
  yld_pure fun ρ Z F a w hr => ⟨_, rfl, fun w' => by
    have := hr.ev x
    rw [hx] at this
    obtain ⟨b, q, c, e', fr, hu, _⟩ := this
    simp [execOp, hu, ev_sc hr hy, run_eqGuardPtr, run_nePtrNil (t := t)]⟩
theorem y_eqNilL {x y : Operand} {t e t' : TypeId} {cs : List AV} {off : Nat} [ht : Und P t (.pointer e)] (hx : σ.ev x = .sc (.pointer none)) (hy : σ.ev y = .vptr cs off) : Yld P N ⟨d, .binOp .eql t x y t', ty, pos, af, gd⟩ σ (.sc (.bool false)) :=
  yld_pure fun ρ Z F a w hr => ⟨_, rfl, fun w' => by
    have := hr.ev y
    rw [hy] at this
    obtain ⟨b, q, c, e', fr, hu, _⟩ := this
    simp [execOp, hu, ev_sc hr hx, run_eqGuardPtr, run_eqPtrNilL ht.out]⟩
/-! ### What is read of frozen memory -/
theorem acalls_frz {f : FuncId} {args vals : List AV} {S : Hp} {v : AV} {u : Value} (spec : ACalls P f vals ⟨0, []⟩ (fun r _ => r = v)) (hv : v.exV = some u) (hf : FrzSL S args vals) : ACalls P f args S (fun r S' => r = v ∧ S' = S) := fun ρ Z F w cargs hp hk hl hr => by
  have hrel := frzSL_rel hp hf hr
  have hlen := frzSL_length hf
  refine (spec (fun _ => none) (fun b => w.heap[b]?) ⟨fun _ => none, fun _ => none⟩ w cargs (bare_hp w (fun b cs e => let ⟨t, st, h1⟩ := hp.pin b cs e; ⟨t, st, hp.fixZ _ _ h1⟩)) (fun _ _ => rfl) (by omega) hrel).mono ?_
  rintro e w' ⟨u', ρ', Z', r, S', rfl, hx, hh, hrl, rfl⟩
  have hu := (exV_rel _ _ hv).2 u' hrl
  subst hu
  have hb : Below w.heap.size w w' := ⟨hx.os, hx.tape, hx.output, hx.size, fun k hk => by
    have ho : w.heap[k]? = some w.heap[k] := by simp [hk]
    rw [ho]; exact hh.fixZ k _ (hx.Z_le k _ ho)⟩
  exact ⟨u', ρ, Z, r, S, rfl, .of_below hb, hp.below hb, (exV_rel _ _ hv).1, rfl, rfl⟩
/-- .. that hands back a new row of plain values. -/
theorem acalls_frzL {f : FuncId} {args vals : List AV} {S : Hp} {n ez et : Nat} {cs : List AV} (spec : ACalls P f vals ⟨0, []⟩ (fun r S => r = .sl 0 0 n ∧ S = ⟨1, [(0, some ⟨cs, ez, et⟩)]⟩)) (hc : ∃ l, exVL cs = some l) (hf : FrzSL S args vals) : ACalls P f args S (fun r S' => r = .sl S.nxt 0 n ∧ S' = ⟨S.nxt + 1, (S.nxt, some ⟨cs, ez, et⟩) :: S.bs⟩) := fun ρ Z F w cargs hp hk hl hr => by
  have hrel := frzSL_rel hp hf hr
  have hlen := frzSL_length hf
  refine (spec (fun _ => none) (fun b => w.heap[b]?) ⟨fun _ => none, fun _ => none⟩ w cargs (bare_hp w (fun b cs e => let ⟨t, st, h1⟩ := hp.pin b cs e; ⟨t, st, hp.fixZ _ _ h1⟩)) (fun _ _ => rfl) (by omega) hrel).mono ?_
  rintro e w' ⟨u', ρ', Z', r, S', rfl, hx, hh, hrl, rfl, rfl⟩
  have hb : Below w.heap.size w w' := ⟨hx.os, hx.tape, hx.output, hx.size, fun k hk => by
    have ho : w.heap[k]? = some w.heap[k] := by simp [hk]
    rw [ho]; exact hh.fixZ k _ (hx.Z_le k _ ho)⟩
  obtain ⟨g, A, hg, eu, hle, hA⟩ := hrl
  obtain ⟨g', hg', hbl⟩ := hh.live 0 _ rfl
  rw [hg] at hg'; cases hg'
  obtain ⟨l, hl'⟩ := hc
  have hfresh : g.sol → w.heap.size ≤ g.blk := fun hs => by
    rcases Nat.lt_or_ge g.blk w.heap.size with h' | h'
    · have ho : w.heap[g.blk]? = some w.heap[g.blk] := by simp [h']
      have := hh.offZ 0 _ g rfl hg hs
      rw [hx.Z_le _ _ ho] at this
      cases this
    · exact h'
  have hle' := upd_le (g := g) (hp.fresh S.nxt (Nat.le_refl _))
  have hcs : ∀ {cur : List Value}, RelP ρ' Z' cs cur → RelP (upd ρ S.nxt g) Z cs cur := fun {cur} hc => by
    obtain ⟨e1, e2, e3⟩ := exVL_rel (ρ := ρ') (Z := Z') _ _ hl'
    have ht := e3 (cur.take cs.length) (by have := hc.length; simp; omega) (by have := hc.take cs.length; rwa [List.take_of_length_le (Nat.le_refl _)] at this)
    obtain ⟨e4, _, _⟩ := exVL_rel (ρ := upd ρ S.nxt g) (Z := Z) _ _ hl'
    rw [← ht] at e4
    have := RelP.more (vs := cur.drop cs.length) e4
    rwa [List.take_append_drop] at this
  have hB : BlkRel (upd ρ S.nxt g) Z g ⟨cs, ez, et⟩ w' := by
    refine ⟨fun h0 => ?_, fun h0 => ?_⟩
    · obtain ⟨cur, k1, k2, k3, k4⟩ := hbl.1 h0
      exact ⟨cur, k1, k2, k3, hcs k4⟩
    · obtain ⟨k1, k2, k3⟩ := hbl.2 h0
      refine ⟨k1, k2, fun hm => ?_⟩
      obtain ⟨o, l2, j1, j2, j3, j4⟩ := k3 hm
      exact ⟨o, l2, j1, j2, j3, hcs j4⟩
  refine ⟨u', upd ρ S.nxt g, Z, .sl S.nxt 0 n, _, rfl, .of_below hb, hp.grow (w' := w') hfresh hB (fun k hk => hb.block k hk), ⟨g, A, upd_same .., eu, hle, hA⟩, rfl, rfl⟩
/-- A closure that only looks at what it is handed. -/
theorem q_callVS {x : Operand} {f : FuncId} {cap : List AV} {xs : List Operand} {ts : Array TypeId} {v : Value} {vals : List AV} [hc : Callable P f] (hx : σ.ev x = .fn f cap) (spec : ACalls P f vals ⟨0, []⟩ (fun r _ => r = .sc v)) (hf : FrzSL σ.hp (xs.map σ.ev ++ cap) vals) :
    QY P N ⟨d, .call ⟨.value x, xs.toArray, ts⟩, ty, pos, af, gd⟩ σ (.sc v) := fun ρ Z F a w hr => by
  refine ⟨v, rfl, fun w' hb => ?_⟩
  have hx' := hr.ev x
  rw [hx] at hx'
  obtain ⟨vs, e, hs, hp'⟩ := hx'
  have hrun : (execOp a.eval ⟨d, .call ⟨.value x, xs.toArray, ts⟩, ty, pos, af, gd⟩).run P w' = .ok (.enter f ((xs.map a.eval).toArray ++ vs)) w' := by
    simp [execOp, resolve, Deferred.ofValue, e, invoke, hc.out]
  unfold Oper.quietAt
  rw [hrun]
  refine ⟨rfl, ?_⟩
  have hr' := hr.below hb
  have hrel := frzSL_rel hr'.hp hf (RelP.append (by simp) (map_ev hr' xs) hp')
  have hlen := frzSL_length hf
  refine (spec (fun _ => none) (fun b => w'.heap[b]?) ⟨fun _ => none, fun _ => none⟩ w' _ (bare_hp w' (fun b cs e => let ⟨t, st, h1⟩ := hr'.hp.pin b cs e; ⟨t, st, hr'.hp.fixZ _ _ h1⟩)) (fun _ _ => rfl) (by simp at hlen ⊢; omega) (by simpa using hrel)).mono ?_
  rintro e w'' ⟨u, ρ', Z', r, S', rfl, hx, hh, hrl, rfl⟩
  have hu : u = v := hrl
  subst hu
  refine ⟨rfl, hb.trans (Below.mono ⟨hx.os, hx.tape, hx.output, hx.size, fun k hk => ?_⟩ hb.size)⟩
  have ho : w'.heap[k]? = some w'.heap[k] := by simp [hk]
  rw [ho]; exact hh.fixZ k _ (hx.Z_le k _ ho)
/-! ### All blocks handed on -/
theorem x_callA {f : FuncId} {xs : List Operand} {ts : Array TypeId} {R : AV → Hp → Prop} {K : St → Prop} [hc : Callable P f] (hd : okDst N d = true) (spec : ACalls P f (xs.map σ.ev) σ.hp R) (hk : ∀ r S', R r S' → K (St.put ⟨σ.env, σ.dfs, S'⟩ d r)) :
    AExec P N ⟨d, .call ⟨.value (.func f), xs.toArray, ts⟩, ty, pos, af, gd⟩ K σ := fun ρ Z F a w hr next Qc hnx => by
  have hrun : (execOp a.eval ⟨d, .call ⟨.value (.func f), xs.toArray, ts⟩, ty, pos, af, gd⟩).run P w = .ok (.enter f (xs.map a.eval).toArray) w := by
    simp [execOp, resolve, Deferred.ofValue, Act.eval, invoke, hc.out]
  unfold Oper.wp
  rw [hrun]
  show Calls P f _ w _
  have hp : HpRel ρ Z ⟨F.F, ρ⟩ σ.hp w := ⟨hr.hp.live, hr.hp.inj, hr.hp.offZ, hr.hp.offF, hr.hp.fixZ, hr.hp.fixF, hr.hp.fresh, hr.hp.disj, .refl _, hr.hp.pin⟩
  refine (spec ρ Z ⟨F.F, ρ⟩ w _ hp (fun i hi => hr.hp.fresh i hi) (by simp) (by simpa using map_ev hr xs)).mono ?_
  rintro e w' ⟨u, ρ', Z', r, S', rfl, hx, h', hrel, hq⟩
  have hle : Le ρ ρ' := h'.anch
  have hb : HpRel ρ' Z' F S' w' := ⟨h'.live, h'.inj, h'.offZ, h'.offF, h'.fixZ, h'.fixF, h'.fresh, h'.disj, hr.hp.anch.trans hle, h'.pin⟩
  exact hnx _ w' ρ' Z' _ hx (StRel.put (σ := ⟨σ.env, σ.dfs, S'⟩) ⟨hr.size, fun t => (hr.env t).mono hle hx.Z_le, hr.dfs.mono hle hx.Z_le, hb, hr.kk⟩ (okDst_spec hd) hrel) (hk r S' hq)
def retA (P : Program) (rs : List ResultVar) (Q : AV → Hp → Prop) : Exit → St → Prop
  | .normal, σ | .ret, σ => σ.dfs = [] ∧ ∃ vs, ResL P σ rs vs ∧ Q (oneOf vs) σ.hp
  | _, _ => False
theorem acallsA_of {f : FuncId} {fn : Func} {c : Code} {args : List AV} {S : Hp} {Q : AV → Hp → Prop} (hf : P.funcs[f]? = some fn) (hb : fn.body = some c) (n : Nat) (hn : args.length + (fn.ntmps - args.length) = n)
    (h : AWP P ⟨n, S.nxt⟩ c (retA P fn.results.toList Q) ⟨envL args 0, [], S⟩) : ACalls P f args S Q := fun ρ Z F w cargs hp hk hl hr => by
  refine calls_of_wp hf hb (Code.wp_mono ?_ (h ρ Z F _ w (entry_rel hp hk hl hr hn)))
  rintro e a' w' ⟨ρ', Z', σ', h1, h2, h3⟩
  have key : σ'.dfs = [] ∧ (∃ vs, ResL P σ' fn.results.toList vs ∧ Q (oneOf vs) σ'.hp) → a'.defers = [] ∧ ∃ v, (results fn a'.tmps).run P w' = .ok v w' ∧ RQ Z F w Q (.returned v) w' := by
    rintro ⟨g1, vs, g2, g5⟩
    have hd := h2.dfs
    rw [g1] at hd
    obtain ⟨u, hu, hrel⟩ := results_run h2 g2
    refine ⟨?_, u, hu, u, _, Z', _, _, rfl, h1, h2.hp, hrel, g5⟩
    cases hdd : a'.defers with
    | nil => rfl
    | cons x xs => rw [hdd] at hd; exact hd.elim
  cases e with
  | normal => exact key h3
  | ret => exact key h3
  | _ => exact h3.elim
end
section
variable {P : Program} {f : FuncId} {fn : Func} {c : Code} {S : Hp} {R : AV → Hp → Prop} {env : List (Nat × AV)} {hp : Hp} {a0 a1 a2 a3 a4 a5 a6 : AV}
theorem enterA1 (hf : P.funcs[f]? = some fn) (hb : fn.body = some c) (n : Nat) (rs : List ResultVar) (hn : 1 + (fn.ntmps - 1) = n) (hr : fn.results.toList = rs) (h : AWP P ⟨n, S.nxt⟩ c (retA P rs R) ⟨[(0, a0)], [], S⟩) : ACalls P f [a0] S R := by subst hr; exact acallsA_of hf hb n hn h
theorem enterA2 (hf : P.funcs[f]? = some fn) (hb : fn.body = some c) (n : Nat) (rs : List ResultVar) (hn : 2 + (fn.ntmps - 2) = n) (hr : fn.results.toList = rs) (h : AWP P ⟨n, S.nxt⟩ c (retA P rs R) ⟨[(0, a0), (1, a1)], [], S⟩) : ACalls P f [a0, a1] S R := by subst hr; exact acallsA_of hf hb n hn h
theorem enterA3 (hf : P.funcs[f]? = some fn) (hb : fn.body = some c) (n : Nat) (rs : List ResultVar) (hn : 3 + (fn.ntmps - 3) = n) (hr : fn.results.toList = rs) (h : AWP P ⟨n, S.nxt⟩ c (retA P rs R) ⟨[(0, a0), (1, a1), (2, a2)], [], S⟩) : ACalls P f [a0, a1, a2] S R := by subst hr; exact acallsA_of hf hb n hn h
theorem enterA4 (hf : P.funcs[f]? = some fn) (hb : fn.body = some c) (n : Nat) (rs : List ResultVar) (hn : 4 + (fn.ntmps - 4) = n) (hr : fn.results.toList = rs) (h : AWP P ⟨n, S.nxt⟩ c (retA P rs R) ⟨[(0, a0), (1, a1), (2, a2), (3, a3)], [], S⟩) : ACalls P f [a0, a1, a2, a3] S R := by subst hr; exact acallsA_of hf hb n hn h
theorem enterA5 (hf : P.funcs[f]? = some fn) (hb : fn.body = some c) (n : Nat) (rs : List ResultVar) (hn : 5 + (fn.ntmps - 5) = n) (hr : fn.results.toList = rs) (h : AWP P ⟨n, S.nxt⟩ c (retA P rs R) ⟨[(0, a0), (1, a1), (2, a2), (3, a3), (4, a4)], [], S⟩) : ACalls P f [a0, a1, a2, a3, a4] S R := by subst hr; exact acallsA_of hf hb n hn h
theorem enterA6 (hf : P.funcs[f]? = some fn) (hb : fn.body = some c) (n : Nat) (rs : List ResultVar) (hn : 6 + (fn.ntmps - 6) = n) (hr : fn.results.toList = rs) (h : AWP P ⟨n, S.nxt⟩ c (retA P rs R) ⟨[(0, a0), (1, a1), (2, a2), (3, a3), (4, a4), (5, a5)], [], S⟩) : ACalls P f [a0, a1, a2, a3, a4, a5] S R := by subst hr; exact acallsA_of hf hb n hn h
theorem retA0 (h : R (.tup []) hp) : retA P [] R .ret ⟨env, [], hp⟩ := ⟨rfl, [], trivial, h⟩
theorem retA0n (h : R (.tup []) hp) : retA P [] R .normal ⟨env, [], hp⟩ := ⟨rfl, [], trivial, h⟩
theorem retA1 {t0 : Nat} (h : R (look t0 env) hp) : retA P [.tmp t0] R .ret ⟨env, [], hp⟩ := ⟨rfl, [_], ⟨rfl, trivial⟩, h⟩
theorem retA2 {t0 t1 : Nat} (h : R (.tup [look t0 env, look t1 env]) hp) : retA P [.tmp t0, .tmp t1] R .ret ⟨env, [], hp⟩ := ⟨rfl, [_, _], ⟨rfl, rfl, trivial⟩, h⟩
end
section
variable {P : Program} {R : AV → Hp → Prop} {env : List (Nat × AV)} {hp : Hp}
theorem ret2c {k t0 t1 ty id size bytes ez et : Nat} {cs : List AV} {zero : Value} (l : List Nat) [ha : Agg P ty true] [hi : Inf P ty size bytes zero] (hn : l.Nodup) (hk : Keeps k l = true) (h0 : look t0 env = .ptr id 0) (hb : hp.get id = some ⟨cs, ez, et⟩) (hl : Nat.ble size cs.length = true) (h : R (.tup [(AV.agg (cs.take size)).ren (idx l), (look t1 env).ren (idx l)]) (hp.sub l)) : retQ P k [.cell t0 ty, .tmp t1] R .ret ⟨env, [], hp⟩ :=
  ⟨rfl, [_, _], ⟨⟨id, _, h0, hb, .inr ⟨size, bytes, zero, ha, hi, by simpa using hl, rfl⟩⟩, rfl, trivial⟩, l, hn, hk, h⟩
end
section
variable {P : Program} {N : Sg} {Q : Exit → St → Prop} {σ : St}
def HpEq (S S' : Hp) : Prop := S.nxt = S'.nxt ∧ ∀ i, S.get i = S'.get i
theorem hpEq_rel {ρ Z F S S' w} (h : HpEq S S') (hp : HpRel ρ Z F S w) : HpRel ρ Z F S' w :=
  ⟨fun i b hb => hp.live i b ((h.2 i).trans hb), fun i j bi bj gi gj hi hj => hp.inj i j bi bj gi gj ((h.2 i).trans hi) ((h.2 j).trans hj), fun i b g hi => hp.offZ i b g ((h.2 i).trans hi), fun i b g hi => hp.offF i b g ((h.2 i).trans hi), hp.fixZ, hp.fixF, fun i hi => hp.fresh i (by rw [h.1]; exact hi), hp.disj, hp.anch, hp.pin⟩
theorem iw_hp {is : List Item} {env : List (Nat × AV)} {dfs : List (FuncId × List AV)} {S S' : Hp} (h : HpEq S S') (hk : IW P N is Q ⟨env, dfs, S'⟩) : IW P N is Q ⟨env, dfs, S⟩ := fun ρ Z F a w hr => hk ρ Z F a w ⟨hr.size, hr.env, hr.dfs, hpEq_rel h hr.hp, hr.kk⟩
/-- Loops over heaps as they are. -/
theorem awp_loopA {c : Code} {α : Type} (inv : α → Prop) (m : α → Nat) (e : α → List (Nat × AV)) (h : α → Hp) (a : α) (hd : σ.dfs = []) (hi : inv a) (he : SubEnv (e a) σ) (hh : HpEq σ.hp (h a))
    (step : ∀ a, inv a → (∀ b, inv b → m b < m a → IW P N [.inLoop c] Q ⟨e b, [], h b⟩) → AWP P N c (thenQ (IW P N [.inLoop c] Q) Q) ⟨e a, [], h a⟩) : AWP P N (.loop c) Q σ := by
  have key : ∀ n a, m a ≤ n → inv a → AWP P N c (thenQ (IW P N [.inLoop c] Q) Q) ⟨e a, [], h a⟩ := fun n => by
    induction n with
    | zero => exact fun a h1 h2 => step a h2 fun b _ h4 => by omega
    | succ n ih => exact fun a h1 h2 => step a h2 fun b h3 h4 => iw_inLoop (ih b (by omega) h3)
  refine iw_env (e a) he ?_
  rw [hd]
  exact iw_hp hh (awp_loop (key _ a (Nat.le_refl _) hi))
theorem iw_atA {is : List Item} {e : List (Nat × AV)} {S : Hp} (hk : IW P N is Q ⟨e, [], S⟩) (hd : σ.dfs = []) (he : SubEnv e σ) (hh : HpEq σ.hp S) : IW P N is Q σ := by
  refine iw_env e he ?_
  rw [hd]
  exact iw_hp hh hk
theorem hpEq_refl (S : Hp) : HpEq S S := ⟨rfl, fun _ => rfl⟩
theorem hpEq_dup {n id : Nat} {a b : Option Blk} {bs : List (Nat × Option Blk)} : HpEq ⟨n, (id, a) :: (id, b) :: bs⟩ ⟨n, (id, a) :: bs⟩ := ⟨rfl, fun i => by
  show find i _ = find i _
  simp only [find_cons]
  split <;> rfl⟩
end
section
variable {P : Program} {N : Sg} {Q : Exit → St → Prop} {env : List (Nat × AV)} {dfs : List (FuncId × List AV)} {hp : Hp} {ops : Array Oper} {rest : List Oper}
/-- An array of somebody's own, sliced, for a call that only looks at it. -/
theorem o_sliceCall {T e k esz eb id t1 t2 : Nat} {ez : Value} {f : FuncId} {x y : Operand} {ts : Array TypeId} {ty1 ty2 : TypeId} {p1 p2 : String} {a1 a2 : Array Edge} {cs : List AV} {yv v : Value} [hA : Und P T (.array k e)] [he : Inf P e esz eb ez] [hc : Callable P f]
    (hx : St.ev ⟨env, dfs, hp⟩ x = .ptr id 0) (hf : FrzS hp (.ptr id 0) (.vptr cs 0)) (hl : cs.length = k * esz) (hk0 : Nat.blt 0 k = true) (hy : ∀ u, St.ev ⟨(t1, u) :: env, dfs, hp⟩ y = .sc yv) (spec : ACalls P f [.vsl cs esz 0 k, .sc yv] ⟨0, []⟩ (fun r _ => r = .sc v)) (hd1 : Nat.blt t1 N.n = true) (hd2 : Nat.blt t2 N.n = true)
    (hK : AOps P N ops Q rest ⟨(t2, .sc v) :: (t1, .junk) :: env, dfs, hp⟩) :
    AOps P N ops Q (⟨some t1, .slice T x none none none, ty1, p1, a1, none⟩ :: ⟨some t2, .call ⟨.value (.func f), #[.tmp t1, y], ts⟩, ty2, p2, a2, none⟩ :: rest) ⟨env, dfs, hp⟩ := fun ρ Z F ac w hr => by
  rw [Nat.blt_eq] at hd1 hd2 hk0
  have hx' := hr.ev x
  rw [hx] at hx'
  have hfz := hf ρ Z F w _ hr.hp hx'
  obtain ⟨g, hg, g0, e1⟩ := hx'
  obtain ⟨I, hI, hIs, _, _⟩ := he.get
  rw [e1] at hfz
  obtain ⟨b, q, c, e', fr, k1, k2, k3⟩ := hfz
  have hb0 : (Instr.sliceBounds false k k none none none).run P w = .ok (0, k, k) w := by simp [Instr.sliceBounds]
  have hk : ¬ k = 0 := by omega
  unfold wpList
  rw [if_pos (wanted_none rfl)]
  left
  unfold Oper.wp
  have r1 : (execOp ac.eval ⟨some t1, .slice T x none none none, ty1, p1, a1, none⟩).run P w = .ok (.value (.slice (some ⟨g.blk, 0, none⟩) k k)) w := by
    simp [execOp, e1, Instr.sliceAt, Instr.sureAddr, run_underlying hA.out, hb0, run_sizeOf' hI, hIs, hk, add_off]
  rw [r1, Oper.upon_value]
  have hr1 : StRel N ρ Z F ⟨(t1, .junk) :: env, dfs, hp⟩ (ac.put (some t1) (.slice (some ⟨g.blk, 0, none⟩) k k)) w := StRel.put (σ := ⟨env, dfs, hp⟩) (d := some t1) (v := .junk) hr (by rintro _ ⟨⟩; exact hd1) trivial
  have ht1 : (ac.put (some t1) (.slice (some ⟨g.blk, 0, none⟩) k k)).eval (.tmp t1) = .slice (some ⟨g.blk, 0, none⟩) k k := by
    simp [Act.eval, Act.put, Array.getD_eq_getD_getElem?, hr.size, hd1]
  have hyv := ev_sc hr1 (hy .junk)
  unfold wpList
  rw [if_pos (wanted_none rfl)]
  left
  unfold Oper.wp
  generalize ac.put (some t1) (.slice (some ⟨g.blk, 0, none⟩) k k) = ac1 at hr1 ht1 hyv
  have r2 : (execOp ac1.eval ⟨some t2, .call ⟨.value (.func f), #[.tmp t1, y], ts⟩, ty2, p2, a2, none⟩).run P w = .ok (.enter f #[.slice (some ⟨g.blk, 0, none⟩) k k, yv]) w := by
    have : (execOp ac1.eval ⟨some t2, .call ⟨.value (.func f), #[.tmp t1, y], ts⟩, ty2, p2, a2, none⟩).run P w = .ok (.enter f #[ac1.eval (.tmp t1), ac1.eval y]) w := by
      simp [execOp, resolve, Deferred.ofValue, Act.eval, invoke, hc.out]
    rw [this, ht1, hyv]
  rw [r2, Oper.upon_enter]
  refine (spec (fun _ => none) (fun b => w.heap[b]?) ⟨fun _ => none, fun _ => none⟩ w #[.slice (some ⟨g.blk, 0, none⟩) k k, yv] (bare_hp w (fun b cs e => let ⟨t, st, h1⟩ := hr.hp.pin b cs e; ⟨t, st, hr.hp.fixZ _ _ h1⟩)) (fun _ _ => rfl) rfl ⟨?_, rfl, trivial⟩).mono ?_
  · refine ⟨_, k, rfl, Nat.le_refl _, by omega, fun _ => ⟨b, q, c, e', fr, ?_, k2, k3⟩⟩
    have j := Value.pointer.inj k1
    simp only [Option.some.injEq, Addr.mk.injEq] at j
    obtain ⟨j1, j2, _⟩ := j
    rw [← j1, Nat.zero_mul, ← j2]
  · rintro e w' ⟨u, ρ', Z', r, S', rfl, hxt, hh, hrl, rfl⟩
    have hu : u = v := hrl
    subst hu
    have hb : Below w.heap.size w w' := ⟨hxt.os, hxt.tape, hxt.output, hxt.size, fun k hk => by
      have ho : w.heap[k]? = some w.heap[k] := by simp [hk]
      rw [ho]; exact hh.fixZ k _ (hxt.Z_le k _ ho)⟩
    exact wpList_mono (fun _ _ _ q => CQ.ext (.of_below hb) q) _ _ _ (hK ρ Z F _ w' (StRel.put (σ := ⟨(t1, .junk) :: env, dfs, hp⟩) (d := some t2) (v := .sc u) (hr1.below hb) (by rintro _ ⟨⟩; exact hd2) rfl))
end
section
variable {P : Program} {κ : Type} [DecidableEq κ]
theorem modify_modify {α : Type} (f g : α → α) : ∀ (l : List α) (i : Nat), (l.modify i f).modify i g = l.modify i (fun x => g (f x))
  | [], _ => by simp
  | _ :: _, 0 => by simp
  | _ :: l, i + 1 => by simp [modify_modify f g l i]
def entSet (es : Array MapEntry) (clock : Nat) (k v : Value) : Option (Nat × Value) → Obj
  | none => .map (es.push ⟨k, v, clock⟩) (clock + 1)
  | some (i, _) => .map (es.modify i fun e => { e with key := k, val := v }) clock
theorem run_entryM {T kt et : TypeId} {kf : κ → Value} [hT : Und P T (.map kt et)] [K : MKey P kt κ kf] {es : Array MapEntry} {clock b : Nat} {w : World} {a : κ} {zero : Value} {r : Option (Nat × Value)} (hw : w.heap[b]? = some (.map es clock)) (hst : stampB es clock = true) (hf : Instr.findNow K.desc (kf a) es.toList 0 = some r) (hk : ∀ i x, r = some (i, x) → ∃ e, es[i]? = some e ∧ e.key = kf a)
    (hz : ∀ w', (zeroValue et).run P w' = .ok zero w') : ∃ (v0 : Value) (st : Nat) (es1 : Array MapEntry) (c1 : Nat), (Instr.mapEntry T (.map (some b)) (kf a)).run P w = .ok (.tuple #[v0, goInt st]) { w with heap := w.heap.setIfInBounds b (.map es1 c1) } ∧
      ∀ (w2 : World) (v : Value), w2.heap[b]? = some (.map es1 c1) → (Instr.entryStore T (.map (some b)) (goInt st) v).run P w2 = .ok () { w2 with heap := w2.heap.setIfInBounds b (entSet es clock (kf a) v r) } := by
  have h1 := Go.MapKept.run_getObj_map (P := P) hw
  have h2 := Go.MapKept.run_checkKey (P := P) (w := w) K.und (K.key a) false 9999
  have h3 := Go.MapKept.run_findKey (P := P) (w := w) K.und hf
  unfold stampB at hst
  simp only [Bool.and_eq_true, List.all_eq_true, decide_eq_true_eq] at hst
  obtain ⟨s1, s2⟩ := hst
  cases r with
  | none =>
    refine ⟨zero, clock, es.push ⟨kf a, zero, clock⟩, clock + 1, ?_, fun w2 v hw2 => ?_⟩
    · simp [Instr.mapEntry, run_underlying hT.out, h1, h2, h3, hz, Go.MapKept.run_setObj_map _ hw]
    · have hidx : (es.push ⟨kf a, zero, clock⟩).findIdx? (fun e => ((e.born : Nat) : Int) == ((clock : Nat) : Int)) = some es.size := by
        rw [WideElems.findIdx_arr]
        exact WideElems.findIdx_born (l := (es.push ⟨kf a, zero, clock⟩).toList) (j := es.size) (e0 := ⟨kf a, zero, clock⟩) (by
          simp only [Array.toList_push, List.map_append, List.map_cons, List.map_nil]
          refine List.nodup_append.2 ⟨s2, by simp, fun x hx y hy e1 => ?_⟩
          simp only [List.mem_singleton] at hy
          obtain ⟨z, hz, rfl⟩ := List.mem_map.1 hx
          have := s1 z hz
          omega) (by simp)
      have hmod : (es.push ⟨kf a, zero, clock⟩).modify es.size (fun e => { e with val := v }) = es.push ⟨kf a, v, clock⟩ := by
        apply Array.ext'
        rw [Array.toList_modify, Array.toList_push, Array.toList_push, ← Array.length_toList, WideElems.modify_last]
      simp [entSet, Instr.entryStore, Go.MapKept.run_getObj_map hw2, asInt, asIntOf, goInt, hidx, hmod, Go.MapKept.run_setObj_map _ hw2]
  | some p =>
    obtain ⟨i, x⟩ := p
    obtain ⟨e, he, hek⟩ := hk i x rfl
    have hkeep : (Instr.keyThatStays (((es[i]?).map (·.key)).getD (kf a)) (kf a)).run P w = .ok (kf a) w := by
      simp [he, hek, Instr.keyThatStays, K.bits]
    refine ⟨x, e.born, es.modify i fun e => { e with key := kf a }, clock, ?_, fun w2 v hw2 => ?_⟩
    · simp only [Instr.mapEntry, Sem.run_bind, run_underlying hT.out, Result.andThen_ok, h1, h2, h3, hkeep, Go.MapKept.run_setObj_map _ hw]
      simp [he]
    · have hb : ((es.modify i fun e => { e with key := kf a }).toList.map (·.born)) = es.toList.map (·.born) := by
        rw [Array.toList_modify]
        have hm : ∀ (l : List MapEntry) (i : Nat), ((l.modify i fun e => { e with key := kf a }).map (·.born)) = l.map (·.born) := fun l => by
          induction l with
          | nil => intro i; simp
          | cons a l ih => intro i; cases i <;> simp [ih]
        exact hm _ _
      have hidx : (es.modify i fun e => { e with key := kf a }).findIdx? (fun e' => ((e'.born : Nat) : Int) == ((e.born : Nat) : Int)) = some i := by
        rw [WideElems.findIdx_arr]
        exact WideElems.findIdx_born (e0 := { e with key := kf a }) (by rw [hb]; exact s2) (by
          rw [Array.toList_modify, List.getElem?_modify_eq]
          have : es.toList[i]? = some e := by simpa using he
          rw [this]
          rfl)
      have hmod : (es.modify i fun e => { e with key := kf a }).modify i (fun e => { e with val := v }) = es.modify i (fun e => { e with key := kf a, val := v }) := by
        apply Array.ext'
        rw [Array.toList_modify, Array.toList_modify, Array.toList_modify, modify_modify]
      simp [entSet, Instr.entryStore, Go.MapKept.run_getObj_map hw2, asInt, asIntOf, goInt, hidx, hmod, Go.MapKept.run_setObj_map _ hw2]
end
section
variable {P : Program} {N : Sg} {Q : Exit → St → Prop} {κ β : Type} [DecidableEq κ] {env : List (Nat × AV)} {dfs : List (FuncId × List AV)} {n : Nat} {bs : List (Nat × Option Blk)} {ops : Array Oper} {rest : List Oper}
/-- m[k], ... = v: the entry is looked for, then written. -/
theorem o_mapSet {T kt et size bytes : Nat} {zero : Value} {kf : κ → Value} {vf : β → Value} {x y z : Operand} {t1 t2 id : Nat} {et' ty1 ty2 ty3 : TypeId} {p1 p2 p3 : String} {a1 a2 a3 : Array Edge} {l : List (κ × β)} {a : κ} {b : β} [hT : Und P T (.map kt et)] [Kk : MKey P kt κ kf] [hi : Inf P et size bytes zero]
    (hx : St.ev ⟨env, dfs, ⟨n, bs⟩⟩ x = .mp id) (hb : find id bs = some ⟨mpv kf vf l, 0, et'⟩) (hy : St.ev ⟨env, dfs, ⟨n, bs⟩⟩ y = .sc (kf a)) (hz : ∀ e, St.ev ⟨(t2, e) :: (t1, .junk) :: env, dfs, ⟨n, bs⟩⟩ z = .sc (vf b)) (hx2 : ∀ e, St.ev ⟨(t2, e) :: (t1, .junk) :: env, dfs, ⟨n, bs⟩⟩ x = .mp id) (hd1 : Nat.blt t1 N.n = true) (hd2 : Nat.blt t2 N.n = true)
    (hk : AOps P N ops Q rest ⟨(t2, .junk) :: (t1, .junk) :: env, dfs, ⟨n, (id, some ⟨mpv kf vf (aput l a b), 0, et'⟩) :: bs⟩⟩) :
    AOps P N ops Q (⟨some t1, .mapEntry T x y, ty1, p1, a1, none⟩ :: ⟨some t2, .extract (.tmp t1) 1, ty2, p2, a2, none⟩ :: ⟨none, .entryStore T x (.tmp t2) z, ty3, p3, a3, none⟩ :: rest) ⟨env, dfs, ⟨n, bs⟩⟩ := fun ρ Z F ac w hr => by
  have hx' := hr.ev x
  rw [hx] at hx'
  obtain ⟨g, hg, g0, gm, e⟩ := hx'
  obtain ⟨es, clock, h1, h2, h3, hst⟩ := hr.hp.mapAt (S := ⟨n, bs⟩) (b := ⟨mpv kf vf l, 0, et'⟩) hb hg g0 gm rfl
  have hE : EntR ρ Z kf (l.map fun p => (p.1, AV.sc (vf p.2))) es.toList := entR_of (by simpa [mpv] using h2) h3
  obtain ⟨I, hI, _, _, hIz⟩ := hi.get
  have hzero : ∀ w', (zeroValue et).run P w' = .ok zero w' := fun w' => by simp [zeroValue, run_typeInfo' hI, hIz]
  have hesz := hr.hp.esz (S := ⟨n, bs⟩) (b := ⟨mpv kf vf l, 0, et'⟩) hb hg
  have hlt := (Array.getElem?_eq_some_iff.1 h1).1
  rw [Nat.blt_eq] at hd1 hd2
  have fin : ∀ (r : Option (Nat × Value)) (es' : Array MapEntry) (clock' : Nat), Instr.findNow Kk.desc (kf a) es.toList 0 = some r → (∀ i x, r = some (i, x) → ∃ e, es[i]? = some e ∧ e.key = kf a) →
      entSet es clock (kf a) (vf b) r = .map es' clock' → EntR ρ Z kf (mput (l.map fun p => (p.1, AV.sc (vf p.2))) a (.sc (vf b))) es'.toList → stampB es' clock' = true →
      wpList P ops (CQ N Z F w Q) (⟨some t1, .mapEntry T x y, ty1, p1, a1, none⟩ :: ⟨some t2, .extract (.tmp t1) 1, ty2, p2, a2, none⟩ :: ⟨none, .entryStore T x (.tmp t2) z, ty3, p3, a3, none⟩ :: rest) ac w := fun r es' clock' hf hkk hro hE' hst' => by
    obtain ⟨v0, st, es1, c1, r1, r2⟩ := run_entryM (P := P) (T := T) (kt := kt) (et := et) (zero := zero) h1 hst hf hkk hzero
    unfold wpList
    rw [if_pos (wanted_none rfl)]
    left
    unfold Oper.wp
    have e1 : (execOp ac.eval ⟨some t1, .mapEntry T x y, ty1, p1, a1, none⟩).run P w = .ok (.value (.tuple #[v0, goInt st])) { w with heap := w.heap.setIfInBounds g.blk (.map es1 c1) } := by
      simp [execOp, e, ev_sc hr hy, r1]
    rw [e1, Oper.upon_value]
    have hr1 : StRel N ρ Z F ⟨(t1, .junk) :: env, dfs, ⟨n, bs⟩⟩ (ac.put (some t1) (.tuple #[v0, goInt st])) w := StRel.put (σ := ⟨env, dfs, ⟨n, bs⟩⟩) (d := some t1) (v := .junk) hr (by rintro _ ⟨⟩; exact hd1) trivial
    have ht1 : (ac.put (some t1) (.tuple #[v0, goInt st])).eval (.tmp t1) = .tuple #[v0, goInt st] := by
      simp [Act.eval, Act.put, Array.getD_eq_getD_getElem?, hr.size, hd1]
    unfold wpList
    rw [if_pos (wanted_none rfl)]
    left
    unfold Oper.wp
    have e2 : (execOp (ac.put (some t1) (.tuple #[v0, goInt st])).eval ⟨some t2, .extract (.tmp t1) 1, ty2, p2, a2, none⟩).run P { w with heap := w.heap.setIfInBounds g.blk (.map es1 c1) } = .ok (.value (goInt st)) { w with heap := w.heap.setIfInBounds g.blk (.map es1 c1) } := by
      simp [execOp, ht1, Instr.extract]
    rw [e2, Oper.upon_value]
    have hr2 : StRel N ρ Z F ⟨(t2, .sc (goInt st)) :: (t1, .junk) :: env, dfs, ⟨n, bs⟩⟩ ((ac.put (some t1) (.tuple #[v0, goInt st])).put (some t2) (goInt st)) w := StRel.put (σ := ⟨(t1, .junk) :: env, dfs, ⟨n, bs⟩⟩) (d := some t2) (v := .sc (goInt st)) hr1 (by rintro _ ⟨⟩; exact hd2) rfl
    have ht2 : ((ac.put (some t1) (.tuple #[v0, goInt st])).put (some t2) (goInt st)).eval (.tmp t2) = goInt st := by
      have hs1 := hr1.size
      simp [Act.eval, Act.put, Array.getD_eq_getD_getElem?, hr.size, hd2]
    have hx3 := hr2.ev x
    rw [hx2] at hx3
    obtain ⟨g', hg', _, _, e3⟩ := hx3
    rw [hg] at hg'; cases hg'
    generalize hA : (ac.put (some t1) (.tuple #[v0, goInt st])).put (some t2) (goInt st) = ac2 at hr2 ht2 e3
    unfold wpList
    rw [if_pos (wanted_none rfl)]
    left
    unfold Oper.wp
    have e4 := r2 { w with heap := w.heap.setIfInBounds g.blk (.map es1 c1) } (vf b) (by simp [hlt])
    rw [hro] at e4
    have e5 : (execOp ac2.eval ⟨none, .entryStore T x (.tmp t2) z, ty3, p3, a3, none⟩).run P { w with heap := w.heap.setIfInBounds g.blk (.map es1 c1) } = .ok .skip { w with heap := w.heap.setIfInBounds g.blk (.map es' clock') } := by
      simp only [execOp, e3, ht2, ev_sc hr2 (hz _), Sem.run_bind, e4, Result.andThen_ok, Sem.run_pure, Array.setIfInBounds_setIfInBounds]
    rw [e5, Oper.upon_skip]
    obtain ⟨k1, k2⟩ := entR_to hE'
    rw [mput_mpv] at k1 k2
    have hr3 : StRel N ρ Z F ⟨(t2, .junk) :: (t1, .junk) :: env, dfs, ⟨n, (id, some ⟨mpv kf vf (aput l a b), 0, et'⟩) :: bs⟩⟩ (ac2.put none undef) { w with heap := w.heap.setIfInBounds g.blk (.map es' clock') } := by
      refine ⟨hr2.size, fun t => ?_, hr2.dfs, ?_, hr2.kk⟩
      · have := hr2.env t
        show Rel ρ Z (look t ((t2, .junk) :: (t1, .junk) :: env)) _
        have h' : Rel ρ Z (look t ((t2, .sc (goInt st)) :: (t1, .junk) :: env)) (ac2.tmps.getD t undef) := this
        rw [look_cons] at h' ⊢
        split
        · trivial
        · rename_i hne; rw [if_neg hne] at h'; exact h'
      · exact hr.hp.set (S := ⟨n, bs⟩) (b := ⟨mpv kf vf l, 0, et'⟩) (b' := ⟨mpv kf vf (aput l a b), 0, et'⟩) hb hg ⟨fun h => by omega, fun _ => ⟨hesz, fun h => (by rw [gm] at h; cases h), fun _ => ⟨.map es' clock', es'.toList.map entV, by simp [hlt], (by simp [ents, hst']), (by rw [List.length_map]; exact k1), k2⟩⟩⟩ (.inr gm) (fun k hk => by simp [Array.getElem?_setIfInBounds_ne (Ne.symm hk)])
    have hext : Ext Z w Z { w with heap := w.heap.setIfInBounds g.blk (.map es' clock') } := ⟨.refl _, rfl, rfl, rfl, by simp⟩
    exact wpList_mono (fun _ _ _ q => CQ.ext hext q) _ _ _ (hk ρ Z F _ _ hr3)
  rcases findNow_at (P := P) (kt := kt) (a := a) 0 hE with ⟨hnn, hf⟩ | ⟨v', j, e', hl, hj, hrel, hk', hf⟩
  · exact fin none _ _ hf (fun i x h => by cases h) rfl (by rw [Array.toList_push]; exact entR_put (v := .sc (vf b)) (u := vf b) rfl hE hnn) (stamp_push hst)
  · rw [Nat.zero_add] at hf
    refine fin (some (j, e'.val)) _ _ hf (fun i x h => by cases h; exact ⟨e', by simpa using hj, hk'⟩) rfl ?_ (stamp_mod (fun _ => rfl) hst)
    have := entR_mod (P := P) (kt := kt) (i := 0) (j := j) (v := .sc (vf b)) (u := vf b) rfl hE (by rw [Nat.zero_add]; exact hf)
    simpa using this
end
end Go.Proofs.YtdcnpkbflelpfaaDoor.Sx
