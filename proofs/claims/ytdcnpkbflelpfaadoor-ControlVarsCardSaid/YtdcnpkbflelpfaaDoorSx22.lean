/- Regions whose order is open and that write: what only computes is taken first; then each order is walked. -/
import Derived.Test.YtdcnpkbflelpfaaDoorSx21
namespace Go.Proofs.YtdcnpkbflelpfaaDoor.Sx
open Go Go.RowKit
section
variable {P : Program} {N : Sg} {σ : St} {d : Option Tmp} {ty : TypeId} {pos : String} {af : Array Edge} {gd : Option (Nat × Bool)} {K : St → Prop} {Q : Exit → St → Prop}
  {env : List (Nat × AV)} {dfs : List (FuncId × List AV)} {hp : Hp} {t : Tmp} {v : AV} {ops : Array Oper}
theorem oper_wp_mono3 {o : Oper} {a : Act} {w : World} {K K' : Act → World → Prop} {Q Q' : Exit → Act → World → Prop} (h : ∀ a w, K a w → K' a w) (hq : ∀ e a w, e ≠ .normal → Q e a w → Q' e a w)
    (hh : o.wp P a w K Q) : o.wp P a w K' Q' := by
  unfold Oper.wp at *
  generalize (execOp a.eval o).run P w = r at *
  cases r with
  | ok n w' =>
    cases n <;> simp only [Oper.upon] at hh ⊢ <;>
      first
        | exact h _ _ hh
        | exact Calls.mono hh (fun e w'' he => by cases e <;> first | exact h _ _ he | exact hq _ _ _ (by intro h; cases h) he | exact ⟨he.choose, he.choose_spec.choose, hq _ _ _ (by intro h; cases h) he.choose_spec.choose_spec⟩)
        | exact Rows.mono hh (fun _ _ he => h _ _ he)
  | halt x w' => cases x <;> simp only [Oper.upon] at hh ⊢ <;> first | exact hh | exact hq _ _ _ (by intro h; cases h) hh
theorem wpAny_monoQ {Q Q' : Exit → Act → World → Prop} (hq : ∀ e a w, Q e a w → Q' e a w) : ∀ (fuel : Nat) (l : Array Bool) (a : Act) (w : World), wpAny P .any ops Q fuel l a w → wpAny P .any ops Q' fuel l a w
  | 0, _, _, _, h => ⟨h.1, hq _ _ _ h.2⟩
  | fuel + 1, l, a, w, h => ⟨fun h0 => hq _ _ _ (h.1 h0), fun i hi => by
      have h2 := h.2 i hi
      unfold wpOp at h2 ⊢
      cases ho : ops[i]? with
      | none => rw [ho] at h2; exact wpAny_monoQ hq fuel _ _ _ h2
      | some o =>
        rw [ho] at h2
        simp only at h2 ⊢
        split
        · rename_i hw
          rw [if_pos hw] at h2
          exact h2.imp (oper_wp_mono3 (fun _ _ => wpAny_monoQ hq fuel _ _ _) fun e a w _ => hq e a w) fun ⟨h3, x, y, h4⟩ => ⟨h3, x, y, hq _ _ _ h4⟩
        · rename_i hw
          rw [if_neg hw] at h2
          exact wpAny_monoQ hq fuel _ _ _ h2⟩
/-- The walk through what is left of a region, in any order. -/
def AAny (P : Program) (N : Sg) (ops : Array Oper) (Q : Exit → St → Prop) (fuel : Nat) (listed : Array Bool) (σ : St) : Prop := ∀ ρ Z F a w, StRel N ρ Z F σ a w → wpAny P .any ops (CQ N Z F w Q) fuel listed a w
theorem awp_any [hm : Mixed P] {id : Nat} {l : List Oper} (h : AAny P N l.toArray Q l.length (Array.replicate l.length false) σ) : AWP P N (.region id l.toArray true) Q σ := awp_of fun ρ Z F a w hr => by
  refine wp_region_any hm.out ?_
  have hb : Below w.heap.size w { w with drawn := w.drawn + 1 } := ⟨rfl, rfl, rfl, Nat.le_refl _, fun _ _ => rfl⟩
  have := h ρ Z F a _ (hr.below hb)
  simpa using wpAny_monoQ (fun _ _ _ q => q.ext (.of_below hb)) _ _ _ _ this
theorem aany_done {fuel : Nat} {listed : Array Bool} (hr : Region.ready .any ops listed = []) (h : Q .normal σ) : AAny P N ops Q fuel listed σ := fun ρ Z F a w hs =>
  wpAny_done hr (cq_now hs h) fuel
/-- The ready ones, each as the next one. -/
def AAll (P : Program) (N : Sg) (ops : Array Oper) (Q : Exit → St → Prop) (fuel : Nat) (listed : Array Bool) (σ : St) : List Nat → Prop
  | [] => True
  | i :: r => (match ops[i]? with | some o => AOps P N ops (thenQ (AAny P N ops Q fuel (listed.setIfInBounds i true)) Q) [o] σ | none => False) ∧ AAll P N ops Q fuel listed σ r
theorem aall_mem {fuel : Nat} {listed : Array Bool} : ∀ {rs : List Nat}, AAll P N ops Q fuel listed σ rs → ∀ i ∈ rs, ∃ o, ops[i]? = some o ∧ AOps P N ops (thenQ (AAny P N ops Q fuel (listed.setIfInBounds i true)) Q) [o] σ
  | [], _, _, h => by cases h
  | i :: r, ⟨h1, h2⟩, j, hj => by
    cases hj with
    | head =>
      cases ho : ops[i]? with
      | none => rw [ho] at h1; exact h1.elim
      | some o => rw [ho] at h1; exact ⟨o, rfl, h1⟩
    | tail _ hm => exact aall_mem h2 j hm
theorem aany_all (rs : List Nat) {fuel : Nat} {listed : Array Bool} (hr : Region.ready .any ops listed = rs) (hne : rs.isEmpty = false) (h : AAll P N ops Q fuel listed σ rs) : AAny P N ops Q (fuel + 1) listed σ := fun ρ Z F a w hs =>
  wpAny_all hr (by intro e; rw [e] at hne; cases hne) fun i hi => by
    obtain ⟨o, ho, hops⟩ := aall_mem h i hi
    have h1 := hops ρ Z F a w hs
    unfold wpList at h1
    unfold wpOp
    rw [ho]
    simp only
    have hn : ∀ a' w', CQ N Z F w (thenQ (AAny P N ops Q fuel (listed.setIfInBounds i true)) Q) .normal a' w' → wpAny P .any ops (CQ N Z F w Q) fuel (listed.setIfInBounds i true) a' w' := fun a' w' ⟨ρ', Z', σ', e1, e2, e3⟩ =>
      wpAny_monoQ (fun _ _ _ q => q.ext e1) _ _ _ _ (e3 ρ' Z' F a' w' e2)
    have hq : ∀ e a' w', e ≠ .normal → CQ N Z F w (thenQ (AAny P N ops Q fuel (listed.setIfInBounds i true)) Q) e a' w' → CQ N Z F w Q e a' w' := fun e a' w' hne q => by
      cases e <;> first | exact absurd rfl hne | exact q
    split
    · rename_i hw
      rw [if_pos hw] at h1
      refine h1.imp (oper_wp_mono3 (fun a' w' h => hn a' w' h) hq) ?_
      rintro ⟨h2, x, y, h3⟩
      exact ⟨h2, x, y, hq _ _ _ (by intro h; cases h) h3⟩
    · rename_i hw
      rw [if_neg hw] at h1
      exact hn _ _ h1
/-- What only computes, whatever memory holds. -/
def Pur (P : Program) (N : Sg) (o : Oper) (σ : St) (v : AV) : Prop := ∀ ρ Z F a w, StRel N ρ Z F σ a w → ∃ u, Rel ρ Z v u ∧ ∀ w', (execOp a.eval o).run P w' = .ok (.value u) w'
theorem aany_take {op : Op} (i : Nat) {fuel : Nat} {listed : Array Bool} (hi : ops[i]? = some ⟨some t, op, ty, pos, af, none⟩) (hp' : Pur P N ⟨some t, op, ty, pos, af, none⟩ ⟨env, dfs, hp⟩ v) (hd : Nat.blt t N.n = true)
    (hc : (Region.noSelect ops && Region.free .any ops listed i && (Region.ready .any ops listed).contains i) = true) (hQ : ∀ c σ, ¬ Q (.panic c) σ)
    (h : AAny P N ops Q fuel (listed.setIfInBounds i true) ⟨(t, v) :: env, dfs, hp⟩) : AAny P N ops Q (fuel + 1) listed ⟨env, dfs, hp⟩ := fun ρ Z F a w hs => by
  simp only [Bool.and_eq_true] at hc
  obtain ⟨u, h1, h2⟩ := hp' ρ Z F a w hs
  refine wpAny_take hi hc.1.1 hc.1.2 hc.2 (fun c a' w' ⟨_, _, σ', _, _, q⟩ => absurd q (hQ c σ')) (.inl ⟨wanted_none rfl, h2⟩) ?_
  exact h ρ Z F _ w (hs.put (d := some t) (by rintro _ ⟨⟩; rwa [Nat.blt_eq] at hd) h1)
theorem p_move {x : Operand} (hx : σ.ev x = v) : Pur P N ⟨d, .move x, ty, pos, af, gd⟩ σ v := fun ρ Z F a w hr => ⟨a.eval x, hx ▸ hr.ev x, fun w' => by simp [execOp]⟩
theorem p_nil {x : Operand} {i off : Nat} (hx : σ.ev x = .ptr i off) : Pur P N ⟨d, .nilCheck x, ty, pos, af, gd⟩ σ (.ptr i off) := fun ρ Z F a w hr => by
  have := hr.ev x
  rw [hx] at this
  obtain ⟨g, hg, g0, e⟩ := this
  exact ⟨_, ⟨g, hg, g0, rfl⟩, fun w' => by simp [execOp, e]⟩
theorem p_fld {s : TypeId} {x : Operand} {f i o off size : Nat} {ft : TypeId} [hf : Fld P s f off size ft] (hx : σ.ev x = .ptr i o) (h0 : Nat.beq size 0 = false) : Pur P N ⟨d, .fieldAddr s x f, ty, pos, af, gd⟩ σ (.ptr i (o + off)) := fun ρ Z F a w hr => by
  have := hr.ev x
  rw [hx] at this
  obtain ⟨g, hg, g0, e⟩ := this
  exact ⟨_, ⟨g, hg, g0, rfl⟩, fun w' => by simp [execOp, e, run_fieldAt hf (Nat.ne_of_beq_eq_false h0)]⟩
theorem p_ix_vsl {t e : TypeId} {x y : Operand} {cs : List AV} {esz o len size bytes : Nat} {zero : Value} {k : IntKind} {i : Int} [ht : Und P t (.slice e)] [he : Inf P e size bytes zero] (hx : σ.ev x = .vsl cs esz o len) (hy : σ.ev y = .sc (.int k i)) (hz : esz = size) (h0 : 0 ≤ i) (h1 : i < len) :
    Pur P N ⟨d, .indexAddr t x y, ty, pos, af, gd⟩ σ (.vptr cs ((o + i.toNat) * esz)) := fun ρ Z F a w hr => by
  have := hr.ev x
  rw [hx] at this
  obtain ⟨A, cap, e1, hle, hb, hA⟩ := this
  obtain ⟨I, hI, hIs, _, _⟩ := he.get
  obtain ⟨b, q, c, e', fr, hA', h2, h3⟩ := hA (by omega)
  subst hA'
  subst hz
  refine ⟨_, ⟨b, q, c, e', fr, rfl, h2, h3⟩, fun w' => ?_⟩
  simp only [execOp, e1, ev_sc hr hy, Sem.run_bind, run_indexAt_slice ht.out hI hIs _ _ _ _ _ _ h0 h1, Result.andThen_ok]
  simp [Nat.add_mul, Nat.add_assoc]
theorem p_ix_sl {t e : TypeId} {x y : Operand} {id o len size bytes : Nat} {zero : Value} {k : IntKind} {i : Int} {b : Blk} [ht : Und P t (.slice e)] [he : Inf P e size bytes zero] (hx : σ.ev x = .sl id o len) (hy : σ.ev y = .sc (.int k i)) (hb : σ.hp.get id = some b) (hz : b.esz = size) (h0 : 0 ≤ i) (h1 : i < len) :
    Pur P N ⟨d, .indexAddr t x y, ty, pos, af, gd⟩ σ (.ptr id ((o + i.toNat) * size)) := fun ρ Z F a w hr => by
  have := hr.ev x
  rw [hx] at this
  obtain ⟨g, A, hg, e1, hle, hA⟩ := this
  obtain ⟨I, hI, hIs, _, _⟩ := he.get
  have hesz := hr.hp.esz hb hg
  have hA' := hA (by omega)
  subst hA'
  refine ⟨_, ⟨g, hg, by omega, rfl⟩, fun w' => ?_⟩
  simp only [execOp, e1, ev_sc hr hy, Sem.run_bind, run_indexAt_slice ht.out hI hIs _ _ _ _ _ _ h0 h1, Result.andThen_ok]
  simp [hesz, hz, Nat.add_mul]
theorem p_bin {op : BinOp} {xt yt : TypeId} {x y : Operand} {k : IntKind} {m n : Int} {u : Value} (hx : σ.ev x = .sc (.int k m)) (hy : σ.ev y = .sc (.int k n)) (hv : binInt op k m n = some u) : Pur P N ⟨d, .binOp op xt x y yt, ty, pos, af, gd⟩ σ (.sc u) := fun ρ Z F a w hr =>
  ⟨u, rfl, fun w' => by
    simp only [execOp, ev_sc hr hx, ev_sc hr hy]
    have hb : (binOp op xt (.int k m) (.int k n)).run P w' = .ok u w' := by
      cases op <;> simp only [binInt, Option.some.injEq, reduceCtorEq] at hv <;> subst hv <;> simp [binOp, Op.intArith, Op.intCmp, Op.intBits]
    simp [run_eqGuard_int, hb]⟩
theorem p_add {xt yt : TypeId} {x y : Operand} {m n : Int} (hx : σ.ev x = .sc (.int .i64 m)) (hy : σ.ev y = .sc (.int .i64 n)) (h0 : -9223372036854775808 ≤ m + n) (h1 : m + n ≤ 9223372036854775807) : Pur P N ⟨d, .binOp .add xt x y yt, ty, pos, af, gd⟩ σ (.sc (.int .i64 (m + n))) := by
  have := p_bin (P := P) (N := N) (d := d) (op := .add) (xt := xt) (yt := yt) (ty := ty) (pos := pos) (af := af) (gd := gd) hx hy rfl
  rwa [wrap_i64 h0 h1] at this
theorem p_sub {xt yt : TypeId} {x y : Operand} {m n : Int} (hx : σ.ev x = .sc (.int .i64 m)) (hy : σ.ev y = .sc (.int .i64 n)) (h0 : -9223372036854775808 ≤ m - n) (h1 : m - n ≤ 9223372036854775807) : Pur P N ⟨d, .binOp .sub xt x y yt, ty, pos, af, gd⟩ σ (.sc (.int .i64 (m - n))) := by
  have := p_bin (P := P) (N := N) (d := d) (op := .sub) (xt := xt) (yt := yt) (ty := ty) (pos := pos) (af := af) (gd := gd) hx hy rfl
  rwa [wrap_i64 h0 h1] at this
theorem aall_cons {fuel : Nat} {listed : Array Bool} {i : Nat} {r : List Nat} {o : Oper} (hi : ops[i]? = some o) (h : AOps P N ops (thenQ (AAny P N ops Q fuel (listed.setIfInBounds i true)) Q) [o] σ) (hr : AAll P N ops Q fuel listed σ r) : AAll P N ops Q fuel listed σ (i :: r) := by
  unfold AAll
  rw [hi]
  exact ⟨h, hr⟩
end
end Go.Proofs.YtdcnpkbflelpfaaDoor.Sx
