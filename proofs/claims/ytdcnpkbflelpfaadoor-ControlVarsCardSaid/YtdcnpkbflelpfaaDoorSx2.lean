/- Regions, and the rules of operations: what only computes, what reads. -/
import Derived.Test.YtdcnpkbflelpfaaDoorSx1
import Derived.Laws.Cells
import Derived.Laws.CopyRow
import Derived.Laws.Entries
import Derived.Laws.AppendOwn
namespace Go.Proofs.YtdcnpkbflelpfaaDoor.Sx
open Go Go.RowKit

/-! ### Facts on the program's tables, found by their numbers -/
class Und (P : Program) (t : TypeId) (d : outParam TypeDesc) : Prop where
  out : P.underlying t = some d
class Inf (P : Program) (t : TypeId) (size bytes : outParam Nat) (zero : outParam Value) : Prop where
  out : (P.info? t).map (fun i => (i.size, i.bytes, i.zero)) = some (size, bytes, some zero)
class Fld (P : Program) (s : TypeId) (f : Nat) (off size : outParam Nat) (ft : outParam TypeId) : Prop where
  out : (match P.underlying s with | some (.struct fs) => (fs[f]?).map (fun x => (x.offset, x.type)) | _ => none) = some (off, ft)
  sz : (P.info? ft).map (·.size) = some size
class Agg (P : Program) (t : TypeId) (b : outParam Bool) : Prop where
  out : (match P.underlying t with | some (.struct _) | some (.array _ _) => some true | some _ => some false | none => none) = some b

theorem Inf.get {P t s b z} (h : Inf P t s b z) : ∃ i, P.info? t = some i ∧ i.size = s ∧ i.bytes = b ∧ i.zero = some z := by
  have := h.out
  cases hi : P.info? t with
  | none => rw [hi] at this; cases this
  | some i => rw [hi] at this; simp at this; exact ⟨i, rfl, this⟩
theorem run_sizeOf' {P : Program} {t : TypeId} {i : TypeInfo} (h : P.info? t = some i) (w : World) : (sizeOf t).run P w = .ok i.size w := by
  simp [sizeOf, typeInfo, h]
theorem run_typeInfo' {P : Program} {t : TypeId} {i : TypeInfo} (h : P.info? t = some i) (w : World) : (typeInfo t).run P w = .ok i w := by
  simp [typeInfo, h]
theorem run_isAgg' {P : Program} {t : TypeId} {b : Bool} (h : Agg P t b) (w : World) : (isAgg t).run P w = .ok b w := by
  have := h.out
  unfold isAgg
  cases hu : P.underlying t with
  | none => rw [hu] at this; cases this
  | some d =>
    rw [hu] at this
    simp only [Sem.run_bind, run_underlying hu, Result.andThen_ok]
    cases d <;> simp at this <;> subst this <;> rfl

section
variable {P : Program} {N : Sg} {Q : Exit → St → Prop} {σ : St}

/-! ### Regions -/
def AExec (P : Program) (N : Sg) (o : Oper) (K : St → Prop) (σ : St) : Prop :=
  ∀ ρ Z F a w, StRel N ρ Z F σ a w → ∀ (next : Act → World → Prop) (Qc : Exit → Act → World → Prop),
    (∀ a' w' ρ' Z' σ', Ext Z w Z' w' → StRel N ρ' Z' F σ' a' w' → K σ' → next a' w') → o.wp P a w next Qc
def AOps (P : Program) (N : Sg) (ops : Array Oper) (Q : Exit → St → Prop) (l : List Oper) (σ : St) : Prop :=
  ∀ ρ Z F a w, StRel N ρ Z F σ a w → wpList P ops (CQ N Z F w Q) l a w

theorem oper_wp_mono2 {o : Oper} {a : Act} {w : World} {K K' : Act → World → Prop} {Q Q' : Exit → Act → World → Prop} (h : ∀ a w, K a w → K' a w) (hq : ∀ e a w, Q e a w → Q' e a w)
    (hh : o.wp P a w K Q) : o.wp P a w K' Q' := by
  unfold Oper.wp at *
  generalize (execOp a.eval o).run P w = r at *
  cases r with
  | ok n w' =>
    cases n <;> simp only [Oper.upon] at hh ⊢ <;>
      first
        | exact h _ _ hh
        | exact Calls.mono hh (fun e w'' he => by cases e <;> first | exact h _ _ he | exact hq _ _ _ he | exact ⟨he.choose, he.choose_spec.choose, hq _ _ _ he.choose_spec.choose_spec⟩)
        | exact Rows.mono hh (fun _ _ he => h _ _ he)
  | halt x w' => cases x <;> simp only [Oper.upon] at hh ⊢ <;> first | exact hh | exact hq _ _ _ hh
theorem wpList_mono {ops : Array Oper} {Q Q' : Exit → Act → World → Prop} (hq : ∀ e a w, Q e a w → Q' e a w) : ∀ (l : List Oper) (a : Act) (w : World), wpList P ops Q l a w → wpList P ops Q' l a w
  | [], _, _, h => hq _ _ _ h
  | o :: l, a, w, h => by
    unfold wpList at *
    split
    · rename_i hw
      rw [if_pos hw] at h
      exact h.imp (oper_wp_mono2 (fun a w => wpList_mono hq l a w) hq) (fun ⟨h1, x, y, h2⟩ => ⟨h1, x, y, hq _ _ _ h2⟩)
    · rename_i hw
      rw [if_neg hw] at h
      exact wpList_mono hq l _ _ h

theorem aops_nil {ops : Array Oper} (h : Q .normal σ) : AOps P N ops Q [] σ := fun ρ Z _ _ _ hr => ⟨ρ, Z, σ, .refl _ _, hr, h⟩
theorem aops_cons {ops : Array Oper} {o : Oper} {rest : List Oper} (hg : o.guard = none) (h : AExec P N o (AOps P N ops Q rest) σ) : AOps P N ops Q (o :: rest) σ := fun ρ Z F a w hr =>
  wpList_plain hg fun K hK => h ρ Z F a w hr K _ fun a' w' ρ' Z' _ e r k => hK a' w' (wpList_mono (fun _ _ _ q => q.ext e) _ _ _ (k ρ' Z' F a' w' r))

theorem wanted_of {ops : Array Oper} {o : Oper} {j t : Nat} {want b : Bool} {ρ Z F a w} (hr : StRel N ρ Z F σ a w) (hg : o.guard = some (j, want)) (hj : dstOf ops j = some t) (hb : σ.get t = .sc (.bool b)) :
    Region.wanted o (yielded ops a.tmps) = (b == want) := by
  have he := hr.env t
  rw [hb] at he
  have he' : a.tmps.getD t undef = .bool b := he
  have ht : a.tmps[t]? = some (.bool b) := by
    rw [Array.getD_eq_getD_getElem?] at he'
    cases h : a.tmps[t]? with
    | none => rw [h] at he'; simp [undef] at he'
    | some v => rw [h] at he'; simp at he'; rw [he']
  have hy : yielded ops a.tmps j = some b := by
    unfold yielded
    unfold dstOf at hj
    rw [hj]
    simp [ht]
  unfold Region.wanted
  rw [hg]
  simp only [hy]
  cases b <;> cases want <;> rfl
theorem put_undef {ρ Z F a w} {d : Option Tmp} (hr : StRel N ρ Z F σ a w) (hd : ∀ t, d = some t → t < N.n) : StRel N ρ Z F (σ.put d (.sc undef)) (a.put d undef) w := hr.put hd rfl
def okDst (N : Sg) (d : Option Tmp) : Bool := match d with | some t => Nat.blt t N.n | none => true
theorem okDst_spec {d : Option Tmp} (h : okDst N d = true) : ∀ t, d = some t → t < N.n := fun t ht => by subst ht; simpa [okDst, Nat.blt_eq] using h

/-- An operation that is carried out only if another one yielded 'want'. -/
theorem aops_guard {ops : Array Oper} {o : Oper} {rest : List Oper} {j t : Nat} {want b : Bool} (hg : o.guard = some (j, want)) (hj : dstOf ops j = some t) (hb : σ.get t = .sc (.bool b)) (hd : okDst N o.dst = true)
    (h1 : b = want → AExec P N o (AOps P N ops Q rest) σ) (h2 : b = !want → AOps P N ops Q rest (σ.put o.dst (.sc undef))) : AOps P N ops Q (o :: rest) σ := fun ρ Z F a w hr =>
  wpList_step fun K hK => by
    rw [wanted_of hr hg hj hb]
    by_cases h : b = want
    · rw [if_pos (by simp [h])]
      exact h1 h ρ Z F a w hr K _ fun a' w' ρ' Z' σ' e r k => hK a' w' (wpList_mono (fun _ _ _ q => q.ext e) _ _ _ (k ρ' Z' F a' w' r))
    · rw [if_neg (by simp [h])]
      exact hK _ _ (h2 (by cases b <;> cases want <;> simp_all) ρ Z F _ w (put_undef hr (okDst_spec hd)))
theorem awp_region {id : Nat} {l : List Oper} (h : AOps P N l.toArray Q l σ) : AWP P N (.region id l.toArray false) Q σ := awp_of fun ρ Z F a w hr => wp_region_lit (h ρ Z F a w hr)

/-! ### A region whose order is open -/
/-- The operation yields v, and leaves memory alone, in whatever later world. -/
def QY (P : Program) (N : Sg) (o : Oper) (σ : St) (v : AV) : Prop :=
  ∀ ρ Z F a w, StRel N ρ Z F σ a w → ∃ u, Rel ρ Z v u ∧ ∀ w', Below w.heap.size w w' → o.quietAt P a (Below w.heap.size w) w' u
def Yld (P : Program) (N : Sg) (o : Oper) (σ : St) (v : AV) : Prop :=
  ∀ ρ Z F a w, StRel N ρ Z F σ a w → ∃ u, Rel ρ Z v u ∧ (execOp a.eval o).run P w = .ok (.value u) w ∧ ∀ w', Below w.heap.size w w' → (execOp a.eval o).run P w' = .ok (.value u) w'
theorem QY.of {o : Oper} {v : AV} (h : Yld P N o σ v) : QY P N o σ v := fun ρ Z F a w hr =>
  let ⟨u, h1, _, h2⟩ := h ρ Z F a w hr; ⟨u, h1, fun w' hb => by unfold Oper.quietAt; rw [h2 w' hb]; exact ⟨rfl, rfl⟩⟩
theorem aexec {o : Oper} {v : AV} {K : St → Prop} (h : Yld P N o σ v) (hd : okDst N o.dst = true) (hk : K (σ.put o.dst v)) : AExec P N o K σ := fun ρ Z F a w hr next Qc hn => by
  obtain ⟨u, h1, h2, _⟩ := h ρ Z F a w hr
  unfold Oper.wp
  rw [h2]
  exact hn _ _ ρ Z _ (.refl _ _) (hr.put (okDst_spec hd) h1) hk
def AQuiet (P : Program) (N : Sg) (ops : Array Oper) (l : List Oper) (K : St → Prop) (σ : St) : Prop :=
  ∀ ρ Z F a w, StRel N ρ Z F σ a w → wpQuiet P ops (Below w.heap.size w) (fun a' => ∃ σ', StRel N ρ Z F σ' a' w ∧ K σ') l a
theorem aq_nil {ops : Array Oper} {K : St → Prop} (h : K σ) : AQuiet P N ops [] K σ := fun _ _ _ _ _ hr => ⟨σ, hr, h⟩
theorem aq_cons {ops : Array Oper} {o : Oper} {rest : List Oper} {K : St → Prop} {v : AV} (hg : o.guard = none) (hq : QY P N o σ v) (hd : okDst N o.dst = true) (h : AQuiet P N ops rest K (σ.put o.dst v)) :
    AQuiet P N ops (o :: rest) K σ := fun ρ Z F a w hr => by
  obtain ⟨u, h1, h2⟩ := hq ρ Z F a w hr
  refine wpQuiet_step fun K' hK' => ?_
  rw [if_pos (by simp [Region.wanted, hg])]
  exact ⟨u, h2, hK' _ (h ρ Z F _ w (hr.put (okDst_spec hd) h1))⟩
theorem aq_guard {ops : Array Oper} {o : Oper} {rest : List Oper} {K : St → Prop} {v : AV} {j t : Nat} {want b : Bool} (hg : o.guard = some (j, want)) (hj : dstOf ops j = some t) (hb : σ.get t = .sc (.bool b)) (hd : okDst N o.dst = true)
    (h1 : b = want → QY P N o σ v ∧ AQuiet P N ops rest K (σ.put o.dst v)) (h2 : b = !want → AQuiet P N ops rest K (σ.put o.dst (.sc undef))) : AQuiet P N ops (o :: rest) K σ := fun ρ Z F a w hr =>
  wpQuiet_step fun K' hK' => by
    rw [wanted_of hr hg hj hb]
    by_cases h : b = want
    · rw [if_pos (by simp [h])]
      obtain ⟨hq, hk⟩ := h1 h
      obtain ⟨u, g1, g2⟩ := hq ρ Z F a w hr
      exact ⟨u, g2, hK' _ (hk ρ Z F _ w (hr.put (okDst_spec hd) g1))⟩
    · rw [if_neg (by simp [h])]
      exact hK' _ (h2 (by cases b <;> cases want <;> simp_all) ρ Z F _ w (put_undef hr (okDst_spec hd)))
theorem wpQuiet_mono {ops : Array Oper} {C : World → Prop} {K K' : Act → Prop} (hk : ∀ a, K a → K' a) : ∀ (l : List Oper) (a : Act), wpQuiet P ops C K l a → wpQuiet P ops C K' l a
  | [], _, h => hk _ h
  | o :: l, a, h => by
    unfold wpQuiet at *
    split
    · rename_i hw
      rw [if_pos hw] at h
      exact Oper.quiet_mono (fun a => wpQuiet_mono hk l a) h
    · rename_i hw
      rw [if_neg hw] at h
      exact wpQuiet_mono hk l _ h
/-- The program is one under which mixed orders are followed. -/
class Mixed (P : Program) : Prop where
  out : P.follows .mixedOrders = true
theorem awp_draw [hm : Mixed P] {id : Nat} {l : List Oper} (n : Nat) (hB : qtailB l.toArray n = true)
    (h : AQuiet P N l.toArray (l.take n) (AOps P N l.toArray Q (l.drop n)) σ) : AWP P N (.region id l.toArray true) Q σ := awp_of fun ρ Z F a w hr => by
  refine wp_region_qtail (C := Below w.heap.size w) n hm.out hB ?_ (wpQuiet_mono ?_ _ _ (h ρ Z F a w hr))
  · exact ⟨rfl, rfl, rfl, Nat.le_refl _, fun _ _ => rfl⟩
  · rintro a' ⟨σ', hr', ha⟩ w' hb
    exact wpList_mono (fun _ _ _ q => q.ext (.of_below hb)) _ _ _ (ha ρ Z F a' w' (hr'.below hb))

/-! ### What only computes -/
theorem yld_pure {o : Oper} {v : AV} (h : ∀ ρ Z F a w, StRel N ρ Z F σ a w → ∃ u, Rel ρ Z v u ∧ ∀ w', (execOp a.eval o).run P w' = .ok (.value u) w') : Yld P N o σ v := fun ρ Z F a w hr =>
  let ⟨u, h1, h2⟩ := h ρ Z F a w hr; ⟨u, h1, h2 w, fun w' _ => h2 w'⟩
theorem ev_sc {ρ Z F a w} {x : Operand} {v : Value} (hr : StRel N ρ Z F σ a w) (h : σ.ev x = .sc v) : a.eval x = v := by
  have := hr.ev x
  rw [h] at this
  exact this

theorem y_move {d : Option Tmp} {x : Operand} {ty : TypeId} {pos : String} {af : Array Edge} {gd : Option (Nat × Bool)} : Yld P N ⟨d, .move x, ty, pos, af, gd⟩ σ (σ.ev x) :=
  yld_pure fun ρ Z F a w hr => ⟨a.eval x, hr.ev x, fun w' => by simp [execOp]⟩
theorem y_assign {d : Option Tmp} {x : Operand} {ty : TypeId} {pos : String} {af : Array Edge} {gd : Option (Nat × Bool)} : Yld P N ⟨d, .assign x, ty, pos, af, gd⟩ σ (σ.ev x) :=
  yld_pure fun ρ Z F a w hr => ⟨a.eval x, hr.ev x, fun w' => by simp [execOp]⟩
theorem y_pick_t {d : Option Tmp} {c x y : Operand} {ty : TypeId} {pos : String} {af : Array Edge} {gd : Option (Nat × Bool)} {b : Bool} (hc : σ.ev c = .sc (.bool b)) (hb : b = true) : Yld P N ⟨d, .pick c x y, ty, pos, af, gd⟩ σ (σ.ev x) :=
  yld_pure fun ρ Z F a w hr => ⟨a.eval x, hr.ev x, fun w' => by subst hb; simp [execOp, ev_sc hr hc, asBool]⟩
theorem y_pick_f {d : Option Tmp} {c x y : Operand} {ty : TypeId} {pos : String} {af : Array Edge} {gd : Option (Nat × Bool)} {b : Bool} (hc : σ.ev c = .sc (.bool b)) (hb : b = false) : Yld P N ⟨d, .pick c x y, ty, pos, af, gd⟩ σ (σ.ev y) :=
  yld_pure fun ρ Z F a w hr => ⟨a.eval y, hr.ev y, fun w' => by subst hb; simp [execOp, ev_sc hr hc, asBool]⟩

/-- What an operator makes of two whole numbers. -/
def binInt : BinOp → IntKind → Int → Int → Option Value
  | .add, k, m, n => some (.int k (k.wrap (m + n)))
  | .sub, k, m, n => some (.int k (k.wrap (m - n)))
  | .mul, k, m, n => some (.int k (k.wrap (m * n)))
  | .eql, _, m, n => some (.bool (m == n))
  | .neq, _, m, n => some (.bool (m != n))
  | .lss, _, m, n => some (.bool (decide (m < n)))
  | .leq, _, m, n => some (.bool (decide (m ≤ n)))
  | .gtr, _, m, n => some (.bool (decide (m > n)))
  | .geq, _, m, n => some (.bool (decide (m ≥ n)))
  | .and, k, m, n => some (.int k (k.wrap (BitVec.ofInt k.bits m &&& BitVec.ofInt k.bits n).toNat))
  | .or, k, m, n => some (.int k (k.wrap (BitVec.ofInt k.bits m ||| BitVec.ofInt k.bits n).toNat))
  | .xor, k, m, n => some (.int k (k.wrap (BitVec.ofInt k.bits m ^^^ BitVec.ofInt k.bits n).toNat))
  | .andNot, k, m, n => some (.int k (k.wrap (BitVec.ofInt k.bits m &&& ~~~(BitVec.ofInt k.bits n)).toNat))
  | _, _, _, _ => none
theorem run_eqGuard_int (op : BinOp) (t : TypeId) (x y : Operand) (k k' : IntKind) (m n : Int) (w : World) : (eqGuard op t x y (.int k m) (.int k' n)).run P w = .ok () w := by
  unfold eqGuard
  simp only []
  cases op <;> simp
theorem y_bin {d : Option Tmp} {op : BinOp} {xt yt : TypeId} {x y : Operand} {ty : TypeId} {pos : String} {af : Array Edge} {gd : Option (Nat × Bool)} {k : IntKind} {m n : Int} {v : Value}
    (hx : σ.ev x = .sc (.int k m)) (hy : σ.ev y = .sc (.int k n)) (hv : binInt op k m n = some v) : Yld P N ⟨d, .binOp op xt x y yt, ty, pos, af, gd⟩ σ (.sc v) :=
  yld_pure fun ρ Z F a w hr => ⟨v, rfl, fun w' => by
    simp only [execOp, ev_sc hr hx, ev_sc hr hy]
    have hb : (binOp op xt (.int k m) (.int k n)).run P w' = .ok v w' := by
      cases op <;> simp only [binInt, Option.some.injEq, reduceCtorEq] at hv <;> subst hv <;> simp [binOp, Op.intArith, Op.intCmp, Op.intBits]
    simp [run_eqGuard_int, hb]⟩
end
end Go.Proofs.YtdcnpkbflelpfaaDoor.Sx
