/- A region of a Go statement whose order is open: quiet operations in any order, then operations that wait for all ahead of them. One lexical walk serves every order. -/
import Derived.Orders
import Derived.Deep.Quiet
import Derived.Scope
import Derived.Defers
import Derived.Below
namespace Go.Proofs.YtdcnpkbflelpfaaDoor.Sx
open Go Go.RowKit

def dstOf (ops : Array Oper) (i : Nat) : Option Tmp := (ops[i]?).bind (·.dst)

def qtailB (ops : Array Oper) (n : Nat) : Bool :=
  let m := Region.before ops
  let N := ops.size
  decide (n ≤ N) &&
  ((List.range N).all fun j => match ops[j]? with | none => true | some o => o.after.all fun e => !Region.binds .any e || decide (e.on < j)) &&
  ((List.range N).all fun j => (List.range N).all fun i => !((m.getD j 0).testBit i) ||
    (match ops[j]? with | none => false | some o => o.after.any fun e => Region.binds .any e && (e.on == i || (m.getD e.on 0).testBit i))) &&
  ((List.range n).all fun j => (List.range j).all fun i => match dstOf ops i with | none => true | some a => dstOf ops j != some a) &&
  ((List.range n).all fun j => match ops[j]? with | none => true | some o => (List.range n).all fun i => match dstOf ops i with | none => true | some t => i == j || !((o.looksAt ops).contains t) || (if i < j then (m.getD j 0).testBit i else (m.getD i 0).testBit j)) &&
  ((List.range N).all fun k => decide (k < n) || (List.range k).all fun i => (m.getD k 0).testBit i) &&
  Region.noSelect ops

structure QT (ops : Array Oper) (n : Nat) (anc : Nat → Nat → Prop) : Prop where
  le : n ≤ ops.size
  lex : ∀ j o, ops[j]? = some o → ∀ e ∈ o.after, Region.binds .any e = true → e.on < j
  mask : ∀ j i, j < ops.size → i < ops.size → anc j i → ∃ o, ops[j]? = some o ∧ ∃ e ∈ o.after, Region.binds .any e = true ∧ (e.on = i ∨ anc e.on i)
  dist : ∀ i j, i < j → j < n → ∀ t, dstOf ops i = some t → dstOf ops j ≠ some t
  reads : ∀ i j o t, i < n → j < n → i ≠ j → ops[j]? = some o → dstOf ops i = some t → t ∈ o.looksAt ops → (i < j → anc j i) ∧ (j < i → anc i j)
  tail : ∀ k i, n ≤ k → k < ops.size → i < k → anc k i
  nosel : ∀ (j : Nat) (o : Oper) cs b, ops[j]? = some o → o.op ≠ .select cs b

theorem qt_of {ops : Array Oper} {n : Nat} (h : qtailB ops n = true) : QT ops n (fun j i => ((Region.before ops).getD j 0).testBit i = true) := by
  unfold qtailB at h
  simp only [Bool.and_eq_true] at h
  obtain ⟨⟨⟨⟨⟨⟨h1, h2⟩, h3⟩, h4⟩, h5⟩, h6⟩, h7⟩ := h
  have lt_of : ∀ {j : Nat} {o : Oper}, ops[j]? = some o → j < ops.size := fun h => (Array.getElem?_eq_some_iff.1 h).1
  refine ⟨of_decide_eq_true h1, ?_, ?_, ?_, ?_, ?_, Region.noSelect_spec h7⟩
  · intro j o ho e he hb
    have := List.all_eq_true.1 h2 j (List.mem_range.2 (lt_of ho))
    simp only [ho] at this
    have := Array.all_eq_true_iff_forall_mem.1 this e he
    simpa [hb] using this
  · intro j i hj hi ha
    have := List.all_eq_true.1 (List.all_eq_true.1 h3 j (List.mem_range.2 hj)) i (List.mem_range.2 hi)
    rw [ha] at this
    simp only [Bool.not_true, Bool.false_or] at this
    split at this
    · cases this
    · rename_i o ho
      obtain ⟨e, he, hb⟩ := Array.any_eq_true'.1 this
      simp only [Bool.and_eq_true, Bool.or_eq_true, beq_iff_eq] at hb
      exact ⟨o, ho, e, he, hb.1, hb.2⟩
  · intro i j hij hj t ht
    have := List.all_eq_true.1 (List.all_eq_true.1 h4 j (List.mem_range.2 hj)) i (List.mem_range.2 hij)
    simp only [ht] at this
    simpa using this
  · intro i j o t hi hj hne ho ht hm
    have := List.all_eq_true.1 h5 j (List.mem_range.2 hj)
    simp only [ho] at this
    have := List.all_eq_true.1 this i (List.mem_range.2 hi)
    simp only [ht] at this
    have hc : (o.looksAt ops).contains t = true := by simpa using hm
    rw [hc] at this
    have hij : (i == j) = false := by simpa using hne
    rw [hij] at this
    simp only [Bool.not_true, Bool.or_false, Bool.false_or] at this
    refine ⟨fun h => by rwa [if_pos h] at this, fun h => ?_⟩
    rw [if_neg (by omega)] at this
    exact this
  · intro k i hk hk2 hi
    have := List.all_eq_true.1 h6 k (List.mem_range.2 hk2)
    have hd : decide (k < n) = false := by simp; omega
    rw [hd, Bool.false_or] at this
    exact List.all_eq_true.1 this i (List.mem_range.2 hi)

section
variable {P : Program} {ops : Array Oper} {C : World → Prop} {n : Nat} {anc : Nat → Nat → Prop}

def Closed (ops : Array Oper) (s : Nat → Bool) : Prop := ∀ j o, ops[j]? = some o → s j = true → ∀ e ∈ o.after, Region.binds .any e = true → s e.on = true

theorem anc_closed (q : QT ops n anc) {s : Nat → Bool} (hc : Closed ops s) : ∀ (d j i : Nat), j ≤ d → j < ops.size → i < ops.size → anc j i → s j = true → s i = true
  | 0, j, i, hd, hj, hi, ha, hs => by
    obtain ⟨o, ho, e, he, hb, h⟩ := q.mask j i hj hi ha
    have := q.lex j o ho e he hb
    omega
  | d + 1, j, i, hd, hj, hi, ha, hs => by
    obtain ⟨o, ho, e, he, hb, h⟩ := q.mask j i hj hi ha
    have hlt := q.lex j o ho e he hb
    have hse := hc j o ho hs e he hb
    rcases h with h | h
    · rw [← h]; exact hse
    · exact anc_closed q hc d e.on i (by omega) (by omega) hi h hse

/-- An operation whose edges are all listed: whatever is its ancestor is listed. -/
theorem anc_ready (q : QT ops n anc) {s : Nat → Bool} (hc : Closed ops s) {j i : Nat} {o : Oper} (ho : ops[j]? = some o) (hall : ∀ e ∈ o.after, Region.binds .any e = true → s e.on = true)
    (hi : i < ops.size) (ha : anc j i) : s i = true := by
  have hj : j < ops.size := (Array.getElem?_eq_some_iff.1 ho).1
  obtain ⟨o', ho', e, he, hb, h⟩ := q.mask j i hj hi ha
  have : o' = o := Option.some.inj (ho'.symm.trans ho)
  subst this
  have hlt := q.lex j o' ho e he hb
  have hse := hall e he hb
  rcases h with h | h
  · rw [← h]; exact hse
  · exact anc_closed q hc e.on e.on i (Nat.le_refl _) (by omega) hi h hse

/-- The frame behind the operations of a set, in their lexical order. -/
def puts (ops : Array Oper) (V : Nat → Value) (s : Nat → Bool) : Nat → Act → Act
  | 0, a => a
  | k + 1, a => if s k then (puts ops V s k a).put (dstOf ops k) (V k) else puts ops V s k a

variable {V : Nat → Value} {s s' : Nat → Bool} {a : Act}

theorem put_size (a : Act) (d : Option Tmp) (v : Value) : (a.put d v).tmps.size = a.tmps.size := by cases d <;> simp [Act.put]
theorem put_defers' (a : Act) (d : Option Tmp) (v : Value) : (a.put d v).defers = a.defers := by cases d <;> rfl
theorem puts_size (k : Nat) : (puts ops V s k a).tmps.size = a.tmps.size := by
  induction k with
  | zero => rfl
  | succ k ih => unfold puts; split <;> simp [put_size, ih]
theorem puts_defers (k : Nat) : (puts ops V s k a).defers = a.defers := by
  induction k with
  | zero => rfl
  | succ k ih => unfold puts; split <;> simp [put_defers', ih]
theorem put_get_ne (a : Act) (d : Option Tmp) (v : Value) (t : Nat) (h : d ≠ some t) : (a.put d v).tmps[t]? = a.tmps[t]? := by
  cases d with
  | none => rfl
  | some d =>
    have : d ≠ t := fun e => h (by rw [e])
    simp [Act.put, Array.getElem?_setIfInBounds_ne this]
theorem put_get_eq (a : Act) (v : Value) (t : Nat) : (a.put (some t) v).tmps[t]? = if t < a.tmps.size then some v else none := by
  simp [Act.put, Array.getElem?_setIfInBounds]
theorem puts_get_not {t : Nat} : ∀ (k : Nat), (∀ i, i < k → s i = true → dstOf ops i ≠ some t) → (puts ops V s k a).tmps[t]? = a.tmps[t]?
  | 0, _ => rfl
  | k + 1, h => by
    unfold puts
    split
    · rename_i hs
      rw [put_get_ne _ _ _ _ (h k (by omega) hs)]
      exact puts_get_not k fun i hi => h i (by omega)
    · exact puts_get_not k fun i hi => h i (by omega)
theorem puts_get {t i : Nat} (ht : dstOf ops i = some t) (hs : s i = true) : ∀ (k : Nat), i < k → (∀ j, i < j → j < k → dstOf ops j ≠ some t) →
    (puts ops V s k a).tmps[t]? = if t < a.tmps.size then some (V i) else none
  | 0, h, _ => by omega
  | k + 1, h, hd => by
    unfold puts
    by_cases hk : i = k
    · subst hk
      rw [if_pos hs, ht, put_get_eq, puts_size]
    · have ih := puts_get ht hs k (by omega) fun j h1 h2 => hd j h1 (by omega)
      split
      · rw [put_get_ne _ _ _ _ (hd k (by omega) (by omega))]; exact ih
      · exact ih
/-- Two sets that agree on whatever writes a slot leave the same in it. -/
theorem puts_agree (q : QT ops n anc) {t : Nat} (h : ∀ i, i < n → dstOf ops i = some t → s i = s' i) : (puts ops V s n a).tmps[t]? = (puts ops V s' n a).tmps[t]? := by
  by_cases hex : ∃ i, i < n ∧ dstOf ops i = some t
  · obtain ⟨i, hi, ht⟩ := hex
    have hd : ∀ j, i < j → j < n → dstOf ops j ≠ some t := fun j h1 h2 => q.dist i j h1 h2 t ht
    have hd2 : ∀ j, j < n → dstOf ops j = some t → j = i := fun j hj htj => by
      rcases Nat.lt_trichotomy j i with h1 | h1 | h1
      · exact absurd ht (q.dist j i h1 hi t htj)
      · exact h1
      · exact absurd htj (hd j h1 hj)
    cases hs : s i with
    | true =>
      rw [puts_get ht hs n hi hd, puts_get ht ((h i hi ht).symm.trans hs) n hi hd]
    | false =>
      have h1 : ∀ j, j < n → s j = true → dstOf ops j ≠ some t := fun j hj hsj htj => by
        have := hd2 j hj htj
        subst this
        rw [hs] at hsj; cases hsj
      have h2 : ∀ j, j < n → s' j = true → dstOf ops j ≠ some t := fun j hj hsj htj => by
        have := hd2 j hj htj
        subst this
        rw [← h j hj htj, hs] at hsj; cases hsj
      rw [puts_get_not n h1, puts_get_not n h2]
  · have h1 : ∀ (r : Nat → Bool) j, j < n → r j = true → dstOf ops j ≠ some t := fun r j hj _ htj => hex ⟨j, hj, htj⟩
    rw [puts_get_not n (h1 s), puts_get_not n (h1 s')]

theorem act_ext {x y : Act} (h : ∀ t : Nat, x.tmps[t]? = y.tmps[t]?) (hd : x.defers = y.defers) : x = y := by
  cases x; cases y
  simp only at h hd
  subst hd
  congr 1
  exact Array.ext_getElem? h

theorem puts_add (q : QT ops n anc) {j : Nat} (hj : j < n) (_hs : s j = false) (hs' : ∀ i, s' i = (s i || decide (i = j))) :
    puts ops V s' n a = (puts ops V s n a).put (dstOf ops j) (V j) := by
  have hsj : s' j = true := by rw [hs']; simp
  have same : ∀ i, i ≠ j → s' i = s i := fun i hi => by rw [hs']; simp [hi]
  refine act_ext (fun t => ?_) (by rw [puts_defers, put_defers', puts_defers])
  by_cases ht : dstOf ops j = some t
  · rw [puts_get ht hsj n hj (fun i h1 h2 => q.dist j i h1 h2 t ht), ht, put_get_eq, puts_size]
  · rw [put_get_ne _ _ _ _ ht]
    refine puts_agree q fun i hi hti => same i fun e => ht (by rw [← e]; exact hti)

/-- The lexical walk: what each operation yields. -/
def seqA (ops : Array Oper) (V : Nat → Value) : Nat → Nat → Act → Act
  | _, 0, a => a
  | k, j + 1, a => seqA ops V (k + 1) j (a.put (dstOf ops k) (V k))
theorem seqA_congr {V V' : Nat → Value} : ∀ (j k : Nat) (a : Act), (∀ i, k ≤ i → i < k + j → V i = V' i) → seqA ops V k j a = seqA ops V' k j a
  | 0, _, _, _ => rfl
  | j + 1, k, a, h => by
    unfold seqA
    rw [h k (Nat.le_refl _) (by omega)]
    exact seqA_congr j (k + 1) _ fun i h1 h2 => h i (by omega) (by omega)
theorem seqA_snoc : ∀ (j k : Nat) (a : Act), seqA ops V k (j + 1) a = (seqA ops V k j a).put (dstOf ops (k + j)) (V (k + j))
  | 0, _, _ => rfl
  | j + 1, k, a => by
    show seqA ops V (k + 1) (j + 1) _ = (seqA ops V (k + 1) j _).put _ _
    rw [seqA_snoc j (k + 1), show k + 1 + j = k + (j + 1) by omega]
theorem seqA_puts (j : Nat) (a : Act) : seqA ops V 0 j a = puts ops V (fun _ => true) j a := by
  induction j with
  | zero => rfl
  | succ j ih => rw [seqA_snoc, ih]; simp [puts]
theorem lexV {K : Act → Prop} : ∀ (l : List Oper) (k : Nat) (a : Act), (∀ j, j < l.length → l[j]? = ops[k + j]?) → wpQuiet P ops C K l a →
    ∃ V : Nat → Value, (∀ j, j < l.length → ∃ o, ops[k + j]? = some o ∧ YieldsIn P ops C o (V (k + j)) (seqA ops V k j a)) ∧ K (seqA ops V k l.length a)
  | [], k, a, _, h => ⟨fun _ => undef, fun j hj => absurd hj (Nat.not_lt_zero _), h⟩
  | o :: l, k, a, hl, h => by
    have h0 : ops[k]? = some o := by simpa using (hl 0 (by simp)).symm
    have hq : qOp P ops C k (wpQuiet P ops C K l) a := by unfold qOp; simp only [h0]; exact h
    obtain ⟨v, hy, hK⟩ := yieldsIn_of_qOp h0 hq
    obtain ⟨V, hV, hKV⟩ := lexV l (k + 1) (a.put o.dst v) (fun j hj => by
      have := hl (j + 1) (by simp; omega)
      simpa [Nat.add_assoc, Nat.add_comm 1 j] using this) hK
    have hdst : dstOf ops k = o.dst := by simp [dstOf, h0]
    refine ⟨fun i => if i = k then v else V i, ?_, ?_⟩
    · intro j hj
      cases j with
      | zero => exact ⟨o, h0, by simpa [seqA] using hy⟩
      | succ j =>
        obtain ⟨o', ho', hy'⟩ := hV j (by simp at hj; omega)
        refine ⟨o', by rw [show k + (j + 1) = k + 1 + j by omega]; exact ho', ?_⟩
        have e : seqA ops (fun i => if i = k then v else V i) k (j + 1) a = seqA ops V (k + 1) j (a.put o.dst v) := by
          show seqA ops _ (k + 1) j (a.put (dstOf ops k) _) = _
          rw [hdst]
          simp only [if_true]
          exact seqA_congr j (k + 1) _ fun i h1 _ => by simp [show i ≠ k by omega]
        rw [e]
        have e2 : (fun i => if i = k then v else V i) (k + (j + 1)) = V (k + 1 + j) := by
          simp only [show k + (j + 1) ≠ k by omega, if_false]
          rw [show k + (j + 1) = k + 1 + j by omega]
        rw [e2]
        exact hy'
    · have e : seqA ops (fun i => if i = k then v else V i) k (l.length + 1) a = seqA ops V (k + 1) l.length (a.put o.dst v) := by
        show seqA ops _ (k + 1) l.length (a.put (dstOf ops k) _) = _
        rw [hdst]
        simp only [if_true]
        exact seqA_congr _ (k + 1) _ fun i h1 _ => by simp [show i ≠ k by omega]
      show K (seqA ops _ k (l.length + 1) a)
      rw [e]
      exact hKV

theorem getD_eval {x y : Act} {t : Nat} (h : x.tmps[t]? = y.tmps[t]?) : x.eval (.tmp t) = y.eval (.tmp t) := by
  simp [Act.eval, Array.getD_eq_getD_getElem?, h]
theorem exec_agree (o : Oper) (hs : ∀ cs b, o.op ≠ .select cs b) {x y : Act} (h : ∀ t, t ∈ o.looksAt ops → x.tmps[t]? = y.tmps[t]?) :
    execOp x.eval o = execOp y.eval o ∧ Region.wanted o (yielded ops x.tmps) = Region.wanted o (yielded ops y.tmps) := by
  constructor
  · refine execOp_congr o hs fun z hz => ?_
    cases z with
    | tmp t => exact getD_eval (h t (List.mem_append_left _ (List.mem_filterMap.2 ⟨.tmp t, by simpa using hz, rfl⟩)))
    | _ => rfl
  · unfold Region.wanted
    cases hg : o.guard with
    | none => rfl
    | some gw =>
      obtain ⟨g, want⟩ := gw
      have : yielded ops x.tmps g = yielded ops y.tmps g := by
        unfold yielded
        cases ht : (ops[g]?).bind (·.dst) with
        | none => rfl
        | some t =>
          have := h t (by simp [Oper.looksAt, hg, ht])
          simp only [Option.bind_some, this]
      simp only [this]

def listedF (listed : Array Bool) (i : Nat) : Bool := listed.getD i false

/-- What holds on the way: the quiet head is not through yet; or it is, and the tail stands at its m-th operation. -/
def InvT (P : Program) (ops : Array Oper) (C : World → Prop) (V : Nat → Value) (n : Nat) (Q : Exit → Act → World → Prop) (a : Act) (listed : Array Bool) (b : Act) (w : World) : Prop :=
  (C w ∧ b = puts ops V (listedF listed) n a ∧ (∃ i, i < n ∧ listedF listed i = false) ∧ ∀ i, n ≤ i → listedF listed i = false) ∨
  (∃ m, n ≤ m ∧ m ≤ ops.size ∧ (∀ i, i < m → listedF listed i = true) ∧ (∀ i, m ≤ i → listedF listed i = false) ∧ wpList P ops Q (ops.toList.drop m) b w)

theorem invT_of (q : QT ops n anc) {Q : Exit → Act → World → Prop} {a : Act}
    (hK : ∀ w', C w' → wpList P ops Q (ops.toList.drop n) (puts ops V (fun _ => true) n a) w') {listed : Array Bool} {b : Act} {w : World}
    (hC : C w) (hb : b = puts ops V (listedF listed) n a) (ht : ∀ i, n ≤ i → listedF listed i = false) : InvT P ops C V n Q a listed b w := by
  by_cases hex : ∃ i, i < n ∧ listedF listed i = false
  · exact .inl ⟨hC, hb, hex, ht⟩
  · have hall : ∀ i, i < n → listedF listed i = true := fun i hi => by
      cases h : listedF listed i with
      | true => rfl
      | false => exact absurd ⟨i, hi, h⟩ hex
    refine .inr ⟨n, Nat.le_refl _, q.le, hall, ht, ?_⟩
    have : b = puts ops V (fun _ => true) n a := by
      rw [hb]
      refine act_ext (fun t => puts_agree q fun i hi _ => hall i hi) (by rw [puts_defers, puts_defers])
    rw [this]
    exact hK w hC

theorem listedF_set {listed : Array Bool} {i : Nat} (hi : i < listed.size) (j : Nat) : listedF (listed.setIfInBounds i true) j = (listedF listed j || decide (j = i)) := by
  by_cases h : j = i
  · subst h; simp [listedF, hi]
  · have : i ≠ j := fun e => h e.symm
    simp [listedF, Array.getElem?_setIfInBounds_ne this, h]

theorem any_of_qtail (q : QT ops n anc) {Q : Exit → Act → World → Prop} {a : Act}
    (hV : ∀ j, j < n → ∃ o, ops[j]? = some o ∧ YieldsIn P ops C o (V j) (puts ops V (fun i => decide (i < j)) n a))
    (hK : ∀ w', C w' → wpList P ops Q (ops.toList.drop n) (puts ops V (fun _ => true) n a) w') :
    ∀ (fuel : Nat) (listed : Array Bool) (U : List Nat) (b : Act) (w : World), listed.size = ops.size → U.length ≤ fuel → (∀ j, j < ops.size → listedF listed j = false → j ∈ U) → Closed ops (listedF listed) →
      InvT P ops C V n Q a listed b w → wpAny P .any ops Q fuel listed b w := by
  have unl : ∀ {listed : Array Bool} {j : Nat}, listed.size = ops.size → j < ops.size → listedF listed j = false → listed.getD j true = false := fun hsz hj h => by
    simp [listedF, hsz, hj] at h ⊢; exact h
  have lst : ∀ {listed : Array Bool} {j : Nat}, listed.getD j true = false → listedF listed j = false ∧ j < listed.size := fun {listed j} h => by
    rcases Nat.lt_or_ge j listed.size with h' | h'
    · exact ⟨by simp [listedF, h'] at h ⊢; exact h, h'⟩
    · simp [Array.getElem?_eq_none h'] at h
  have ready_of_none : ∀ {listed : Array Bool}, listed.size = ops.size → Region.ready .any ops listed = [] → ∀ d j, j ≤ d → j < ops.size → listedF listed j = true := by
    intro listed hsz h0 d
    induction d with
    | zero =>
      intro j hd hj
      cases hl : listedF listed j with
      | true => rfl
      | false =>
        have : j ∈ Region.ready .any ops listed := mem_ready.2 ⟨unl hsz hj hl, ops[j], by simp [hj], fun e he hb => by
          have := q.lex j ops[j] (by simp [hj]) e he hb
          omega⟩
        rw [h0] at this; cases this
    | succ d ih =>
      intro j hd hj
      cases hl : listedF listed j with
      | true => rfl
      | false =>
        have : j ∈ Region.ready .any ops listed := mem_ready.2 ⟨unl hsz hj hl, ops[j], by simp [hj], fun e he hb => by
          have := q.lex j ops[j] (by simp [hj]) e he hb
          exact ih e.on (by omega) (by omega)⟩
        rw [h0] at this; cases this
  have fin : ∀ {listed : Array Bool} {b : Act} {w : World}, (∀ j, j < ops.size → listedF listed j = true) → InvT P ops C V n Q a listed b w → Q .normal b w := by
    intro listed b w hall h
    rcases h with ⟨_, _, ⟨i, hi, hf⟩, _⟩ | ⟨m, h1, h2, h3, h4, h5⟩
    · rw [hall i (by have := q.le; omega)] at hf; cases hf
    · have hm : m = ops.size := by
        rcases Nat.lt_or_ge m ops.size with h | h
        · have h' := hall m h
          rw [h4 m (Nat.le_refl _)] at h'; cases h'
        · omega
      have hd : ops.toList.drop m = [] := List.drop_eq_nil_of_le (by rw [hm]; simp)
      rw [hd] at h5
      exact h5
  intro fuel
  induction fuel with
  | zero =>
    intro listed U b w hsz hU hmem hcl h
    have hall : ∀ j, j < ops.size → listedF listed j = true := fun j hj => by
      cases hl : listedF listed j with
      | true => rfl
      | false =>
        have h1 := hmem j hj hl
        have h2 : U = [] := List.eq_nil_of_length_eq_zero (by omega)
        rw [h2] at h1; cases h1
    refine ⟨?_, fin hall h⟩
    cases hr : Region.ready .any ops listed with
    | nil => rfl
    | cons x xs =>
      have hx : x ∈ Region.ready .any ops listed := by rw [hr]; exact List.mem_cons_self
      obtain ⟨hun, o, ho, _⟩ := mem_ready.1 hx
      have := hall x (Array.getElem?_eq_some_iff.1 ho).1
      rw [(lst hun).1] at this; cases this
  | succ fuel ih =>
    intro listed U b w hsz hU hmem hcl h
    refine ⟨fun h0 => fin (fun j hj => ready_of_none hsz h0 j j (Nat.le_refl _) hj) h, fun i hi => ?_⟩
    obtain ⟨hun, o, ho, hall⟩ := mem_ready.1 hi
    have hif := (lst hun).1
    have hil : i < listed.size := (lst hun).2
    have his : i < ops.size := (Array.getElem?_eq_some_iff.1 ho).1
    have hsz' : (listed.setIfInBounds i true).size = ops.size := by simp [hsz]
    have hset := fun j => listedF_set hil j
    have hU' : (U.erase i).length ≤ fuel := by
      have := List.length_erase_of_mem (hmem i his hif)
      have : 0 < U.length := List.length_pos_of_mem (hmem i his hif)
      omega
    have hmem' : ∀ j, j < ops.size → listedF (listed.setIfInBounds i true) j = false → j ∈ U.erase i := fun j hj hl => by
      rw [hset j] at hl
      simp only [Bool.or_eq_false_iff, decide_eq_false_iff_not] at hl
      exact (List.mem_erase_of_ne hl.2).2 (hmem j hj hl.1)
    have hcl' : Closed ops (listedF (listed.setIfInBounds i true)) := fun j oj hoj hl e he hb => by
      rw [hset] at hl ⊢
      by_cases hji : j = i
      · subst hji
        have : oj = o := Option.some.inj (hoj.symm.trans ho)
        subst this
        have := hall e he hb
        simp [listedF, this]
      · have hl' : listedF listed j = true := by simpa [hji] using hl
        have := hcl j oj hoj hl' e he hb
        simp [this]
    rcases h with ⟨hC, hb, ⟨i0, hi0, hf0⟩, htl⟩ | ⟨m, h1, h2, h3, h4, h5⟩
    · -- the quiet head
      have hin : i < n := by
        rcases Nat.lt_or_ge i n with h | h
        · exact h
        · have := anc_ready q hcl ho hall (i := i0) (by have := q.le; omega) (q.tail i i0 h his (by omega))
          rw [hf0] at this; cases this
      obtain ⟨o', ho', hy⟩ := hV i hin
      have : o' = o := Option.some.inj (ho'.symm.trans ho)
      subst this
      have hag : ∀ t, t ∈ o'.looksAt ops → b.tmps[t]? = (puts ops V (fun k => decide (k < i)) n a).tmps[t]? := fun t ht => by
        rw [hb]
        refine puts_agree q fun k hk hkt => ?_
        by_cases hki : k = i
        · subst hki; rw [hif]; simp
        · obtain ⟨r1, r2⟩ := q.reads k i o' t hk hin hki ho hkt ht
          by_cases hlt : k < i
          · have := anc_ready q hcl ho hall (i := k) (by omega) (r1 hlt)
            rw [this]; simp [hlt]
          · have hgt : i < k := by omega
            have ha := r2 hgt
            cases hk1 : listedF listed k with
            | false => simp [hlt]
            | true =>
              have := anc_closed q hcl k k i (Nat.le_refl _) (by have := q.le; omega) his ha hk1
              rw [hif] at this; cases this
      obtain ⟨e1, e2⟩ := exec_agree o' (fun cs b => q.nosel i o' cs b ho) hag
      have hy' : YieldsIn P ops C o' (V i) b := hy.of_same e1 e2
      refine wpOp_of_qOp (K := fun b' => b' = b.put o'.dst (V i)) hC ?_ (hy'.qOp ho rfl)
      intro b' w' hC' hb'
      have hd : dstOf ops i = o'.dst := by simp [dstOf, ho]
      refine ih _ (U.erase i) b' w' hsz' hU' hmem' hcl' (invT_of q hK hC' ?_ ?_)
      · rw [hb', hb, ← hd]
        exact (puts_add q hin hif fun j => hset j).symm
      · intro j hj
        rw [hset, htl j hj]
        simp; omega
    · -- the tail
      have him : i = m := by
        rcases Nat.lt_trichotomy i m with h | h | h
        · rw [h3 i h] at hif; cases hif
        · exact h
        · have := anc_ready q hcl ho hall (i := m) (by omega) (q.tail i m (by omega) his h)
          rw [h4 m (Nat.le_refl _)] at this; cases this
      subst him
      have hdrop : ops.toList.drop i = o :: ops.toList.drop (i + 1) := by
        have : i < ops.toList.length := by simpa using his
        rw [List.drop_eq_getElem_cons this]
        congr 1
        have := Array.getElem?_eq_some_iff.1 ho
        obtain ⟨hh, h⟩ := this
        simpa using h
      rw [hdrop] at h5
      have key : wpOp P ops Q i (wpList P ops Q (ops.toList.drop (i + 1))) b w := by
        unfold wpOp
        simp only [ho]
        exact h5
      refine wpOp_mono (fun b' w' h => ?_) key
      refine ih _ (U.erase i) b' w' hsz' hU' hmem' hcl' (.inr ⟨i + 1, by omega, by omega, ?_, ?_, h⟩)
      · intro j hj
        rw [hset]
        by_cases h : j = i
        · simp [h]
        · rw [h3 j (by omega)]; rfl
      · intro j hj
        rw [hset, h4 j (by omega)]
        simp; omega

theorem repF (m j : Nat) : listedF (Array.replicate m false) j = false := by
  rcases Nat.lt_or_ge j m with h | h
  · simp [listedF, h]
  · simp [listedF, h]

/-- **A REGION WHOSE ORDER IS OPEN**: n quiet operations, walked in their lexical order; then operations that wait for all ahead of them. -/
theorem wp_region_qtail {id : Nat} {Q : Exit → Act → World → Prop} {a : Act} {w : World} {l : List Oper} (n : Nat) (hm : P.follows .mixedOrders = true) (hB : qtailB l.toArray n = true)
    (hC : C { w with drawn := w.drawn + 1 })
    (h : wpQuiet P l.toArray C (fun a' => ∀ w', C w' → wpList P l.toArray Q (l.drop n) a' w') (l.take n) a) : (Code.region id l.toArray true).wp P Q a w := by
  have q := qt_of hB
  have hn : n ≤ l.length := by simpa using q.le
  obtain ⟨V, hV, hK⟩ := lexV (l.take n) 0 a (fun j hj => by
    have hj' : j < n := by simp at hj; omega
    simp [hj']) h
  have hlen : (l.take n).length = n := by simp [hn]
  rw [hlen] at hV hK
  refine wp_region_any hm ?_
  refine any_of_qtail (C := C) (V := V) (a := a) q ?_ ?_ l.toArray.size (Array.replicate l.toArray.size false) (List.range l.toArray.size) a _ (by simp) (by simp) (fun j hj _ => List.mem_range.2 hj) ?_ ?_
  · intro j hj
    obtain ⟨o, ho, hy⟩ := hV j hj
    rw [Nat.zero_add] at ho hy
    refine ⟨o, ho, ?_⟩
    have e : seqA l.toArray V 0 j a = puts l.toArray V (fun i => decide (i < j)) n a := by
      rw [seqA_puts]
      have : ∀ k, j ≤ k → puts l.toArray V (fun i => decide (i < j)) k a = puts l.toArray V (fun _ => true) j a := by
        intro k hk
        induction k with
        | zero => have : j = 0 := by omega
                  subst this; rfl
        | succ k ihk =>
          by_cases h : j = k + 1
          · subst h
            clear ihk
            have : ∀ m, m ≤ k + 1 → puts l.toArray V (fun i => decide (i < k + 1)) m a = puts l.toArray V (fun _ => true) m a := by
              intro m hm
              induction m with
              | zero => rfl
              | succ m ihm => simp only [puts]; rw [ihm (by omega)]; simp [show m < k + 1 by omega]
            exact this _ (Nat.le_refl _)
          · simp only [puts]
            rw [ihk (by omega)]
            simp [show ¬ k < j by omega]
      exact (this n (by omega)).symm
    rw [← e]
    exact hy
  · intro w' hw'
    rw [seqA_puts] at hK
    simpa using hK w' hw'
  · intro j o ho hl
    rw [repF] at hl; cases hl
  · refine invT_of q (fun w' hw' => by rw [seqA_puts] at hK; simpa using hK w' hw') hC ?_ ?_
    · have : ∀ m, puts l.toArray V (listedF (Array.replicate l.toArray.size false)) m a = a := by
        intro m
        induction m with
        | zero => rfl
        | succ m ih => simp only [puts]; rw [ih, repF]; rfl
      exact (this n).symm
    · intro i _
      exact repF _ i
end
end Go.Proofs.YtdcnpkbflelpfaaDoor.Sx
