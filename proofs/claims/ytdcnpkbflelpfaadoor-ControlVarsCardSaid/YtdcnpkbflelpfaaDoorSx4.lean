/- The rules of operations that read and write memory. -/
import Derived.Test.YtdcnpkbflelpfaaDoorSx3
namespace Go.Proofs.YtdcnpkbflelpfaaDoor.Sx
open Go Go.RowKit

theorem add_off (b off n : Nat) : (⟨b, off, none⟩ : Addr).add n = ⟨b, off + n, none⟩ := by
  unfold Addr.add
  split
  · rename_i h; simp
  · rfl
theorem Fld.get {P s f off size ft} (h : Fld P s f off size ft) : ∃ fs fld i, P.underlying s = some (.struct fs) ∧ fs[f]? = some fld ∧ fld.offset = off ∧ fld.type = ft ∧ P.info? ft = some i ∧ i.size = size := by
  have ho := h.out
  have hz := h.sz
  cases hun : P.underlying s with
  | none => rw [hun] at ho; cases ho
  | some D =>
    rw [hun] at ho
    cases D <;> simp only [reduceCtorEq] at ho
    rename_i fs
    cases hfs : fs[f]? with
    | none => rw [hfs] at ho; cases ho
    | some fld =>
      rw [hfs] at ho
      simp only [Option.map_some, Option.some.injEq, Prod.mk.injEq] at ho
      cases hi : P.info? ft with
      | none => rw [hi] at hz; cases hz
      | some i =>
        rw [hi] at hz
        simp only [Option.map_some, Option.some.injEq] at hz
        exact ⟨fs, fld, i, rfl, hfs, ho.1, ho.2, rfl, hz⟩

/-! ### The heap, turned -/
theorem HpRel.set {ρ Z F S w w'} (h : HpRel ρ Z F S w) {i : Nat} {b b' : Blk} {g : Geo} (hi : S.get i = some b) (hg : ρ i = some g) (hb : BlkRel ρ Z g b' w') (h0 : g.sol) (ho : ∀ k, k ≠ g.blk → w'.heap[k]? = w.heap[k]?) : HpRel ρ Z F (S.put i b') w' := by
  have old : ∀ j c, (S.put i b').get j = some c → (i = j ∧ c = b') ∨ (i ≠ j ∧ S.get j = some c) := fun j c hc => by
    rw [Hp.get_put] at hc
    split at hc
    · rename_i e; exact .inl ⟨e, (Option.some.inj hc).symm⟩
    · rename_i e; exact .inr ⟨e, hc⟩
  have was : ∀ j c, (S.put i b').get j = some c → ∃ c', S.get j = some c' := fun j c hc => by
    rcases old j c hc with ⟨rfl, _⟩ | ⟨_, h⟩
    · exact ⟨b, hi⟩
    · exact ⟨c, h⟩
  refine ⟨fun j c hc => ?_, fun j k cj ck gj gk hj hk => ?_, fun j c gj hj => ?_, fun j c gj hj => ?_, fun bb o hz => ?_, fun bb o hz => ?_, h.fresh, h.disj, h.anch, h.pin⟩
  · rcases old j c hc with ⟨rfl, rfl⟩ | ⟨hne, hc'⟩
    · exact ⟨g, hg, hb⟩
    · obtain ⟨gj, hgj, h1⟩ := h.live j c hc'
      exact ⟨gj, hgj, h1.imp (fun cur hp h1 => (ho _ fun e => hne (h.inj i j b c g gj hi hc' hg hgj h0 hp e.symm)).trans h1) (.refl _) (.refl _)⟩
  · obtain ⟨c1, h1⟩ := was j cj hj
    obtain ⟨c2, h2⟩ := was k ck hk
    exact h.inj j k c1 c2 gj gk h1 h2
  · obtain ⟨c1, h1⟩ := was j c hj
    exact h.offZ j c1 gj h1
  · obtain ⟨c1, h1⟩ := was j c hj
    exact h.offF j c1 gj h1
  · exact (ho _ fun e => by have := h.offZ i b g hi hg h0; rw [← e, hz] at this; cases this).trans (h.fixZ bb o hz)
  · exact (ho _ fun e => by have := h.offF i b g hi hg h0; rw [← e, hz] at this; cases this).trans (h.fixF bb o hz)

def upd (ρ : Nat → Option Geo) (i : Nat) (g : Geo) : Nat → Option Geo := fun j => if i = j then some g else ρ j
theorem upd_le {ρ : Nat → Option Geo} {i : Nat} {g : Geo} (h : ρ i = none) : Le ρ (upd ρ i g) := fun j x e => by
  unfold upd
  split
  · rename_i e'; subst e'; rw [h] at e; cases e
  · exact e
theorem HpRel.lt {ρ Z F S w} (h : HpRel ρ Z F S w) {i : Nat} {b : Blk} {g : Geo} (hi : S.get i = some b) (hg : ρ i = some g) (h0 : g.sol) : g.blk < w.heap.size := by
  obtain ⟨o, h1⟩ := h.objAt hi hg h0
  exact (Array.getElem?_eq_some_iff.1 h1).1
theorem HpRel.lt_nxt {ρ Z F S w} (h : HpRel ρ Z F S w) {i : Nat} {b : Blk} (hi : S.get i = some b) : i < S.nxt := by
  obtain ⟨g', hg', _⟩ := h.live i b hi
  rcases Nat.lt_or_ge i S.nxt with h' | h'
  · exact h'
  · rw [h.fresh i h'] at hg'; cases hg'
/-- A new block. -/
theorem HpRel.grow {ρ Z F S w w'} (h : HpRel ρ Z F S w) {b : Blk} {g : Geo} (hn : g.sol → w.heap.size ≤ g.blk) (hb : BlkRel (upd ρ S.nxt g) Z g b w') (ho : ∀ k, k < w.heap.size → w'.heap[k]? = w.heap[k]?) : HpRel (upd ρ S.nxt g) Z F (S.new b) w' := by
  have hf : ρ S.nxt = none := h.fresh _ (Nat.le_refl _)
  have old : ∀ j c, (S.new b).get j = some c → (S.nxt = j ∧ c = b) ∨ (S.nxt ≠ j ∧ S.get j = some c) := fun j c hc => by
    rw [Hp.get_new] at hc
    split at hc
    · rename_i e; exact .inl ⟨e, (Option.some.inj hc).symm⟩
    · rename_i e; exact .inr ⟨e, hc⟩
  have up : ∀ j, S.nxt ≠ j → upd ρ S.nxt g j = ρ j := fun j hj => by unfold upd; rw [if_neg hj]
  have same : upd ρ S.nxt g S.nxt = some g := by unfold upd; rw [if_pos rfl]
  have lt : ∀ k (o : Obj), w.heap[k]? = some o → k < w.heap.size := fun k o h => (Array.getElem?_eq_some_iff.1 h).1
  refine ⟨fun j c hc => ?_, fun j k cj ck gj gk hj hk hgj hgk p0 p1 e => ?_, fun j c gj hj hgj p0 => ?_, fun j c gj hj hgj p0 => ?_, fun bb o hz => ?_, fun bb o hz => ?_, fun i hi => ?_, h.disj, fun i x e => upd_le hf i x (h.anch i x e), h.pin⟩
  · rcases old j c hc with ⟨rfl, rfl⟩ | ⟨hne, hc'⟩
    · exact ⟨g, same, hb⟩
    · obtain ⟨gj, hgj, h1⟩ := h.live j c hc'
      exact ⟨gj, (up j hne).trans hgj, h1.imp (fun cur hp h1 => (ho _ (lt _ _ h1)).trans h1) (upd_le hf) (.refl _)⟩
  · rcases old j cj hj with ⟨rfl, rfl⟩ | ⟨hnj, hj'⟩ <;> rcases old k ck hk with ⟨rfl, rfl⟩ | ⟨hnk, hk'⟩
    · rfl
    · rw [same] at hgj; cases hgj
      rw [up k hnk] at hgk
      have := h.lt hk' hgk p1
      have := hn p0
      omega
    · rw [same] at hgk; cases hgk
      rw [up j hnj] at hgj
      have := h.lt hj' hgj p0
      have := hn p1
      omega
    · rw [up j hnj] at hgj
      rw [up k hnk] at hgk
      exact h.inj j k cj ck gj gk hj' hk' hgj hgk p0 p1 e
  · rcases old j c hj with ⟨rfl, rfl⟩ | ⟨hne, hj'⟩
    · rw [same] at hgj; cases hgj
      cases hz : Z g.blk with
      | none => rfl
      | some o => have := lt _ _ (h.fixZ _ _ hz); have := hn p0; omega
    · rw [up j hne] at hgj; exact h.offZ j c gj hj' hgj p0
  · rcases old j c hj with ⟨rfl, rfl⟩ | ⟨hne, hj'⟩
    · rw [same] at hgj; cases hgj
      cases hz : F.F g.blk with
      | none => rfl
      | some o => have := lt _ _ (h.fixF _ _ hz); have := hn p0; omega
    · rw [up j hne] at hgj; exact h.offF j c gj hj' hgj p0
  · exact (ho _ (lt _ _ (h.fixZ bb o hz))).trans (h.fixZ bb o hz)
  · exact (ho _ (lt _ _ (h.fixF bb o hz))).trans (h.fixF bb o hz)
  · have hi' : S.nxt + 1 ≤ i := hi
    rw [up i (by omega)]
    exact h.fresh i (by omega)
theorem HpRel.kill {ρ Z F S w} (h : HpRel ρ Z F S w) (i : Nat) : HpRel ρ Z F (S.kill i) w := by
  have was : ∀ j c, (S.kill i).get j = some c → S.get j = some c := fun j c hc => by
    rw [Hp.get_kill] at hc
    split at hc
    · cases hc
    · exact hc
  exact ⟨fun j c hc => h.live j c (was j c hc), fun j k cj ck gj gk hj hk => h.inj j k cj ck gj gk (was _ _ hj) (was _ _ hk), fun j c gj hj => h.offZ j c gj (was _ _ hj), fun j c gj hj => h.offF j c gj (was _ _ hj), h.fixZ, h.fixF, h.fresh, h.disj, h.anch, h.pin⟩

/-! ### One cell -/
def AV.one : AV → Bool
  | .sc v => v.oneCell'
  | .ptr _ _ | .sl _ _ _ | .vptr _ _ | .vsl _ _ _ _ | .fn _ _ | .ifc _ _ | .opq | .mp _ | .it _ => true
  | _ => false
theorem one_of {ρ : Nat → Option Geo} {Z : Nat → Option Obj} {v : AV} {u : Value} (h : Rel ρ Z v u) (h1 : v.one = true) : u.oneCell' = true := by
  cases v with
  | sc v => have e : u = v := h; rw [e]; exact h1
  | ptr _ _ => obtain ⟨g, _, _, e⟩ := h; rw [e]; rfl
  | sl _ _ _ => obtain ⟨g, A, _, e, _⟩ := h; rw [e]; rfl
  | vptr _ _ => obtain ⟨b, q, c, e, fr, h, _⟩ := h; rw [h]; rfl
  | vsl _ _ _ _ => obtain ⟨A, cap, h, _⟩ := h; rw [h]; rfl
  | fn _ _ => obtain ⟨vs, h, _⟩ := h; rw [h]; rfl
  | ifc _ _ => obtain ⟨x, h, _⟩ := h; rw [h]; rfl
  | opq => exact h
  | mp _ => obtain ⟨g, _, _, _, e⟩ := h; rw [e]; rfl
  | it _ => obtain ⟨g, _, _, _, e⟩ := h; rw [e]; rfl
  | _ => cases h1
theorem cells_one {u : Value} (h : u.oneCell' = true) : u.cells = #[u] := by cases u <;> first | rfl | cases h
def AV.cells : AV → List AV
  | .agg cs => cs
  | v => [v]
def AV.solid : AV → Bool
  | .agg cs => cs.all AV.one
  | v => v.one
theorem cells_rel {ρ : Nat → Option Geo} {Z : Nat → Option Obj} {v : AV} {u : Value} (h : Rel ρ Z v u) (h1 : v.solid = true) : RelP ρ Z v.cells u.cells.toList ∧ u.cells.size = v.cells.length := by
  cases v with
  | agg cs => obtain ⟨vs, e, hs, hp⟩ := h; subst e; exact ⟨hp, hs⟩
  | junk => cases h1
  | tup _ => cases h1
  | _ => have := one_of h h1; rw [cells_one this]; exact ⟨⟨h, trivial⟩, rfl⟩
theorem all_one {ρ : Nat → Option Geo} {Z : Nat → Option Obj} : ∀ {as : List AV} {us : List Value}, RelP ρ Z as us → us.length = as.length → as.all AV.one = true → ∀ u ∈ us, u.oneCell' = true
  | [], [], _, _, _, u, hu => by cases hu
  | [], _ :: _, _, hl, _, _, _ => by simp at hl
  | a :: as, v :: us, ⟨h1, h2⟩, hl, ho, u, hu => by
    simp only [List.all_cons, Bool.and_eq_true] at ho
    cases hu with
    | head => exact one_of h1 ho.1
    | tail _ hm => exact all_one h2 (by simpa using hl) ho.2 u hm
  | _ :: _, [], h, _, _, _, _ => h.elim
theorem cells_all_one {ρ : Nat → Option Geo} {Z : Nat → Option Obj} {v : AV} {u : Value} (h : Rel ρ Z v u) (h1 : v.solid = true) : ∀ x ∈ u.cells.toList, x.oneCell' = true := by
  have hc := cells_rel h h1
  refine all_one hc.1 (by simpa using hc.2) ?_
  cases v <;> first | exact h1 | (simp only [AV.cells, List.all_cons, List.all_nil, Bool.and_true]; exact h1)

section
variable {P : Program} {N : Sg} {σ : St} {d : Option Tmp} {ty : TypeId} {pos : String} {af : Array Edge} {gd : Option (Nat × Bool)} {K : St → Prop}

theorem y_nil_ptr {x : Operand} {i off : Nat} (hx : σ.ev x = .ptr i off) : Yld P N ⟨d, .nilCheck x, ty, pos, af, gd⟩ σ (.ptr i off) :=
  yld_pure fun ρ Z F a w hr => by
    have := hr.ev x
    rw [hx] at this
    obtain ⟨g, hg, g0, e⟩ := this
    exact ⟨_, ⟨g, hg, g0, rfl⟩, fun w' => by simp [execOp, e]⟩
theorem y_nil_vptr {x : Operand} {cs : List AV} {off : Nat} (hx : σ.ev x = .vptr cs off) : Yld P N ⟨d, .nilCheck x, ty, pos, af, gd⟩ σ (.vptr cs off) :=
  yld_pure fun ρ Z F a w hr => by
    have := hr.ev x
    rw [hx] at this
    have h' := this
    obtain ⟨b, q, c, e, fr, h1, h2⟩ := this
    exact ⟨_, by rw [h1] at h'; exact h', fun w' => by simp [execOp, h1]⟩
theorem run_fieldAt {s : TypeId} {f off size : Nat} {ft : TypeId} (hf : Fld P s f off size ft) (h0 : size ≠ 0) (b o : Nat) (w : World) : (Instr.fieldAt s (.pointer (some ⟨b, o, none⟩)) f).run P w = .ok (.pointer (some ⟨b, o + off, none⟩)) w := by
  obtain ⟨fs, fld, i, h1, h2, h3, h4, h5, h6⟩ := hf.get
  subst h4
  simp [Instr.fieldAt, run_underlying h1, h2, Instr.sureAddr, fieldPlace, run_sizeOf' h5, h6, h0, h3, add_off]
theorem y_fld_ptr {s : TypeId} {x : Operand} {f i o off size : Nat} {ft : TypeId} [hf : Fld P s f off size ft] (hx : σ.ev x = .ptr i o) (h0 : Nat.beq size 0 = false) : Yld P N ⟨d, .fieldAddr s x f, ty, pos, af, gd⟩ σ (.ptr i (o + off)) :=
  yld_pure fun ρ Z F a w hr => by
    have := hr.ev x
    rw [hx] at this
    obtain ⟨g, hg, g0, e⟩ := this
    exact ⟨_, ⟨g, hg, g0, rfl⟩, fun w' => by simp [execOp, e, run_fieldAt hf (Nat.ne_of_beq_eq_false h0)]⟩
theorem y_fld_vptr {s : TypeId} {x : Operand} {f o off size : Nat} {cs : List AV} {ft : TypeId} [hf : Fld P s f off size ft] (hx : σ.ev x = .vptr cs o) (h0 : Nat.beq size 0 = false) : Yld P N ⟨d, .fieldAddr s x f, ty, pos, af, gd⟩ σ (.vptr cs (o + off)) :=
  yld_pure fun ρ Z F a w hr => by
    have := hr.ev x
    rw [hx] at this
    obtain ⟨b, q, c, e, fr, h1, h2⟩ := this
    exact ⟨_, ⟨b, q, c, e, fr, rfl, h2⟩, fun w' => by simp [execOp, h1, run_fieldAt hf (Nat.ne_of_beq_eq_false h0), Nat.add_assoc]⟩
theorem run_indexAt_slice {t e : TypeId} {size : Nat} {I : TypeInfo} (ht : P.underlying t = some (.slice e)) (hi : P.info? e = some I) (hs : I.size = size) (b o len cap : Nat) (k : IntKind) (i : Int) (h0 : 0 ≤ i) (h1 : i < len) (w : World) :
    (Instr.indexAt t (.slice (some ⟨b, o, none⟩) len cap) (.int k i)).run P w = .ok (.pointer (some ⟨b, o + i.toNat * size, none⟩)) w := by
  simp [Instr.indexAt, asIntOf, run_underlying ht, h0, h1, run_sizeOf' hi, hs, add_off]
theorem y_ix_sl {t e : TypeId} {x y : Operand} {id o len size bytes : Nat} {zero : Value} {k : IntKind} {i : Int} {b : Blk} [ht : Und P t (.slice e)] [he : Inf P e size bytes zero] (hx : σ.ev x = .sl id o len) (hy : σ.ev y = .sc (.int k i)) (hb : σ.hp.get id = some b) (hz : b.esz = size) (h0 : 0 ≤ i) (h1 : i < len) :
    Yld P N ⟨d, .indexAddr t x y, ty, pos, af, gd⟩ σ (.ptr id ((o + i.toNat) * size)) :=
  yld_pure fun ρ Z F a w hr => by
    have := hr.ev x
    rw [hx] at this
    obtain ⟨g, A, hg, e1, hle, hA⟩ := this
    obtain ⟨I, hI, hIs, _, _⟩ := he.get
    have hesz := hr.hp.esz hb hg
    have hA' := hA (by omega)
    subst hA'
    refine ⟨_, ⟨g, hg, by omega, rfl⟩, fun w' => ?_⟩
    simp only [execOp, e1, ev_sc hr hy, Sem.run_bind, run_indexAt_slice ht.out hI hIs _ _ _ _ _ _ h0 h1, Result.andThen_ok]
    simp [hesz, hz, Nat.add_mul]
theorem y_ix_vsl {t e : TypeId} {x y : Operand} {cs : List AV} {esz o len size bytes : Nat} {zero : Value} {k : IntKind} {i : Int} [ht : Und P t (.slice e)] [he : Inf P e size bytes zero] (hx : σ.ev x = .vsl cs esz o len) (hy : σ.ev y = .sc (.int k i)) (hz : esz = size) (h0 : 0 ≤ i) (h1 : i < len) :
    Yld P N ⟨d, .indexAddr t x y, ty, pos, af, gd⟩ σ (.vptr cs ((o + i.toNat) * esz)) :=
  yld_pure fun ρ Z F a w hr => by
    have := hr.ev x
    rw [hx] at this
    obtain ⟨A, cap, e1, hle, hb, hA⟩ := this
    obtain ⟨I, hI, hIs, _, _⟩ := he.get
    obtain ⟨b, q, c, e', fr, hA', h2, h3⟩ := hA (by omega)
    subst hA'
    subst hz
    refine ⟨_, ⟨b, q, c, e', fr, rfl, h2, h3⟩, fun w' => ?_⟩
    simp only [execOp, e1, ev_sc hr hy, Sem.run_bind, run_indexAt_slice ht.out hI hIs _ _ _ _ _ _ h0 h1, Result.andThen_ok]
    simp [Nat.add_mul, Nat.add_assoc]
theorem y_ix_arr {t e : TypeId} {x y : Operand} {id off n size bytes : Nat} {zero : Value} {k : IntKind} {i : Int} [ht : Und P t (.array n e)] [he : Inf P e size bytes zero] (hx : σ.ev x = .ptr id off) (hy : σ.ev y = .sc (.int k i)) (h0 : 0 ≤ i) (h1 : i < n) :
    Yld P N ⟨d, .indexAddr t x y, ty, pos, af, gd⟩ σ (.ptr id (off + i.toNat * size)) :=
  yld_pure fun ρ Z F a w hr => by
    have := hr.ev x
    rw [hx] at this
    obtain ⟨g, hg, g0, e1⟩ := this
    obtain ⟨I, hI, hIs, _, _⟩ := he.get
    refine ⟨_, ⟨g, hg, g0, rfl⟩, fun w' => ?_⟩
    simp [execOp, e1, ev_sc hr hy, Instr.indexAt, asIntOf, run_underlying ht.out, Instr.sureAddr, h0, h1, run_sizeOf' hI, hIs, add_off]

theorem cell_of {w : World} {b i : Nat} {c : Array Value} {e : TypeId} {fr : Nat × Nat} (h : w.heap[b]? = some (.cells c e fr)) : w.cell? ⟨b, i, none⟩ = c[i]? := by simp [World.cell?, h]
theorem run_loadAt1 {t : TypeId} (ha : Agg P t false) {w : World} {b i : Nat} {c : Array Value} {e : TypeId} {fr : Nat × Nat} {u : Value} (h : w.heap[b]? = some (.cells c e fr)) (hu : c[i]? = some u) : (Instr.loadAt t (.pointer (some ⟨b, i, none⟩))).run P w = .ok u w := by
  simp [Instr.loadAt, Instr.sureAddr, loadVar, run_isAgg' ha, cell_of h, hu]
theorem run_loadAtA {t : TypeId} {size bytes : Nat} {zero : Value} (ha : Agg P t true) (hs : Inf P t size bytes zero) {w : World} {b i : Nat} {c : Array Value} {e : TypeId} {fr : Nat × Nat} (h : w.heap[b]? = some (.cells c e fr)) (hl : i + size ≤ c.size) :
    (Instr.loadAt t (.pointer (some ⟨b, i, none⟩))).run P w = .ok (.agg ((c.toList.drop i).take size).toArray) w := by
  obtain ⟨I, hI, hIs, _, _⟩ := hs.get
  have hlen : ((c.toList.drop i).take size).length = size := by simp; omega
  have := run_loadCells_list (P := P) (w := w) ⟨b, i, none⟩ ((c.toList.drop i).take size) (fun j v hj => by
    rw [add_off, cell_of h]
    rw [List.getElem?_take] at hj
    split at hj
    · simpa using hj
    · cases hj)
  rw [hlen] at this
  simp [Instr.loadAt, Instr.sureAddr, loadVar, run_isAgg' ha, run_sizeOf' hI, hIs, this]
theorem y_load1 {t : TypeId} {x : Operand} {id off : Nat} {b : Blk} {v : AV} [ha : Agg P t false] (hx : σ.ev x = .ptr id off) (hb : σ.hp.get id = some b) (hv : b.cells[off]? = some v) : Yld P N ⟨d, .load t x, ty, pos, af, gd⟩ σ v := fun ρ Z F a w hr => by
  have := hr.ev x
  rw [hx] at this
  obtain ⟨g, hg, g0, e⟩ := this
  obtain ⟨cur, h1, h2, h3, h4⟩ := hr.hp.liveAt hb hg g0
  obtain ⟨u, hu, hrel⟩ := h4.get hv
  have hu' : cur[off]? = some u := by simpa using hu
  have key : ∀ w', w'.heap[g.blk]? = w.heap[g.blk]? → (execOp a.eval ⟨d, .load t x, ty, pos, af, gd⟩).run P w' = .ok (.value u) w' := fun w' hw => by
    simp [execOp, e, run_loadAt1 ha (hw.trans h1) hu']
  exact ⟨u, hrel, key w rfl, fun w' hw => key w' (hw.block _ (Array.getElem?_eq_some_iff.1 h1).1)⟩
theorem y_loadA {t : TypeId} {x : Operand} {id off size bytes : Nat} {zero : Value} {b : Blk} [ha : Agg P t true] [hs : Inf P t size bytes zero] (hx : σ.ev x = .ptr id off) (hb : σ.hp.get id = some b) (hl0 : Nat.ble (off + size) b.cells.length = true) :
    Yld P N ⟨d, .load t x, ty, pos, af, gd⟩ σ (.agg ((b.cells.drop off).take size)) := fun ρ Z F a w hr => by
  have hl := Nat.le_of_ble_eq_true hl0
  have := hr.ev x
  rw [hx] at this
  obtain ⟨g, hg, g0, e⟩ := this
  obtain ⟨cur, h1, h2, h3, h4⟩ := hr.hp.liveAt hb hg g0
  have hlen := h4.length
  have key : ∀ w', w'.heap[g.blk]? = w.heap[g.blk]? → (execOp a.eval ⟨d, .load t x, ty, pos, af, gd⟩).run P w' = .ok (.value (.agg ((cur.toList.drop off).take size).toArray)) w' := fun w' hw => by
    simp [execOp, e, run_loadAtA ha hs (hw.trans h1) (by simp at hlen; omega : off + size ≤ cur.size)]
  refine ⟨_, ⟨_, rfl, ?_, ?_⟩, key w rfl, fun w' hw => key w' (hw.block _ (Array.getElem?_eq_some_iff.1 h1).1)⟩
  · simp at hlen ⊢; omega
  · simpa using (h4.drop off).take size
theorem y_vload1 {t : TypeId} {x : Operand} {cs : List AV} {off : Nat} {v : AV} [ha : Agg P t false] (hx : σ.ev x = .vptr cs off) (hv : cs[off]? = some v) : Yld P N ⟨d, .load t x, ty, pos, af, gd⟩ σ v := fun ρ Z F a w hr => by
  have := hr.ev x
  rw [hx] at this
  obtain ⟨b, q, c, e', fr, e, hz, hp⟩ := this
  obtain ⟨u, hu, hrel0⟩ := hp.get hv
  have hrel : Rel ρ Z v u := hrel0.mono (fun _ _ h => by cases h) (.refl _)
  have hu' : c[q + off]? = some u := by simpa using hu
  have h1 := hr.hp.fixZ b _ hz
  have key : ∀ w', w'.heap[b]? = w.heap[b]? → (execOp a.eval ⟨d, .load t x, ty, pos, af, gd⟩).run P w' = .ok (.value u) w' := fun w' hw => by
    simp [execOp, e, run_loadAt1 ha (hw.trans h1) hu']
  exact ⟨u, hrel, key w rfl, fun w' hw => key w' (hw.block _ (Array.getElem?_eq_some_iff.1 h1).1)⟩
theorem y_vloadA {t : TypeId} {x : Operand} {cs : List AV} {off size bytes : Nat} {zero : Value} [ha : Agg P t true] [hs : Inf P t size bytes zero] (hx : σ.ev x = .vptr cs off) (hl0 : Nat.ble (off + size) cs.length = true) :
    Yld P N ⟨d, .load t x, ty, pos, af, gd⟩ σ (.agg ((cs.drop off).take size)) := fun ρ Z F a w hr => by
  have hl := Nat.le_of_ble_eq_true hl0
  have := hr.ev x
  rw [hx] at this
  obtain ⟨b, q, c, e', fr, e, hz, hp⟩ := this
  have h1 := hr.hp.fixZ b _ hz
  have hlen := hp.length
  simp only [List.length_drop, Array.length_toList] at hlen
  have key : ∀ w', w'.heap[b]? = w.heap[b]? → (execOp a.eval ⟨d, .load t x, ty, pos, af, gd⟩).run P w' = .ok (.value (.agg ((c.toList.drop (q + off)).take size).toArray)) w' := fun w' hw => by
    by_cases hq : q ≤ c.size
    · simp [execOp, e, run_loadAtA ha hs (hw.trans h1) (by omega : q + off + size ≤ c.size)]
    · have : cs.length = 0 := by omega
      have hs0 : size = 0 := by omega
      subst hs0
      obtain ⟨I, hI, hIs, _, _⟩ := hs.get
      simp [execOp, e, Instr.loadAt, Instr.sureAddr, loadVar, run_isAgg' ha, run_sizeOf' hI, hIs, loadCells, loadCellsFrom]
  refine ⟨_, ⟨_, rfl, ?_, ?_⟩, key w rfl, fun w' hw => key w' (hw.block _ (Array.getElem?_eq_some_iff.1 h1).1)⟩
  · simp; omega
  · have := ((hp.drop off).take size).mono (ρ' := ρ) (fun _ _ h => by cases h) (.refl _)
    simpa [List.drop_drop] using this

/-! ### Stores -/
theorem heap_setRow {w : World} {b i : Nat} {c : Array Value} {e : TypeId} (h : w.heap[b]? = some (.cells c e (0, 0))) (u : Value) : (w.setCell ⟨b, i, none⟩ u).heap[b]? = some (.cells (c.setIfInBounds i u) e (0, 0)) := by
  simp [World.setCell, Array.getElem?_modify, h]
theorem heap_setOther {w : World} {b i k : Nat} (u : Value) (h : k ≠ b) : (w.setCell ⟨b, i, none⟩ u).heap[k]? = w.heap[k]? := by
  simp only [World.setCell, Array.getElem?_modify]
  rw [if_neg (fun e => h e.symm)]
theorem x_store1 {t : TypeId} {x y : Operand} {id off bytes : Nat} {zero : Value} {b : Blk} {v : AV} [ha : Inf P t 1 bytes zero] (hx : σ.ev x = .ptr id off) (hy : σ.ev y = v) (hb : σ.hp.get id = some b) (h1 : v.one = true) (hl0 : Nat.blt off b.cells.length = true)
    (hk : K ⟨σ.env, σ.dfs, σ.hp.put id ⟨b.cells.set off v, b.esz, b.ety⟩⟩) : AExec P N ⟨none, .store t x y, ty, pos, af, gd⟩ K σ := fun ρ Z F a w hr next Qc hn => by
  have hl : off < b.cells.length := by rwa [Nat.blt_eq] at hl0
  have hx' := hr.ev x
  rw [hx] at hx'
  obtain ⟨g, hg, g0, e⟩ := hx'
  have hy' := hr.ev y
  rw [hy] at hy'
  obtain ⟨cur, g1, g2, g3, g4⟩ := hr.hp.liveAt hb hg g0
  have hone := one_of hy' h1
  obtain ⟨I, hI, hIs, _, _⟩ := ha.get
  have hlen := g4.length
  have hoff : off < cur.size := by simp at hlen; omega
  have hcell : w.cell? ⟨g.blk, off, none⟩ = some cur[off] := by rw [cell_of g1]; simp [hoff]
  have hfr : w.frozen? ⟨g.blk, off, none⟩ = false := by simp [World.frozen?, g1]
  have hrun : (execOp a.eval ⟨none, .store t x y, ty, pos, af, gd⟩).run P w = .ok .skip (w.setCell ⟨g.blk, off, none⟩ (a.eval y)) := by
    have hc := cells_one hone
    simp [execOp, e, Instr.storeAt, Instr.sureAddr, storeVar, hc, run_sizeOf' hI, hIs, storeCells, add_off, run_store P w _ _ _ hone, hcell, hfr]
  unfold Oper.wp
  rw [hrun]
  refine hn _ _ ρ Z ⟨σ.env, σ.dfs, σ.hp.put id ⟨b.cells.set off v, b.esz, b.ety⟩⟩ ⟨.refl _, rfl, rfl, rfl, by simp⟩ ⟨hr.size, hr.env, hr.dfs, ?_, hr.kk⟩ hk
  refine hr.hp.set hb hg (.of g0 ⟨_, heap_setRow g1 _, by simp [g2], g3, ?_⟩) (.inl g0) (fun k hk => heap_setOther _ hk)
  rw [Array.toList_setIfInBounds]
  exact g4.set hy'
end
end Go.Proofs.YtdcnpkbflelpfaaDoor.Sx
