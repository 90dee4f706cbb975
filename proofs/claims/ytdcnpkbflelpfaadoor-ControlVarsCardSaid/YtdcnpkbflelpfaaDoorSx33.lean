/- Arrays: built, indexed, sliced; bytes of nought appended; loops walked round by round. -/
import Derived.Test.YtdcnpkbflelpfaaDoorSx32
import Derived.Lib.AppendZerosOnto
namespace Go.Proofs.YtdcnpkbflelpfaaDoor.Sx
open Go Go.RowKit
def zbs (m : Nat) : List Value := List.replicate m (.int .u8 0)
theorem zeroCells_u8 (m : Nat) : Builtin.zeroCells #[Value.int .u8 0] m = (zbs m).toArray := by
  apply Array.ext'
  simp [Builtin.zeroCells, zbs]
  apply List.ext_getElem
  · simp
  · intro i h1 h2
    simp [Nat.mod_one]
theorem zbs_av (m : Nat) : (zbs m).map AV.sc = byts (List.replicate m 0) := by simp [zbs, byts]
section
variable {P : Program} {w : World}
theorem run_append_roomZ {t tn ty e : TypeId} {kn kq : IntKind} (ht : P.underlying t = some (.slice e)) (htn : P.underlying tn = some (.int kn)) {i : TypeInfo} (hinf : P.info? e = some i) (hz : i.zero = some (.int .u8 0)) (hs : i.size = 1) {g len cap : Nat} {cur : Array Value} (hg : w.heap[g]? = some (.cells cur e (0, 0)))
    {m : Nat} (hm : m * i.bytes ≤ 281474976710656) (hm' : m ≤ 9223372036854775807) (hroom : len + m ≤ cap) (hfit : len * i.size + m ≤ cur.size) :
    (Builtin.append_ #[t, tn] ty #[.slice (some ⟨g, 0, none⟩) len cap, .int kq m]).run P w =
      .ok (.slice (some ⟨g, 0, none⟩) (len + m) cap) (w.setRow g (cur.toList.take (len * i.size) ++ zbs m ++ cur.toList.drop (len * i.size + (zbs m).length)).toArray) := by
  have hst := run_storeCells_at P g (len * i.size) e (zbs m) 0 cur w hg (by simp [zbs]; omega) (fun y hy => by simp [zbs] at hy; rw [hy.2]; rfl)
  simp only [Nat.add_zero] at hst
  have hw : IntKind.i64.wrap (m : Int) = m := by rw [IntKind.wrap_i64]; omega
  have hneg : ¬ ((m : Int) < 0) := by omega
  have h48i : ¬ (281474976710656 < (m : Int) * (i.bytes : Int)) := by rw [← Int.natCast_mul]; omega
  by_cases h0 : m = 0
  · subst h0
    have e0 : zbs 0 = [] := rfl
    rw [e0] at hst ⊢
    have hw0 : IntKind.i64.wrap 0 = 0 := by decide
    have hroom' : len ≤ cap := by omega
    rw [hs] at hst
    simp [Builtin.append_, run_underlying ht, run_underlying htn, sizeOf, typeInfo, hinf, hs, asInt, asIntOf, hw0, hroom', Addr.add_lit, storeCells] at hst ⊢
    exact hst
  · rw [hs] at hst ⊢
    simp only [Nat.mul_one, List.append_assoc] at hst
    simp [Builtin.append_, run_underlying ht, run_underlying htn, sizeOf, typeInfo, zeroValue, hinf, hz, hs, asInt, asIntOf, hw, hneg, h48i, hroom, h0, Addr.add_lit, Value.cells, zeroCells_u8, hst]
theorem run_append_zeroZ {t tn ty e : TypeId} {kn kq : IntKind} (ht : P.underlying t = some (.slice e)) (htn : P.underlying tn = some (.int kn)) {i : TypeInfo} (hinf : P.info? e = some i) {A : Option Addr} :
    (Builtin.append_ #[t, tn] ty #[.slice A 0 0, .int kq (0 : Nat)]).run P w = .ok (.slice A 0 0) w := by
  have hw : IntKind.i64.wrap (0 : Int) = 0 := by decide
  cases A <;> simp [Builtin.append_, run_underlying ht, run_underlying htn, sizeOf, typeInfo, hinf, asInt, asIntOf, hw, storeCells]
end
section
variable {P : Program} {N : Sg} {σ : St} {d : Option Tmp} {ty : TypeId} {pos : String} {af : Array Edge} {gd : Option (Nat × Bool)} {K : St → Prop} {Q : Exit → St → Prop}
  {env : List (Nat × AV)} {dfs : List (FuncId × List AV)} {n : Nat} {bs : List (Nat × Option Blk)} {tt : Tmp}
theorem x_appendZ {s x : Operand} {t u e : TypeId} {bytes id len m lm : Nat} {kn kq : IntKind} {cs cs' : List AV} {im : Int} [ht : Und P t (.slice e)] [hu : Und P u (.int kn)] [hi : Inf P e 1 bytes (.int .u8 0)]
    (hs : St.ev ⟨env, dfs, ⟨n, bs⟩⟩ s = .sl id 0 len) (hx : St.ev ⟨env, dfs, ⟨n, bs⟩⟩ x = .sc (.int kq im)) (him : im = (m : Int)) (hb : find id bs = some ⟨cs, 1, e⟩) (hl : cs.length = len * 1)
    (hd : Nat.blt tt N.n = true) (h63 : len + m ≤ 9223372036854775807) (hby : (len + m) * bytes ≤ 140737488355328) (hc : cs ++ byts (List.replicate m 0) = cs') (hlm : len + m = lm)
    (hk : K ⟨(tt, .sl n 0 lm) :: env, dfs, ⟨n + 1, (n, some ⟨cs', 1, e⟩) :: (id, none) :: bs⟩⟩) : AExec P N ⟨some tt, .call ⟨.builtin .append, #[s, x], #[t, u]⟩, ty, pos, af, gd⟩ K ⟨env, dfs, ⟨n, bs⟩⟩ := fun ρ Z F a w hr next Qc hn => by
  subst hc
  subst hlm
  subst him
  obtain ⟨size, hsize⟩ : ∃ size : Nat, size = 1 := ⟨1, rfl⟩
  have hnews : byts (List.replicate m 0) = (zbs m).map AV.sc := (zbs_av m).symm
  have hs' := hr.ev s
  rw [hs] at hs'
  obtain ⟨g, A, hg, eu, hle, hA⟩ := hs'
  have hx' := hr.ev x
  rw [hx] at hx'
  obtain ⟨I, hI, hIs, hIb, hIz⟩ := hi.get
  have ev : a.eval x = .int kq (m : Int) := hx'
  generalize hnn : byts (List.replicate m 0) = news at *
  obtain ⟨vs, hvs⟩ : ∃ vs, vs = zbs m := ⟨_, rfl⟩
  have hvl : vs.length = m * 1 := by rw [hvs]; simp [zbs]
  have hvn : vs.length = news.length := by rw [hvs, hnews]; simp
  have hvr : RelP ρ Z news vs := by rw [hvs, hnews]; exact RelP_sc ρ Z _
  have hesz : g.esz = 1 := hr.hp.esz (b := ⟨cs, 1, e⟩) hb hg
  simp only [Nat.zero_add, Nat.sub_zero, Nat.zero_mul] at hle hA eu
  have fin : ∀ (g' : Geo) (v' : Value) (w' : World), (Builtin.append_ #[t, u] ty #[a.eval s, a.eval x]).run P w = .ok v' w' → Ext Z w Z w' → (g'.sol → (g'.blk = g.blk ∧ g.sol) ∨ w.heap.size ≤ g'.blk) → BlkRel ρ Z g' ⟨cs ++ news, 1, e⟩ w' →
      (∀ k, k < w.heap.size → (g.sol → k ≠ g.blk) → w'.heap[k]? = w.heap[k]?) → (∃ A', v' = .slice A' (len + m) g'.cap ∧ len + m ≤ g'.cap ∧ (0 < g'.cap → A' = some ⟨g'.blk, 0, none⟩)) → Oper.wp P ⟨some tt, .call ⟨.builtin .append, #[s, x], #[t, u]⟩, ty, pos, af, gd⟩ a w next Qc := by
    intro g' v' w' hrun hext hgg hbl ho hv
    unfold Oper.wp execOp
    simp only [resolve, invoke, builtin, Sem.run_bind, Sem.run_pure, Result.andThen_ok, List.map_toArray, List.map_cons, List.map_nil, hrun]
    have hle' := upd_le (g := g') (hr.hp.fresh n (Nat.le_refl _))
    refine hn _ _ (upd ρ n g') Z ⟨(tt, .sl n 0 (len + m)) :: env, dfs, ⟨n + 1, (n, some ⟨cs ++ news, 1, e⟩) :: (id, none) :: bs⟩⟩ hext ?_ hk
    refine StRel.put (σ := ⟨env, dfs, ⟨n + 1, (n, some ⟨cs ++ news, 1, e⟩) :: (id, none) :: bs⟩⟩) (d := some tt) (v := .sl n 0 (len + m)) ⟨hr.size, fun t => (hr.env t).mono hle' (.refl _), hr.dfs.mono hle' (.refl _), ?_, hr.kk⟩ (by rintro _ ⟨⟩; rwa [Nat.blt_eq] at hd) ?_
    · exact hr.hp.regrow' (S := ⟨n, bs⟩) (i := id) hb hg hgg hbl ho
    · obtain ⟨A', e1, e2, e3⟩ := hv
      exact ⟨g', A', upd_same .., by simpa using e1, by simpa using e2, by simpa using e3⟩
  by_cases hroom : len + m ≤ g.cap
  · by_cases h0 : 0 < g.cap
    · obtain ⟨cur, g1, g2, g3, g4⟩ := hr.hp.liveAt (b := ⟨cs, 1, e⟩) hb hg h0
      have hA' := hA h0
      subst hA'
      have hmul : len * 1 + m * 1 ≤ g.cap * 1 := by rw [← Nat.add_mul]; exact Nat.mul_le_mul_right _ hroom
      have hcl : cs.length ≤ cur.size := by simpa using g4.length
      have hrun := run_append_roomZ (ty := ty) (kq := kq) (m := m) ht.out hu.out hI hIz hIs g1 (by rw [hIb]; exact Nat.le_trans (Nat.mul_le_mul_right _ (Nat.le_add_left m len)) (by omega)) (by omega) hroom (by rw [hesz] at g2; rw [hIs]; omega)
      rw [← eu, ← ev, ← hvs, hIs] at hrun
      refine fin g _ _ hrun ⟨.refl _, rfl, rfl, rfl, by simp [World.setRow]⟩ (fun _ => .inl ⟨rfl, .inl h0⟩) (.of h0 ⟨_, setRow_heap w g.blk cur _ e _ g1, ?_, hesz, ?_⟩) (fun k _ hk => setRow_other w g.blk k _ (hk (.inl h0))) ⟨_, rfl, hroom, fun _ => rfl⟩
      · rw [hesz] at g2 ⊢
        simp only [List.size_toArray, List.length_append, List.length_take, List.length_drop, Array.length_toList]
        omega
      · simp only [List.append_assoc]
        refine RelP.append ?_ ?_ (hvr.more)
        · rw [List.length_take, hl, Array.length_toList]; omega
        · have := g4.take (len * 1)
          rwa [List.take_of_length_le (by show cs.length ≤ _; omega)] at this
    · have hl0 : len = 0 := by omega
      have hm0 : m = 0 := by omega
      subst hl0
      subst hm0
      have hc0 : cs = [] := List.eq_nil_of_length_eq_zero (by simpa using hl)
      have hv0 : vs = [] := List.eq_nil_of_length_eq_zero (by simpa using hvl)
      have hn0 : news = [] := List.eq_nil_of_length_eq_zero (by rw [← hvn, hv0]; rfl)
      have hg0 : g.cap = 0 := by omega
      rw [hg0] at eu
      have hrun := run_append_zeroZ (P := P) (w := w) (t := t) (tn := u) (ty := ty) (kq := kq) (A := A) ht.out hu.out hI
      rw [← eu, ← ev] at hrun
      refine fin g _ _ hrun (.refl _ _) (fun h => .inl ⟨rfl, h⟩) (by
        obtain ⟨g1, hg1, hbl⟩ := hr.hp.live (S := ⟨n, bs⟩) id ⟨cs, 1, e⟩ hb
        rw [hg] at hg1; cases hg1
        rw [hc0, hn0]; rw [hc0] at hbl; exact hbl) (fun _ _ _ => rfl) ⟨A, by rw [hg0]; exact eu, by omega, fun h => absurd h h0⟩
  · have hgr := grownCap_ge w (len + m) g.cap e
    obtain ⟨olds, hol, hor, hfo⟩ : ∃ olds : List Value, olds.length = len * 1 ∧ RelP ρ Z cs olds ∧ ∀ w' : World, w'.heap = w.heap → (Builtin.firstCells 1 len (.slice A len g.cap)).run P w' = .ok olds.toArray w' := by
      by_cases h0 : 0 < g.cap
      · obtain ⟨cur, g1, g2, g3, g4⟩ := hr.hp.liveAt (b := ⟨cs, 1, e⟩) hb hg h0
        have hA' := hA h0
        subst hA'
        have hmul : len * 1 ≤ g.cap * 1 := Nat.mul_le_mul_right _ hle
        have hff := firsts_cells (P := P) (w := w) (size := 1) (m := len) (len := len) (cap := g.cap) (q := 0) g1 (by rw [hesz] at g2; omega) rfl
        refine ⟨_, ?_, ?_, hff.2⟩
        · rw [hesz] at g2; simp only [List.drop_zero, List.length_take, Array.length_toList]; omega
        · have := g4.take (len * 1)
          rw [List.take_of_length_le (by show cs.length ≤ _; omega)] at this
          simpa using this
      · have hl0 : len = 0 := by omega
        subst hl0
        have hc0 : cs = [] := List.eq_nil_of_length_eq_zero (by simpa using hl)
        subst hc0
        exact ⟨[], by simp, trivial, firsts_none.2⟩
    have hm0 : 0 < m := by omega
    have hrun := Lib.run_append_grow_zeros (P := P) w t u ty e I (.int .u8 0) kq kn ht.out hu.out hI hIz A len g.cap olds (by rw [hIs]; exact hfo w.drew rfl) m hm0 (by omega) (by omega) (by omega) (by rw [hIb]; exact Nat.le_trans (Nat.mul_le_mul_right _ (Nat.le_add_left m len)) (by omega)) (growslice_fits (by omega) (by rw [hIb]; exact hby))
    rw [← eu, ← ev, show (Value.int .u8 0).cells = #[Value.int .u8 0] from rfl, zeroCells_u8 m, ← hvs] at hrun
    refine fin ⟨w.heap.size, grownCap w (len + m) g.cap e, 1, false⟩ _ _ hrun ⟨.refl _, rfl, rfl, rfl, by simp⟩ (fun _ => .inr (Nat.le_refl _)) (.ofN rfl ⟨_, heap_alloc_new w.drew _, ?_, rfl, ?_⟩) (fun k hk _ => heap_push_old w.drew _ hk) ⟨_, rfl, hgr, fun _ => rfl⟩
    · have e2 : len * 1 + m * 1 + (grownCap w (len + m) g.cap e - (len + m)) * 1 = grownCap w (len + m) g.cap e * 1 := by
        rw [← Nat.add_mul, ← Nat.add_mul]; congr 1; omega
      simp only [Array.size_append, List.size_toArray, size_zeroCells, hol, hvl]
      exact e2
    · simp only [Array.toList_append, List.append_assoc]
      exact RelP.append (by rw [hl, hol]) hor hvr.more

/-! ### Arrays -/
theorem y_buildA {s e : TypeId} {parts : List (Nat × Operand)} {size bytes k esz eb : Nat} {zero ez : Value} {cs : List AV} [hu : Und P s (.array k e)] [hi : Inf P s size bytes zero] [he : Inf P e esz eb ez] (hz : (AV.ofV zero).solid = true)
    (hf : fillA (fun i : Nat => some (i * esz, esz)) (AV.ofV zero).cells (parts.map fun p => (p.1, σ.ev p.2)) = some cs) : Yld P N ⟨d, .build s parts.toArray, ty, pos, af, gd⟩ σ (.agg cs) :=
  yld_pure fun ρ Z F a w hr => by
    obtain ⟨I, hI, _, _, hIz⟩ := hi.get
    obtain ⟨E, hE, hEs, _, _⟩ := he.get
    obtain ⟨hc, hl⟩ := cells_rel (Rel_ofV ρ Z zero) hz
    obtain ⟨vs', h1, h2, h3⟩ := fill_rel (ρ := ρ) (Z := Z) (qs := parts.map fun p => (p.1, a.eval p.2)) (by simp) (fun j p q hj hq => by
      simp only [List.getElem?_map, Option.map_eq_some_iff] at hj hq
      obtain ⟨x, hx, rfl⟩ := hj
      obtain ⟨y, hy, rfl⟩ := hq
      rw [hx] at hy; cases hy
      exact ⟨rfl, hr.ev _⟩) hl hc hf
    refine ⟨.agg vs', ⟨vs', rfl, h2, h3⟩, fun w' => ?_⟩
    have h1' : Instr.fill (fun i => some (i * esz, esz)) zero.cells (parts.toArray.map fun (i, x) => (i, a.eval x)).toList = some vs' := by simpa using h1
    simp only [execOp, Instr.build, zeroValue, Sem.run_bind, run_typeInfo' hI, hIz, run_underlying hu.out, run_sizeOf' hE, hEs, Result.andThen_ok, Sem.run_pure, h1']
theorem y_indexA {t' e : TypeId} {x y : Operand} {k eb : Nat} {ez : Value} {kk : IntKind} {i : Int} {cs : List AV} {v : AV} [hu : Und P t' (.array k e)] [ha : Agg P e false] [he : Inf P e 1 eb ez] (hx : σ.ev x = .agg cs) (hy : σ.ev y = .sc (.int kk i)) (h0 : 0 ≤ i) (h1 : i < k) (hv : cs[i.toNat]? = some v) :
    Yld P N ⟨d, .index t' x y, ty, pos, af, gd⟩ σ v := yld_pure fun ρ Z F a w hr => by
  have := hr.ev x
  rw [hx] at this
  obtain ⟨vs, e1, hs, hp⟩ := this
  obtain ⟨u, hu', hrel⟩ := hp.get hv
  obtain ⟨E, hE, hEs, _, _⟩ := he.get
  refine ⟨u, hrel, fun w' => ?_⟩
  have hu2 : vs[i.toNat]? = some u := by simpa using hu'
  simp [execOp, Instr.index, e1, ev_sc hr hy, asIntOf, run_underlying hu.out, h0, h1, run_sizeOf' hE, hEs, part, run_isAgg' ha, hu2]
/-- An array of the call's own, sliced: from now on it is a row of its elements. -/
theorem x_sliceArr {T e : TypeId} {x lo : Operand} {id k esz eb off : Nat} {ez : Value} {kk : IntKind} {l : Int} {cs : List AV} {bz : Nat} {bt : TypeId} [hA : Und P T (.array k e)] [he : Inf P e esz eb ez]
    (hx : St.ev ⟨env, dfs, ⟨n, bs⟩⟩ x = .ptr id off) (hoff : off = 0) (hlo : St.ev ⟨env, dfs, ⟨n, bs⟩⟩ lo = .sc (.int kk l)) (hb : find id bs = some ⟨cs, bz, bt⟩) (hl : cs.length = k * esz) (hbz : bz = k * esz) (hk0 : Nat.blt 0 k = true) (hes : Nat.blt 0 esz = true) (h0 : 0 ≤ l) (h1 : l ≤ k) (hd : Nat.blt tt N.n = true)
    (hk : K ⟨(tt, .sl n l.toNat (k - l.toNat)) :: env, dfs, ⟨n + 1, (n, some ⟨cs, esz, bt⟩) :: (id, none) :: bs⟩⟩) : AExec P N ⟨some tt, .slice T x (some lo) none none, ty, pos, af, gd⟩ K ⟨env, dfs, ⟨n, bs⟩⟩ := fun ρ Z F a w hr next Qc hn => by
  subst hoff
  rw [Nat.blt_eq] at hk0 hes
  have hx' := hr.ev x
  rw [hx] at hx'
  obtain ⟨g, hg, g0, e1⟩ := hx'
  obtain ⟨E, hE, hEs, _, _⟩ := he.get
  obtain ⟨cur, g1, g2, g3, g4⟩ := hr.hp.liveAt (b := ⟨cs, bz, bt⟩) hb hg g0
  have g3' : g.esz = bz := g3
  have g4' : RelP ρ Z cs cur.toList := g4
  have hlen := g4'.length
  -- the block has one element of the array's type; or more, of which the first is looked at
  have hsz : k * esz ≤ cur.size := by simp at hlen; omega
  have hb0 : (Instr.sliceBounds false k k (some (.int kk l)) none none).run P w = .ok (l.toNat, k, k) w := by
    simp [Instr.sliceBounds, run_sliceBound, h0, h1]
  have hrun : (execOp a.eval ⟨some tt, .slice T x (some lo) none none, ty, pos, af, gd⟩).run P w = .ok (.value (.slice (some (if k = l.toNat then ⟨g.blk, 0, none⟩ else ⟨g.blk, l.toNat * esz, none⟩)) (k - l.toNat) (k - l.toNat))) w := by
    by_cases hkl : k = l.toNat
    · simp [execOp, e1, ev_sc hr hlo, Instr.sliceAt, Instr.sureAddr, run_underlying hA.out, hb0, run_sizeOf' hE, ← hkl]
    · simp [execOp, e1, ev_sc hr hlo, Instr.sliceAt, Instr.sureAddr, run_underlying hA.out, hb0, run_sizeOf' hE, hEs, hkl, add_off]
  unfold Oper.wp
  rw [hrun]
  have hle := upd_le (g := ⟨g.blk, k, esz, false⟩) (hr.hp.fresh n (Nat.le_refl _))
  have hbl : BlkRel ρ Z ⟨g.blk, k, esz, false⟩ ⟨cs, esz, bt⟩ w := .of hk0 ⟨cur, g1, hsz, rfl, g4'⟩
  have hhp := hr.hp.regrow' (S := ⟨n, bs⟩) (i := id) (b := ⟨cs, esz, bt⟩) (g := ⟨g.blk, k, esz, false⟩) hb hg (fun _ => .inl ⟨rfl, .inl g0⟩) hbl (fun _ _ _ => rfl)
  refine hn _ _ (upd ρ n ⟨g.blk, k, esz, false⟩) Z _ (.refl _ _) (StRel.put (σ := ⟨env, dfs, ⟨n + 1, (n, some ⟨cs, esz, bt⟩) :: (id, none) :: bs⟩⟩) (d := some tt) (v := .sl n l.toNat (k - l.toNat)) ⟨hr.size, fun t => (hr.env t).mono hle (.refl _), hr.dfs.mono hle (.refl _), hhp, hr.kk⟩ (by rintro _ ⟨⟩; rwa [Nat.blt_eq] at hd) ⟨⟨g.blk, k, esz, false⟩, _, upd_same .., rfl, by show l.toNat + (k - l.toNat) ≤ k; omega, fun hlt => ?_⟩) hk
  have hlt' : l.toNat < k := hlt
  rw [if_neg (by omega)]
end
end Go.Proofs.YtdcnpkbflelpfaaDoor.Sx
