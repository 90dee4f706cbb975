/- The rules of append and of slices built; a heap of one shape; loops by goto. -/
import Derived.Test.YtdcnpkbflelpfaaDoorSx19
namespace Go.Proofs.YtdcnpkbflelpfaaDoor.Sx
open Go Go.RowKit

section
variable {P : Program} {N : Sg} {σ : St} {d : Option Tmp} {ty : TypeId} {pos : String} {af : Array Edge} {gd : Option (Nat × Bool)} {K : St → Prop} {Q : Exit → St → Prop}
  {env : List (Nat × AV)} {dfs : List (FuncId × List AV)} {n : Nat} {bs : List (Nat × Option Blk)} {tt : Tmp}

theorem nosol {b ez : Nat} {p : Prop} (h : Geo.sol ⟨b, 0, ez, false⟩) : p := by
  rcases h with h | h
  · exact absurd h (Nat.lt_irrefl _)
  · cases h
theorem BlkRel.of0 {ρ : Nat → Option Geo} {Z : Nat → Option Obj} {g : Geo} {b : Nat} {ez : Nat} {et : TypeId} {w : World} (hg : g = ⟨b, 0, ez, false⟩) (_ : True = True) : BlkRel ρ Z g ⟨[], ez, et⟩ w := by
  subst hg
  exact ⟨fun h => absurd h (Nat.lt_irrefl _), fun _ => ⟨rfl, fun _ => rfl, fun h => by cases h⟩⟩
/-- What a step leaves, for a new block of the call's own in the place of an old one. -/
theorem HpRel.regrow' {ρ Z F S w w'} (h : HpRel ρ Z F S w) {i : Nat} {b0 : Blk} {g0 : Geo} (hi : S.get i = some b0) (hg0 : ρ i = some g0) {b : Blk} {g : Geo} (hg : g.sol → (g.blk = g0.blk ∧ g0.sol) ∨ w.heap.size ≤ g.blk) (hb : BlkRel ρ Z g b w')
    (ho : ∀ k, k < w.heap.size → (g0.sol → k ≠ g0.blk) → w'.heap[k]? = w.heap[k]?) : HpRel (upd ρ S.nxt g) Z F ((S.kill i).new b) w' :=
  h.regrow hi hg0 hg (hb.imp (fun _ _ h => h) (upd_le (h.fresh _ (Nat.le_refl _))) (.refl _)) ho
theorem x_append {s x : Operand} {t u e : TypeId} {size bytes id len m lm : Nat} {zero : Value} {cs news cs' : List AV} {X : AV} [ht : Und P t (.slice e)] [hi : Inf P e size bytes zero]
    (hs : St.ev ⟨env, dfs, ⟨n, bs⟩⟩ s = .sl id 0 len) (hx : St.ev ⟨env, dfs, ⟨n, bs⟩⟩ x = X) (hb : find id bs = some ⟨cs, size, e⟩) (hl : cs.length = len * size)
    (src : Src P ⟨env, dfs, ⟨n, bs⟩⟩ u size X m news) (hd : Nat.blt tt N.n = true) (hz : zero.cells.size = size) (h63 : len + m ≤ 9223372036854775807) (hby : (len + m) * bytes ≤ 140737488355328) (hc : cs ++ news = cs') (hlm : len + m = lm)
    (hk : K ⟨(tt, .sl n 0 lm) :: env, dfs, ⟨n + 1, (n, some ⟨cs', size, e⟩) :: (id, none) :: bs⟩⟩) : AExec P N ⟨some tt, .call ⟨.builtin .append, #[s, x], #[t, u]⟩, ty, pos, af, gd⟩ K ⟨env, dfs, ⟨n, bs⟩⟩ := fun ρ Z F a w hr next Qc hn => by
  subst hc
  subst hlm
  have hs' := hr.ev s
  rw [hs] at hs'
  obtain ⟨g, A, hg, eu, hle, hA⟩ := hs'
  have hx' := hr.ev x
  rw [hx] at hx'
  obtain ⟨vs, hf, hvl, hvn, hvr, hv1⟩ := src.out ρ Z F w _ N a hr hx'
  obtain ⟨I, hI, hIs, hIb, hIz⟩ := hi.get
  have hesz : g.esz = size := hr.hp.esz (b := ⟨cs, size, e⟩) hb hg
  simp only [Nat.zero_add, Nat.sub_zero, Nat.zero_mul] at hle hA eu
  subst hIs
  have fin : ∀ (g' : Geo) (v' : Value) (w' : World), (Builtin.append_ #[t, u] ty #[a.eval s, a.eval x]).run P w = .ok v' w' → Ext Z w Z w' → (g'.sol → (g'.blk = g.blk ∧ g.sol) ∨ w.heap.size ≤ g'.blk) → BlkRel ρ Z g' ⟨cs ++ news, I.size, e⟩ w' →
      (∀ k, k < w.heap.size → (g.sol → k ≠ g.blk) → w'.heap[k]? = w.heap[k]?) → (∃ A', v' = .slice A' (len + m) g'.cap ∧ len + m ≤ g'.cap ∧ (0 < g'.cap → A' = some ⟨g'.blk, 0, none⟩)) → Oper.wp P ⟨some tt, .call ⟨.builtin .append, #[s, x], #[t, u]⟩, ty, pos, af, gd⟩ a w next Qc := by
    intro g' v' w' hrun hext hgg hbl ho hv
    unfold Oper.wp execOp
    simp only [resolve, invoke, builtin, Sem.run_bind, Sem.run_pure, Result.andThen_ok, List.map_toArray, List.map_cons, List.map_nil, hrun]
    have hle' := upd_le (g := g') (hr.hp.fresh n (Nat.le_refl _))
    refine hn _ _ (upd ρ n g') Z ⟨(tt, .sl n 0 (len + m)) :: env, dfs, ⟨n + 1, (n, some ⟨cs ++ news, I.size, e⟩) :: (id, none) :: bs⟩⟩ hext ?_ hk
    refine StRel.put (σ := ⟨env, dfs, ⟨n + 1, (n, some ⟨cs ++ news, I.size, e⟩) :: (id, none) :: bs⟩⟩) (d := some tt) (v := .sl n 0 (len + m)) ⟨hr.size, fun t => (hr.env t).mono hle' (.refl _), hr.dfs.mono hle' (.refl _), ?_, hr.kk⟩ (by rintro _ ⟨⟩; rwa [Nat.blt_eq] at hd) ?_
    · exact hr.hp.regrow' (S := ⟨n, bs⟩) (i := id) hb hg hgg hbl ho
    · obtain ⟨A', e1, e2, e3⟩ := hv
      exact ⟨g', A', upd_same .., by simpa using e1, by simpa using e2, by simpa using e3⟩
  by_cases hroom : len + m ≤ g.cap
  · by_cases h0 : 0 < g.cap
    · obtain ⟨cur, g1, g2, g3, g4⟩ := hr.hp.liveAt (b := ⟨cs, I.size, e⟩) hb hg h0
      have hA' := hA h0
      subst hA'
      have hmul : len * I.size + m * I.size ≤ g.cap * I.size := by rw [← Nat.add_mul]; exact Nat.mul_le_mul_right _ hroom
      have hcl : cs.length ≤ cur.size := by simpa using g4.length
      have hrun := run_append_room' (ty := ty) ht.out src.und hI g1 hf hv1 hroom (by rw [hesz] at g2; omega)
      rw [← eu] at hrun
      refine fin g _ _ hrun ⟨.refl _, rfl, rfl, rfl, by simp [World.setRow]⟩ (fun _ => .inl ⟨rfl, .inl h0⟩) (.of h0 ⟨_, setRow_heap w g.blk cur _ e _ g1, ?_, hesz, ?_⟩) (fun k _ hk => setRow_other w g.blk k _ (hk (.inl h0))) ⟨_, rfl, hroom, fun _ => rfl⟩
      · rw [hesz] at g2 ⊢
        simp only [List.size_toArray, List.length_append, List.length_take, List.length_drop, Array.length_toList]
        omega
      · simp only [List.append_assoc]
        refine RelP.append ?_ ?_ (hvr.more)
        · rw [List.length_take, hl, Array.length_toList]; omega
        · have := g4.take (len * I.size)
          rwa [List.take_of_length_le (by show cs.length ≤ _; omega)] at this
    · have hl0 : len = 0 := by omega
      have hm0 : m = 0 := by omega
      subst hl0
      subst hm0
      have hc0 : cs = [] := List.eq_nil_of_length_eq_zero (by simpa using hl)
      have hv0 : vs = [] := List.eq_nil_of_length_eq_zero (by simpa using hvl)
      have hn0 : news = [] := List.eq_nil_of_length_eq_zero (by rw [← hvn, hv0]; rfl)
      subst hv0
      have hg0 : g.cap = 0 := by omega
      rw [hg0] at eu
      have hrun := run_append_zero' (ty := ty) (A := A) ht.out src.und hI hf
      rw [← eu] at hrun
      refine fin g _ _ hrun (.refl _ _) (fun h => .inl ⟨rfl, h⟩) (by
        obtain ⟨g1, hg1, hbl⟩ := hr.hp.live (S := ⟨n, bs⟩) id ⟨cs, I.size, e⟩ hb
        rw [hg] at hg1; cases hg1
        rw [hc0, hn0]; rw [hc0] at hbl; exact hbl) (fun _ _ _ => rfl) ⟨A, by rw [hg0]; exact eu, by omega, fun h => absurd h h0⟩
  · have hgr := grownCap_ge w (len + m) g.cap e
    obtain ⟨olds, hol, hor, hfo⟩ : ∃ olds : List Value, olds.length = len * I.size ∧ RelP ρ Z cs olds ∧ ∀ w' : World, w'.heap = w.heap → (Builtin.firstCells I.size len (.slice A len g.cap)).run P w' = .ok olds.toArray w' := by
      by_cases h0 : 0 < g.cap
      · obtain ⟨cur, g1, g2, g3, g4⟩ := hr.hp.liveAt (b := ⟨cs, I.size, e⟩) hb hg h0
        have hA' := hA h0
        subst hA'
        have hmul : len * I.size ≤ g.cap * I.size := Nat.mul_le_mul_right _ hle
        have hff := firsts_cells (P := P) (w := w) (size := I.size) (m := len) (len := len) (cap := g.cap) (q := 0) g1 (by rw [hesz] at g2; omega) rfl
        refine ⟨_, ?_, ?_, hff.2⟩
        · rw [hesz] at g2; simp only [List.drop_zero, List.length_take, Array.length_toList]; omega
        · have := g4.take (len * I.size)
          rw [List.take_of_length_le (by show cs.length ≤ _; omega)] at this
          simpa using this
      · have hl0 : len = 0 := by omega
        subst hl0
        have hc0 : cs = [] := List.eq_nil_of_length_eq_zero (by simpa using hl)
        subst hc0
        exact ⟨[], by simp, trivial, firsts_none.2⟩
    have hrun := run_append_grow' (ty := ty) ht.out src.und hI hIz hfo hf (by omega) (by omega) (growslice_fits (by omega) (by rw [hIb]; exact hby))
    rw [← eu] at hrun
    refine fin ⟨w.heap.size, grownCap w (len + m) g.cap e, I.size, false⟩ _ _ hrun ⟨.refl _, rfl, rfl, rfl, by simp⟩ (fun _ => .inr (Nat.le_refl _)) (.ofN rfl ⟨_, heap_alloc_new w.drew _, ?_, rfl, ?_⟩) (fun k hk _ => heap_push_old w.drew _ hk) ⟨_, rfl, hgr, fun _ => rfl⟩
    · have e2 : len * I.size + m * I.size + (grownCap w (len + m) g.cap e - (len + m)) * I.size = grownCap w (len + m) g.cap e * I.size := by
        rw [← Nat.add_mul, ← Nat.add_mul]; congr 1; omega
      simp only [Array.size_append, List.size_toArray, size_zeroCells, hz, hol, hvl]
      exact e2
    · simp only [Array.toList_append, List.append_assoc]
      exact RelP.append (by rw [hl, hol]) hor hvr.more
/-- A nil slice is one of the call's own, with no room. -/
theorem iw_nil {is : List Item} (t : Tmp) (ez : Nat) (et : TypeId) (ht : look t env = .sc (.slice none 0 0)) (hk : IW P N is Q ⟨(t, .sl n 0 0) :: env, dfs, ⟨n + 1, (n, some ⟨[], ez, et⟩) :: bs⟩⟩) : IW P N is Q ⟨env, dfs, ⟨n, bs⟩⟩ := fun ρ Z F a w hr => by
  have hle := upd_le (g := ⟨0, 0, ez, false⟩) (hr.hp.fresh n (Nat.le_refl _))
  refine hk (upd ρ n ⟨0, 0, ez, false⟩) Z F a w ⟨hr.size, fun i => ?_, hr.dfs.mono hle (.refl _), hr.hp.grow (S := ⟨n, bs⟩) nosol (.of0 rfl rfl) (fun _ _ => rfl), hr.kk⟩
  show Rel _ Z (look i ((t, .sl n 0 0) :: env)) _
  rw [look_cons]
  have hi := hr.env i
  split
  · rename_i e
    subst e
    have ht' : St.get ⟨env, dfs, ⟨n, bs⟩⟩ t = .sc (.slice none 0 0) := ht
    rw [ht'] at hi
    exact ⟨_, none, upd_same .., hi, Nat.le_refl _, fun h => absurd h (Nat.lt_irrefl _)⟩
  · exact hi.mono hle (.refl _)
/-- The same of a nil slice that lies in a block. -/
theorem iw_nilH {is : List Item} (id off ez : Nat) (et : TypeId) {cs : List AV} {bz : Nat} {bt : TypeId} (hb : find id bs = some ⟨cs, bz, bt⟩) (hc : cs[off]? = some (.sc (.slice none 0 0))) (hk : IW P N is Q ⟨env, dfs, ⟨n + 1, (id, some ⟨cs.set off (.sl n 0 0), bz, bt⟩) :: (n, some ⟨[], ez, et⟩) :: bs⟩⟩) : IW P N is Q ⟨env, dfs, ⟨n, bs⟩⟩ := fun ρ Z F a w hr => by
  have hle := upd_le (g := ⟨0, 0, ez, false⟩) (hr.hp.fresh n (Nat.le_refl _))
  have hgrow : HpRel (upd ρ n ⟨0, 0, ez, false⟩) Z F ⟨n + 1, (n, some ⟨[], ez, et⟩) :: bs⟩ w := hr.hp.grow (S := ⟨n, bs⟩) (b := ⟨[], ez, et⟩) (g := ⟨0, 0, ez, false⟩) nosol (.of0 rfl rfl) (fun _ _ => rfl)
  have hlt : id < n := hr.hp.lt_nxt (S := ⟨n, bs⟩) hb
  have hb' : find id ((n, some (⟨[], ez, et⟩ : Blk)) :: bs) = some ⟨cs, bz, bt⟩ := by rw [find_cons, if_neg (by omega)]; exact hb
  obtain ⟨g, hg, hbl⟩ := hgrow.live id ⟨cs, bz, bt⟩ hb'
  have h0 : 0 < g.cap := hbl.room hc fun u u' h => by have h' : Value.tuple #[u, u'] = .slice none 0 0 := h; cases h'
  obtain ⟨cur, h1, h2, h3, h4⟩ := hbl.1 h0
  obtain ⟨v, hv, hvr⟩ := h4.get hc
  have hv' : v = .slice none 0 0 := hvr
  subst hv'
  have hset : HpRel (upd ρ n ⟨0, 0, ez, false⟩) Z F (Hp.put ⟨n + 1, (n, some ⟨[], ez, et⟩) :: bs⟩ id ⟨cs.set off (.sl n 0 0), bz, bt⟩) w := by
    refine hgrow.set (b := ⟨cs, bz, bt⟩) hb' hg (.of h0 ⟨cur, h1, h2, h3, ?_⟩) (.inl h0) (fun _ _ => rfl)
    have := h4.set (i := off) (a := .sl n 0 0) (u := .slice none 0 0) ⟨⟨0, 0, ez, false⟩, none, upd_same .., rfl, Nat.le_refl _, fun h => absurd h (Nat.lt_irrefl _)⟩
    have e : cur.toList.set off (.slice none 0 0) = cur.toList := by
      apply List.ext_getElem?
      intro j
      rw [List.getElem?_set]
      split
      · rename_i e; subst e
        rw [hv]; split
        · rfl
        · rename_i hlt; rw [List.getElem?_eq_none (by omega)] at hv; cases hv
      · rfl
    rwa [e] at this
  exact hk _ Z F a w ⟨hr.size, fun i => (hr.env i).mono hle (.refl _), hr.dfs.mono hle (.refl _), hset, hr.kk⟩
theorem o_nil {ops : Array Oper} {rest : List Oper} (t : Tmp) (ez : Nat) (et : TypeId) (ht : look t env = .sc (.slice none 0 0)) (hk : AOps P N ops Q rest ⟨(t, .sl n 0 0) :: env, dfs, ⟨n + 1, (n, some ⟨[], ez, et⟩) :: bs⟩⟩) : AOps P N ops Q rest ⟨env, dfs, ⟨n, bs⟩⟩ := fun ρ Z F a w hr => by
  have hle := upd_le (g := ⟨0, 0, ez, false⟩) (hr.hp.fresh n (Nat.le_refl _))
  refine hk (upd ρ n ⟨0, 0, ez, false⟩) Z F a w ⟨hr.size, fun i => ?_, hr.dfs.mono hle (.refl _), hr.hp.grow (S := ⟨n, bs⟩) nosol (.of0 rfl rfl) (fun _ _ => rfl), hr.kk⟩
  show Rel _ Z (look i ((t, .sl n 0 0) :: env)) _
  rw [look_cons]
  have hi := hr.env i
  split
  · rename_i e
    subst e
    have ht' : St.get ⟨env, dfs, ⟨n, bs⟩⟩ t = .sc (.slice none 0 0) := ht
    rw [ht'] at hi
    exact ⟨_, none, upd_same .., hi, Nat.le_refl _, fun h => absurd h (Nat.lt_irrefl _)⟩
  · exact hi.mono hle (.refl _)

/-! ### Slices built -/
def zeroA (z : List AV) (k : Nat) : List AV := (List.range k).map fun i => (z[i % z.length]?).getD .junk
theorem zeros_rel {ρ : Nat → Option Geo} {Z : Nat → Option Obj} {z : List AV} {zv : Array Value} (h : RelP ρ Z z zv.toList) (hl : zv.size = z.length) (h0 : 0 < z.length) : ∀ l : List Nat, RelP ρ Z (l.map fun i => (z[i % z.length]?).getD .junk) (l.map fun i => zv[i % zv.size]!)
  | [] => trivial
  | i :: l => by
    refine ⟨?_, zeros_rel h hl h0 l⟩
    have hi : i % z.length < z.length := Nat.mod_lt _ h0
    obtain ⟨u, hu, hr⟩ := h.get (i := i % z.length) (List.getElem?_eq_getElem hi)
    have hu' : zv[i % zv.size]! = u := by
      rw [hl]
      have : zv[i % z.length]? = some u := by simpa using hu
      obtain ⟨h1, h2⟩ := Array.getElem?_eq_some_iff.1 this
      rw [getElem!_pos zv _ h1]; exact h2
    show Rel ρ Z ((z[i % z.length]?).getD .junk) (zv[i % zv.size]!)
    rw [hu', List.getElem?_eq_getElem hi]; exact hr
theorem x_buildSlice {t e : TypeId} {len size bytes : Nat} {zero : Value} {parts : List (Nat × Operand)} {cs : List AV} [ht : Und P t (.slice e)] [hi : Inf P e size bytes zero] (hz : (AV.ofV zero).solid = true) (hzl : (AV.ofV zero).cells.length = size) (hs0 : Nat.blt 0 size = true) (hle : Nat.ble (len * size) 16777216 = true)
    (hf : fillA (fun i => some (i * size, size)) (zeroA (AV.ofV zero).cells (len * size)) (parts.map fun p => (p.1, St.ev ⟨env, dfs, ⟨n, bs⟩⟩ p.2)) = some cs) (hcl : cs.length = len * size) (hd : Nat.blt tt N.n = true)
    (hk : K ⟨(tt, .sl n 0 len) :: env, dfs, ⟨n + 1, (n, some ⟨cs, size, e⟩) :: bs⟩⟩) : AExec P N ⟨some tt, .buildSlice t len parts.toArray, ty, pos, af, gd⟩ K ⟨env, dfs, ⟨n, bs⟩⟩ :=
  x_new (cs := cs) (esz := size) (cap := len) (e := e) (v := .sl n 0 len) hd (fun ρ Z F a w hr => by
    obtain ⟨I, hI, hIs, _, hIz⟩ := hi.get
    have hs0' : 0 < size := by rwa [Nat.blt_eq] at hs0
    have hle' := Nat.le_of_ble_eq_true hle
    obtain ⟨hc, hl⟩ := cells_rel (Rel_ofV ρ Z zero) hz
    obtain ⟨vs', h1, h2, h3⟩ := fill_rel (ρ := ρ) (Z := Z) (place := fun i => some (i * size, size)) (qs := parts.map fun p => (p.1, a.eval p.2)) (vs := ((List.range (len * size)).map fun i => zero.cells[i % zero.cells.size]!).toArray) (by simp) (fun j p q hj hq => by
      simp only [List.getElem?_map, Option.map_eq_some_iff] at hj hq
      obtain ⟨x, hx, rfl⟩ := hj
      obtain ⟨y, hy, rfl⟩ := hq
      rw [hx] at hy; cases hy
      exact ⟨rfl, hr.ev _⟩) (by simp [zeroA]) (by simpa [zeroA] using zeros_rel hc hl (by omega) (List.range (len * size))) hf
    refine ⟨.slice (some ⟨w.heap.size, 0, none⟩) len len, vs', ?_, by rw [h2, hcl], h3, ⟨_, _, upd_same .., rfl, by simp, fun _ => by simp⟩⟩
    have hnot : ¬ (16777216 < len * I.size) := by rw [hIs]; omega
    have ez : (Array.range (len * size)).map (fun x => zero.cells[x % zero.cells.size]!) = ((List.range (len * size)).map fun i => zero.cells[i % zero.cells.size]!).toArray := by
      apply Array.ext'; simp
    have ep : (parts.toArray.map fun (i, x) => (i, a.eval x)).toList = parts.map fun p => (p.1, a.eval p.2) := by simp
    simp only [execOp, Instr.buildSlice, Sem.run_bind, run_underlying ht.out, Result.andThen_ok, run_sizeOf' hI, hIs]
    rw [ep]
    rcases Nat.eq_zero_or_pos (len * size) with h0 | h0
    · have hz0 : ((List.range (len * size)).map fun i => zero.cells[i % zero.cells.size]!) = [] := by rw [h0]; rfl
      rw [hz0] at h1
      have hlen0 : len = 0 := by
        rcases Nat.eq_zero_or_pos len with h | h
        · exact h
        · have := Nat.mul_pos h hs0'; omega
      subst hlen0
      rw [if_neg (by omega), if_pos h0]
      simp [h1, newRow, show Array.range 0 = #[] from rfl]
    · rw [if_neg (by omega), if_neg (by omega)]
      simp [zeroValue, typeInfo, hI, hIz, ez, h1, newRow]) hk

/-! ### A heap of one shape -/
def HpIs (S : Hp) (r : Nat → Option Nat) : List Nat → Nat → List (Nat × Option Blk) → Prop
  | [], _, [] => True
  | i :: l, k, (k', b) :: bs => k' = k ∧ (S.get i).map (Blk.ren r) = b ∧ HpIs S r l (k + 1) bs
  | _, _, _ => False
theorem hpIs_sub {S : Hp} {r : Nat → Option Nat} : ∀ {l : List Nat} {k : Nat} {bs : List (Nat × Option Blk)}, HpIs S r l k bs → subL S r l k = bs
  | [], _, [], _ => rfl
  | _ :: _, _, (_, _) :: _, ⟨h1, h2, h3⟩ => by subst h1; unfold subL; rw [h2, hpIs_sub h3]
  | [], _, _ :: _, h => h.elim
  | _ :: _, _, [], h => h.elim
theorem hp_is {S : Hp} {l : List Nat} {bs : List (Nat × Option Blk)} (h : HpIs S (idx l) l 0 bs) : S.sub l = ⟨l.length, bs⟩ := by
  unfold Hp.sub
  rw [hpIs_sub h]
theorem flat_ren {r : Nat → Option Nat} : ∀ {a : AV}, a.flat = true → a.ren r = a
  | .sc _, _ | .vptr _ _, _ | .vsl _ _ _ _, _ | .junk, _ | .opq, _ => by simp [AV.ren]
theorem flat_renL {r : Nat → Option Nat} : ∀ {cs : List AV}, cs.all AV.flat = true → renL r cs = cs
  | [], _ => rfl
  | a :: as, h => by
    simp only [List.all_cons, Bool.and_eq_true] at h
    unfold renL
    rw [flat_ren h.1, flat_renL h.2]
theorem blk_fl {S : Hp} {r : Nat → Option Nat} {i : Nat} {cs : List AV} {ez : Nat} {et : TypeId} (hb : find i S.bs = some ⟨cs, ez, et⟩) (hf : cs.all AV.flat = true) : (S.get i).map (Blk.ren r) = some ⟨cs, ez, et⟩ := by
  have : S.get i = some ⟨cs, ez, et⟩ := hb
  rw [this]
  show some (Blk.ren r ⟨cs, ez, et⟩) = _
  unfold Blk.ren
  rw [flat_renL hf]
/-- A block of the heap, spelled anew. -/
theorem blk_is {i : Nat} {bs : List (Nat × Option Blk)} {cs cs' : List AV} {ez : Nat} {et : TypeId} (hb : find i bs = some ⟨cs, ez, et⟩) (hc : cs = cs') : find i bs = some ⟨cs', ez, et⟩ := hc ▸ hb
theorem blk_back {i : Nat} {bs : List (Nat × Option Blk)} {r : Nat → Option Nat} {cs : List AV} {ez : Nat} {et : TypeId} (hb : find i bs = some ⟨renL r cs, ez, et⟩) (hf : cs.all AV.flat = true) : find i bs = some ⟨cs, ez, et⟩ := blk_is hb (flat_renL hf)
theorem iw_at {is : List Item} (l : List Nat) {e : List (Nat × AV)} {b : List (Nat × Option Blk)} {k : Nat} (hk : IW P N is Q ⟨e, [], ⟨k, b⟩⟩) (hn : l.Nodup) (hl : Keeps N.k l = true) (hd : σ.dfs = []) (hlen : l.length = k) (he : SubEnv e (σ.sub l)) (hh : HpIs σ.hp (idx l) l 0 b) : IW P N is Q σ :=
  iw_to l hk hn hl hd he (by rw [hp_is hh, hlen])
/-- A loop by an invariant; its heap is told block by block. -/
theorem awp_loopI {c : Code} {α : Type} (inv : α → Prop) (m : α → Nat) (e : α → List (Nat × AV)) (k : Nat) (h : α → List (Nat × Option Blk)) (a : α) (l : List Nat) (hn : l.Nodup) (hl : Keeps N.k l = true) (hd : σ.dfs = []) (hlen : l.length = k) (hi : inv a) (he : SubEnv (e a) (σ.sub l)) (hh : HpIs σ.hp (idx l) l 0 (h a))
    (step : ∀ a, inv a → (∀ b, inv b → m b < m a → IW P N [.inLoop c] Q ⟨e b, [], ⟨k, h b⟩⟩) → AWP P N c (thenQ (IW P N [.inLoop c] Q) Q) ⟨e a, [], ⟨k, h a⟩⟩) : AWP P N (.loop c) Q σ :=
  awp_inv inv m e (fun a => ⟨k, h a⟩) a l hn hl hd hi he (by rw [hp_is hh, hlen]) step

/-! ### Loops by goto -/
/-- What is walked behind a label of a scope. -/
def strip : Code → Code
  | .seq .skip x => x
  | c => c
theorem awp_strip {c : Code} (h : AWP P N (strip c) Q σ) : AWP P N c Q σ := by
  unfold strip at h
  split at h
  · exact awp_seq (awp_skip h)
  · exact h
def restOf (body : Code) (l : Nat) : Code := match findLabel body l with | some r => strip r | none => .skip
theorem s_goto {body : Code} {l : Nat} (hf : (findLabel body l).isSome = true) (h : IW P N [.code (restOf body l)] (scopeQ P N body Q) σ) : scopeQ P N body Q (.goto l) σ := by
  unfold restOf at h
  cases hh : findLabel body l with
  | none => rw [hh] at hf; cases hf
  | some r =>
    rw [hh] at h
    exact s_g hh (iw_scope (awp_strip h))
/-- The labels of a scope: each with what holds where it is come to. -/
theorem awp_labels {body : Code} {α : Type} (inv : α → Prop) (lab m : α → Nat) (e : α → List (Nat × AV)) (k : Nat) (h : α → List (Nat × Option Blk))
    (step : ∀ a, inv a → (∀ b, inv b → m b < m a → AWP P N (restOf body (lab b)) (scopeQ P N body Q) ⟨e b, [], ⟨k, h b⟩⟩) → AWP P N (restOf body (lab a)) (scopeQ P N body Q) ⟨e a, [], ⟨k, h a⟩⟩) :
    ∀ a, inv a → AWP P N (restOf body (lab a)) (scopeQ P N body Q) ⟨e a, [], ⟨k, h a⟩⟩ := fun a ha => by
  have key : ∀ n a, m a ≤ n → inv a → AWP P N (restOf body (lab a)) (scopeQ P N body Q) ⟨e a, [], ⟨k, h a⟩⟩ := fun n => by
    induction n with
    | zero => exact fun a h1 h2 => step a h2 fun b _ h4 => by omega
    | succ n ih => exact fun a h1 h2 => step a h2 fun b h3 h4 => ih b (by omega) h3
  exact key _ a (Nat.le_refl _) ha
theorem awp_scopeL {body : Code} {α : Type} (inv : α → Prop) (lab m : α → Nat) (e : α → List (Nat × AV)) (k : Nat) (h : α → List (Nat × Option Blk))
    (step : ∀ a, inv a → (∀ b, inv b → m b < m a → AWP P N (restOf body (lab b)) (scopeQ P N body Q) ⟨e b, [], ⟨k, h b⟩⟩) → AWP P N (restOf body (lab a)) (scopeQ P N body Q) ⟨e a, [], ⟨k, h a⟩⟩)
    (enter : (∀ a, inv a → AWP P N (restOf body (lab a)) (scopeQ P N body Q) ⟨e a, [], ⟨k, h a⟩⟩) → AWP P N body (scopeQ P N body Q) σ) : AWP P N (.scope body) Q σ :=
  awp_scope (iw_scope (enter (awp_labels inv lab m e k h step)))
/-! ### Rows of strings, of bytes -/
def strs (l : List ByteArray) : List AV := l.map fun s => .sc (.string s)
theorem strs_length (l : List ByteArray) : (strs l).length = l.length := by simp [strs]
theorem strs_len1 (l : List ByteArray) : (strs l).length = l.length * 1 := by simp [strs]
theorem strs_snoc (l : List ByteArray) (s : ByteArray) : strs l ++ [.sc (.string s)] = strs (l ++ [s]) := by simp [strs]
theorem strs_append (l m : List ByteArray) : strs l ++ strs m = strs (l ++ m) := by simp [strs]
theorem strs_flat (l : List ByteArray) : (strs l).all AV.flat = true := by simp [strs, AV.flat]
theorem strs_one (l : List ByteArray) : (strs l).all AV.one = true := by simp [strs, AV.one, Value.oneCell']
theorem strs_get {l : List ByteArray} {i : Nat} (h : i < l.length) : (strs l)[i]? = some (.sc (.string l[i])) := by simp [strs, h]
theorem take_strs (l : List ByteArray) : ((strs l).drop (0 * 1)).take (l.length * 1) = strs l := by simp only [List.drop_zero, Nat.mul_one]; exact List.take_of_length_le (by simp [strs])
def byts (l : List Int) : List AV := l.map fun n => .sc (.int .u8 n)
theorem byts_length (l : List Int) : (byts l).length = l.length := by simp [byts]
theorem byts_len1 (l : List Int) : (byts l).length = l.length * 1 := by simp [byts]
theorem byts_snoc (l : List Int) (s : Int) : byts l ++ [.sc (.int .u8 s)] = byts (l ++ [s]) := by simp [byts]
theorem byts_append (l m : List Int) : byts l ++ byts m = byts (l ++ m) := by simp [byts]
theorem byts_flat (l : List Int) : (byts l).all AV.flat = true := by simp [byts, AV.flat]
theorem byts_one (l : List Int) : (byts l).all AV.one = true := by simp [byts, AV.one, Value.oneCell']
theorem byts_get {l : List Int} {i : Nat} (h : i < l.length) : (byts l)[i]? = some (.sc (.int .u8 l[i])) := by simp [byts, h]
theorem take_byts (l : List Int) : ((byts l).drop (0 * 1)).take (l.length * 1) = byts l := by simp only [List.drop_zero, Nat.mul_one]; exact List.take_of_length_le (by simp [byts])
/-- A string's bytes, as numbers. -/
def ints (s : ByteArray) : List Int := s.data.toList.map fun b => (b.toNat : Int)
theorem bytesOf_eq (s : ByteArray) : bytesOf s = byts (ints s) := by simp [bytesOf, byts, ints]
theorem ints_length (s : ByteArray) : (ints s).length = s.size := by simp [ints]
theorem y_lenN {x : Operand} {t e : TypeId} [ht : Und P t (.slice e)] (hx : σ.ev x = .sc (.slice none 0 0)) : Yld P N ⟨d, .call ⟨.builtin .len, #[x], #[t]⟩, ty, pos, af, gd⟩ σ (.sc (.int .i64 0)) :=
  yld_pure fun ρ Z F a w hr => ⟨_, rfl, fun w' => by
    simp [execOp, resolve, invoke, builtin, Builtin.len_, ev_sc hr hx, run_underlying ht.out, goInt]⟩
end
end Go.Proofs.YtdcnpkbflelpfaaDoor.Sx
