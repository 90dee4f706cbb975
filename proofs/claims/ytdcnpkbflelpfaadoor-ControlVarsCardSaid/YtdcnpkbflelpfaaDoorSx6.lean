/- Calls: contracts over abstract values; how a caller meets them. -/
import Derived.Test.YtdcnpkbflelpfaaDoorSx5
namespace Go.Proofs.YtdcnpkbflelpfaaDoor.Sx
open Go Go.RowKit

section
variable {P : Program} {N : Sg} {Q : Exit → St → Prop} {σ : St}

theorem iw_ren {is : List Item} (l : List Nat) (hn : l.Nodup) (hl : Keeps N.k l = true) (h : IW P N is Q (σ.sub l)) : IW P N is Q σ := fun _ Z F a w hr => h _ Z F a w (hr.sub hn hl)
def SubEnv : List (Nat × AV) → St → Prop
  | [], _ => True
  | (t, v) :: r, σ => σ.get t = v ∧ SubEnv r σ
theorem subEnv_rel {ρ Z F a w} (hr : StRel N ρ Z F σ a w) : ∀ e : List (Nat × AV), SubEnv e σ → ∀ t, Rel ρ Z (look t e) (a.tmps.getD t undef)
  | [], _, _ => trivial
  | (k, v) :: e, ⟨h1, h2⟩, t => by
    rw [look_cons]
    split
    · rename_i e'; subst e'; rw [← h1]; exact hr.env _
    · exact subEnv_rel hr e h2 t
theorem iw_env {is : List Item} (e : List (Nat × AV)) (he : SubEnv e σ) (h : IW P N is Q ⟨e, σ.dfs, σ.hp⟩) : IW P N is Q σ := fun ρ Z F a w hr =>
  h ρ Z F a w ⟨hr.size, subEnv_rel hr e he, hr.dfs, hr.hp, hr.kk⟩

/-! ### Contracts -/
def RQ (Z : Nat → Option Obj) (F : Ctx) (w : World) (Q : AV → Hp → Prop) : Ending → World → Prop := fun e w' =>
  ∃ u ρ' Z' r S', e = .returned u ∧ Ext Z w Z' w' ∧ HpRel ρ' Z' F S' w' ∧ Rel ρ' Z' r u ∧ Q r S'
/-- Called with these, over this heap, the function returns, and Q holds of the result and the heap. -/
def ACalls (P : Program) (f : FuncId) (args : List AV) (S : Hp) (Q : AV → Hp → Prop) : Prop :=
  ∀ ρ Z F w (cargs : Array Value), HpRel ρ Z F S w → (∀ i, S.nxt ≤ i → F.β i = none) → cargs.size = args.length → RelP ρ Z args cargs.toList → Calls P f cargs w (RQ Z F w Q)
theorem ACalls.imp {f : FuncId} {args : List AV} {S : Hp} {Q Q' : AV → Hp → Prop} (h : ACalls P f args S Q) (hq : ∀ r S, Q r S → Q' r S) : ACalls P f args S Q' := fun ρ Z F w cargs h1 h2 h3 h4 =>
  (h ρ Z F w cargs h1 h2 h3 h4).mono fun _ _ ⟨u, ρ', Z', r, S', g1, g2, g3, g4, g5⟩ => ⟨u, ρ', Z', r, S', g1, g2, g3, g4, hq _ _ g5⟩

def ResV (P : Program) (σ : St) : ResultVar → AV → Prop
  | .tmp t, v => v = σ.get t
  | .cell a t, v => ∃ id b, σ.get a = .ptr id 0 ∧ σ.hp.get id = some b ∧
      ((Agg P t false ∧ b.cells[0]? = some v) ∨ (∃ size bytes zero, Agg P t true ∧ Inf P t size bytes zero ∧ size ≤ b.cells.length ∧ v = .agg (b.cells.take size)))
def ResL (P : Program) (σ : St) : List ResultVar → List AV → Prop
  | [], [] => True
  | r :: rs, v :: vs => ResV P σ r v ∧ ResL P σ rs vs
  | _, _ => False
def oneOf : List AV → AV
  | [v] => v
  | vs => .tup vs
def retQ (P : Program) (k : Nat) (rs : List ResultVar) (Q : AV → Hp → Prop) : Exit → St → Prop
  | .normal, σ | .ret, σ => σ.dfs = [] ∧ ∃ vs, ResL P σ rs vs ∧ ∃ l : List Nat, l.Nodup ∧ Keeps k l = true ∧ Q ((oneOf vs).ren (idx l)) (σ.hp.sub l)
  | _, _ => False
def resF (tmps : Array Value) : ResultVar → Sem Value
  | .tmp t => pure (tmps.getD t undef)
  | .cell x t => do loadVar t (← asAddr (tmps.getD x undef))
theorem resV_run {ρ Z F a w} (hr : StRel N ρ Z F σ a w) {r : ResultVar} {v : AV} (h : ResV P σ r v) :
    ∃ u, (resF a.tmps r).run P w = .ok u w ∧ Rel ρ Z v u := by
  cases r with
  | tmp t =>
    have h' : v = σ.get t := h
    subst h'
    exact ⟨_, rfl, hr.env t⟩
  | cell x t =>
    obtain ⟨id, b, h1, h2, h3⟩ := h
    have hx := hr.env x
    rw [h1] at hx
    obtain ⟨g, hg, g0, e⟩ := hx
    obtain ⟨cur, c1, c2, c3, c4⟩ := hr.hp.liveAt h2 hg g0
    have hld : ∀ u, (Instr.loadAt t (.pointer (some ⟨g.blk, 0, none⟩))).run P w = .ok u w → ((do loadVar t (← asAddr (a.tmps.getD x undef))) : Sem Value).run P w = .ok u w := fun u hu => by
      rw [e]
      simpa [Instr.loadAt, Instr.sureAddr, asAddr] using hu
    rcases h3 with ⟨ha, hv⟩ | ⟨size, bytes, zero, ha, hi, hl, rfl⟩
    · obtain ⟨u, hu, hrel⟩ := c4.get hv
      exact ⟨u, hld u (run_loadAt1 ha c1 (by simpa using hu)), hrel⟩
    · have hlen := c4.length
      simp only [Array.length_toList] at hlen
      refine ⟨_, hld _ (run_loadAtA ha hi c1 (by omega)), ⟨_, rfl, ?_, ?_⟩⟩
      · simp; omega
      · simpa using c4.take size
theorem resL_run {ρ Z F a w} (hr : StRel N ρ Z F σ a w) : ∀ {rs : List ResultVar} {vs : List AV}, ResL P σ rs vs →
    ∃ us : List Value, (rs.mapM (resF a.tmps)).run P w = .ok us w ∧ us.length = vs.length ∧ RelP ρ Z vs us
  | [], [], _ => ⟨[], rfl, rfl, trivial⟩
  | r :: rs, v :: vs, ⟨h1, h2⟩ => by
    obtain ⟨u, e1, r1⟩ := resV_run hr h1
    obtain ⟨us, e2, l2, r2⟩ := resL_run hr h2
    refine ⟨u :: us, ?_, by simp [l2], r1, r2⟩
    rw [List.mapM_cons]
    simp only [Sem.run_bind, e1, e2, Result.andThen_ok, Sem.run_pure]
  | [], _ :: _, h => h.elim
  | _ :: _, [], h => h.elim
theorem results_run {ρ Z F a w} (hr : StRel N ρ Z F σ a w) {fn : Func} {vs : List AV} (h : ResL P σ fn.results.toList vs) : ∃ u, (results fn a.tmps).run P w = .ok u w ∧ Rel ρ Z (oneOf vs) u := by
  obtain ⟨us, e, l, r⟩ := resL_run hr h
  have hm : (fn.results.mapM (resF a.tmps)).run P w = .ok us.toArray w := by
    rw [Array.mapM_eq_mapM_toList, Sem.run_map, e]
    rfl
  have hres : (results fn a.tmps).run P w = (fn.results.mapM (resF a.tmps) >>= fun vs => pure (if h : vs.size = 1 then vs[0] else .tuple vs) : Sem Value).run P w := by
    unfold results
    congr 3
  rw [hres]
  simp only [Sem.run_bind]
  rw [hm]
  simp only [Result.andThen_ok, Sem.run_pure]
  match vs, us, l, r with
  | [v], [u], _, r => exact ⟨u, by simp, r.1⟩
  | [], [], _, _ => exact ⟨_, rfl, by simp [oneOf, Rel, RelP]⟩
  | v :: v' :: vs, u :: u' :: us, l, r => exact ⟨_, rfl, by simp [oneOf, Rel]; exact ⟨by simpa using l, r⟩⟩

def envL : List AV → Nat → List (Nat × AV)
  | [], _ => []
  | a :: as, k => (k, a) :: envL as (k + 1)
theorem look_envL : ∀ (l : List AV) (k t : Nat), look t (envL l k) = if k ≤ t then (l[t - k]?).getD .junk else .junk
  | [], k, t => by simp [envL, look]
  | a :: l, k, t => by
    unfold envL
    rw [look_cons, look_envL l (k + 1) t]
    by_cases e : k = t
    · subst e; simp
    · rw [if_neg e]
      by_cases h : k + 1 ≤ t
      · rw [if_pos h, if_pos (by omega), show t - k = (t - (k + 1)) + 1 by omega]; simp
      · rw [if_neg h, if_neg (by omega)]
theorem entry_rel {ρ Z F w S} {args : List AV} {cargs : Array Value} (hp : HpRel ρ Z F S w) (hk : ∀ i, S.nxt ≤ i → F.β i = none) (hl : cargs.size = args.length) (hr : RelP ρ Z args cargs.toList) {m n : Nat} (hn : args.length + (m - args.length) = n) :
    StRel ⟨n, S.nxt⟩ ρ Z F ⟨envL args 0, [], S⟩ { tmps := cargs ++ Array.replicate (m - cargs.size) undef, defers := [] } w := by
  refine ⟨by simp [hl, hn], fun t => ?_, trivial, hp, hk⟩
  show Rel ρ Z (look t (envL args 0)) _
  rw [look_envL, if_pos (Nat.zero_le t), Nat.sub_zero]
  cases ha : args[t]? with
  | none => trivial
  | some v =>
    obtain ⟨u, hu, hrel⟩ := hr.get ha
    have ht : t < cargs.size := by
      have := (List.getElem?_eq_some_iff.1 ha).1
      omega
    have hu' : cargs[t]? = some u := by simpa using hu
    show Rel ρ Z v ((cargs ++ Array.replicate (m - cargs.size) undef).getD t undef)
    rw [Array.getD_eq_getD_getElem?, Array.getElem?_append_left ht, hu']
    exact hrel
/-- A contract is shown by a walk through the body. -/
theorem acalls_of {f : FuncId} {fn : Func} {c : Code} {args : List AV} {S : Hp} {Q : AV → Hp → Prop} (hf : P.funcs[f]? = some fn) (hb : fn.body = some c) (n : Nat) (hn : args.length + (fn.ntmps - args.length) = n)
    (h : AWP P ⟨n, S.nxt⟩ c (retQ P S.nxt fn.results.toList Q) ⟨envL args 0, [], S⟩) : ACalls P f args S Q := fun ρ Z F w cargs hp hk hl hr => by
  refine calls_of_wp hf hb (Code.wp_mono ?_ (h ρ Z F _ w (entry_rel hp hk hl hr hn)))
  rintro e a' w' ⟨ρ', Z', σ', h1, h2, h3⟩
  have key : σ'.dfs = [] ∧ (∃ vs, ResL P σ' fn.results.toList vs ∧ ∃ l : List Nat, l.Nodup ∧ Keeps S.nxt l = true ∧ Q ((oneOf vs).ren (idx l)) (σ'.hp.sub l)) → a'.defers = [] ∧ ∃ v, (results fn a'.tmps).run P w' = .ok v w' ∧ RQ Z F w Q (.returned v) w' := by
    rintro ⟨g1, vs, g2, l, g3, g4, g5⟩
    have hd := h2.dfs
    rw [g1] at hd
    obtain ⟨u, hu, hrel⟩ := results_run h2 g2
    have hs := h2.sub g3 g4
    refine ⟨?_, u, hu, u, _, Z', _, _, rfl, h1, hs.hp, hrel.ren (subρ_spec ρ' l), g5⟩
    cases hdd : a'.defers with
    | nil => rfl
    | cons x xs => rw [hdd] at hd; exact hd.elim
  cases e with
  | normal => exact key h3
  | ret => exact key h3
  | _ => exact h3.elim

/-! ### At a call -/
/-- The function is one that is entered. -/
class Callable (P : Program) (f : FuncId) : Prop where
  out : ∀ args w, (callFunc f args).run P w = .ok (.enter f args) w
theorem callable_of {f : FuncId} {fn : Func} (hf : P.funcs[f]? = some fn) (hn : (fn.name == "runtime.NumGoroutine") = false) (hb : fn.body.isNone = false) : Callable P f := ⟨fun args w => by
  unfold callFunc
  simp only [Sem.run_bind, run_program, Result.andThen_ok, hf, hn, hb, Bool.false_eq_true, if_false, Sem.run_pure]⟩

def rOut (m : List Nat) (nxt j : Nat) : Option Nat := match Nat.blt j m.length with | true => m[j]? | false => some (nxt + (j - m.length))
def backL (r : Nat → Option Nat) : List (Nat × Option Blk) → List (Nat × Option Blk)
  | [] => []
  | (j, b) :: l => match r j with | some i => (i, b.map (Blk.ren r)) :: backL r l | none => backL r l
def Hp.back (S : Hp) (m : List Nat) (S' : Hp) : Hp := ⟨S.nxt + (S'.nxt - m.length), backL (rOut m S.nxt) S'.bs ++ (m.map (fun i => (i, none)) ++ S.bs)⟩

theorem rOut_lt {m : List Nat} {nxt j : Nat} (h : j < m.length) : rOut m nxt j = m[j]? := by
  unfold rOut
  rw [show Nat.blt j m.length = true by rw [Nat.blt_eq]; exact h]
theorem rOut_ge {m : List Nat} {nxt j : Nat} (h : m.length ≤ j) : rOut m nxt j = some (nxt + (j - m.length)) := by
  unfold rOut
  rw [show Nat.blt j m.length = false by rw [Bool.eq_false_iff]; intro h'; rw [Nat.blt_eq] at h'; omega]
theorem rOut_inj {m : List Nat} {nxt j j' i : Nat} (hn : m.Nodup) (hlt : ∀ i ∈ m, i < nxt) (h : rOut m nxt j = some i) (h' : rOut m nxt j' = some i) : j = j' := by
  rcases Nat.lt_or_ge j m.length with a | a <;> rcases Nat.lt_or_ge j' m.length with b | b
  · rw [rOut_lt a] at h; rw [rOut_lt b] at h'; exact nodup_get hn h h'
  · rw [rOut_lt a] at h; rw [rOut_ge b] at h'
    have := hlt i (List.mem_of_getElem? h)
    simp at h'; omega
  · rw [rOut_ge a] at h; rw [rOut_lt b] at h'
    have := hlt i (List.mem_of_getElem? h')
    simp at h; omega
  · rw [rOut_ge a] at h; rw [rOut_ge b] at h'
    simp at h h'; omega
def hasKey (i : Nat) (l : List (Nat × Option Blk)) : Prop := ∃ b, (i, b) ∈ l
theorem find_append {i : Nat} {b : Blk} : ∀ {l1 l2 : List (Nat × Option Blk)}, find i (l1 ++ l2) = some b → find i l1 = some b ∨ (¬ hasKey i l1 ∧ find i l2 = some b)
  | [], _, h => .inr ⟨(by rintro ⟨_, h⟩; cases h), h⟩
  | (k, x) :: l1, l2, h => by
    rw [List.cons_append, find_cons] at h
    rw [find_cons]
    by_cases e : k = i
    · rw [if_pos e] at h ⊢; exact .inl h
    · rw [if_neg e] at h ⊢
      rcases find_append h with h' | ⟨h1, h2⟩
      · exact .inl h'
      · refine .inr ⟨?_, h2⟩
        rintro ⟨y, hy⟩
        cases hy with
        | head => exact e rfl
        | tail _ hm => exact h1 ⟨y, hm⟩
theorem find_backL {r : Nat → Option Nat} (hr : ∀ j j' i, r j = some i → r j' = some i → j = j') {i : Nat} {b : Blk} : ∀ {l : List (Nat × Option Blk)}, find i (backL r l) = some b → ∃ j b', r j = some i ∧ find j l = some b' ∧ b = b'.ren r
  | [], h => by cases h
  | (j0, ob) :: l, h => by
    unfold backL at h
    cases hj : r j0 with
    | none =>
      rw [hj] at h
      obtain ⟨j, b', h1, h2, h3⟩ := find_backL hr h
      refine ⟨j, b', h1, ?_, h3⟩
      rw [find_cons, if_neg (fun e => by subst e; rw [hj] at h1; cases h1)]
      exact h2
    | some i0 =>
      rw [hj] at h
      simp only [find_cons] at h
      by_cases e : i0 = i
      · rw [if_pos e] at h
        cases ob with
        | none => cases h
        | some b' =>
          subst e
          exact ⟨j0, b', hj, by rw [find_cons, if_pos rfl], by simpa using h.symm⟩
      · rw [if_neg e] at h
        obtain ⟨j, b', h1, h2, h3⟩ := find_backL hr h
        refine ⟨j, b', h1, ?_, h3⟩
        rw [find_cons, if_neg (fun e' => by subst e'; rw [hj] at h1; exact e (Option.some.inj h1))]
        exact h2
theorem find_kills {i : Nat} {b : Blk} : ∀ {m : List Nat}, find i (m.map fun i => (i, none)) = some b → False
  | [], h => by cases h
  | x :: m, h => by
    rw [List.map_cons, find_cons] at h
    split at h
    · cases h
    · exact find_kills h
theorem Hp.get_back {S S' : Hp} {m : List Nat} (hn : m.Nodup) (hlt : ∀ i ∈ m, i < S.nxt) {i : Nat} {b : Blk} (h : (S.back m S').get i = some b) :
    (∃ j b', rOut m S.nxt j = some i ∧ S'.get j = some b' ∧ b = b'.ren (rOut m S.nxt)) ∨ (i ∉ m ∧ S.get i = some b) := by
  rcases find_append h with h' | ⟨_, h'⟩
  · exact .inl (find_backL (fun j j' i => rOut_inj hn hlt) h')
  · rcases find_append h' with h'' | ⟨h1, h2⟩
    · exact (find_kills h'').elim
    · refine .inr ⟨fun hm => h1 ⟨none, List.mem_map.2 ⟨i, hm, rfl⟩⟩, h2⟩
def allLive (S : Hp) (m : List Nat) : Bool := m.all fun i => (S.get i).isSome
end
end Go.Proofs.YtdcnpkbflelpfaaDoor.Sx
