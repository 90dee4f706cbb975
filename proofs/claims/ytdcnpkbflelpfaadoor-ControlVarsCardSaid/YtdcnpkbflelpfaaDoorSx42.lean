/- A rune as a string; a buffer of whatever bytes; no bytes copied; room of nil. -/
import Derived.Test.YtdcnpkbflelpfaaDoorSx36
import Derived.Test.YtdcnpkbflelpfaaDoorSx30
import Derived.Test.YtdcnpkbflelpfaaDoorSx22
import Derived.Test.YtdcnpkbflelpfaaDoorSx41
import Derived.Laws.Runes
import Derived.Laws.Cover3
import Derived.Laws.IdiomCopy
import Derived.Lib.MakeNoZero
namespace Go.Proofs.YtdcnpkbflelpfaaDoor.Sx
open Go Go.RowKit
section
variable {P : Program} {N : Sg} {σ : St} {d : Option Tmp} {ty : TypeId} {pos : String} {af : Array Edge} {gd : Option (Nat × Bool)}
theorem y_runeS {src dst : TypeId} {x : Operand} {k : IntKind} {n : Int} {d0 : TypeDesc} [hs : Und P src d0] [hd : Und P dst .string] (hx : σ.ev x = .sc (.int k n)) : Yld P N ⟨d, .convert src dst x, ty, pos, af, gd⟩ σ (.sc (.string (Utf8.encode n))) :=
  yld_pure fun ρ Z F a w hr => ⟨_, rfl, fun w' => by
    simp [execOp, ev_sc hr hx, run_convert_int_string w' src dst k n (by rw [hs.out]; rfl) hd.out]⟩
theorem y_cap0 {x : Operand} {t e : TypeId} [ht : Und P t (.slice e)] (hx : σ.ev x = .sc (.slice none 0 0)) : Yld P N ⟨d, .call ⟨.builtin .cap, #[x], #[t]⟩, ty, pos, af, gd⟩ σ (.sc (.int .i64 0)) :=
  yld_pure fun ρ Z F a w hr => ⟨_, rfl, fun w' => by
    simp [execOp, resolve, invoke, builtin, Builtin.cap_, ev_sc hr hx, run_underlying ht.out, goInt]⟩
theorem p_cap0 {x : Operand} {t e : TypeId} [ht : Und P t (.slice e)] (hx : σ.ev x = .sc (.slice none 0 0)) : Pur P N ⟨d, .call ⟨.builtin .cap, #[x], #[t]⟩, ty, pos, af, gd⟩ σ (.sc (.int .i64 0)) := fun ρ Z F a w hr => ⟨_, rfl, fun w' => by
    simp [execOp, resolve, invoke, builtin, Builtin.cap_, ev_sc hr hx, run_underlying ht.out, goInt]⟩
theorem p_len0 {x : Operand} {t e : TypeId} [ht : Und P t (.slice e)] (hx : σ.ev x = .sc (.slice none 0 0)) : Pur P N ⟨d, .call ⟨.builtin .len, #[x], #[t]⟩, ty, pos, af, gd⟩ σ (.sc (.int .i64 0)) := fun ρ Z F a w hr => ⟨_, rfl, fun w' => by
    simp [execOp, resolve, invoke, builtin, Builtin.len_, ev_sc hr hx, run_underlying ht.out, goInt]⟩
theorem y_copy0 {x y : Operand} {t u e : TypeId} {bytes : Nat} {zero : Value} {id : Nat} [ht : Und P t (.slice e)] [hi : Inf P e 1 bytes zero] (hx : σ.ev x = .sl id 0 0) (hy : σ.ev y = .sc (.slice none 0 0)) : Yld P N ⟨d, .call ⟨.builtin .copy, #[x, y], #[t, u]⟩, ty, pos, af, gd⟩ σ (.sc (.int .i64 0)) :=
  yld_pure fun ρ Z F a w hr => ⟨_, rfl, fun w' => by
    have h1 := hr.ev x
    rw [hx] at h1
    obtain ⟨g, A, hg, hu, _, _⟩ := h1
    obtain ⟨I, hI, hIs, _, _⟩ := hi.get
    have := run_copy_none (P := P) w' t u ty e A none 0 (g.cap - 0) 0 0 ht.out (by rw [hI]; simp [hIs]) (by rfl)
    simp only [Nat.sub_zero, goInt] at this
    simp [execOp, resolve, invoke, builtin, ev_sc hr hy, hu, this]⟩
end
section
variable {P : Program} {N : Sg} {ty : TypeId} {pos : String} {af : Array Edge} {gd : Option (Nat × Bool)} {K : St → Prop} {env : List (Nat × AV)} {dfs : List (FuncId × List AV)} {n : Nat} {bs : List (Nat × Option Blk)} {tt : Tmp}
/-- internal/bytealg.MakeNoZero. -/
theorem x_noZero {f : FuncId} {x : Operand} {ts ps : Array TypeId} {t e : TypeId} {m : Nat} {z : Int} [he : Extn P f (Extern.BytealgMakeNoZero.makeNoZero ps #[t])] [ht : Und P t (.slice e)]
    (hx : St.ev ⟨env, dfs, ⟨n, bs⟩⟩ x = .sc (.int .i64 z)) (hz : z = (m : Int)) (hm : m ≤ 281474976710656) (hd : Nat.blt tt N.n = true) (hk : K ⟨(tt, .sl n 0 m) :: env, dfs, ⟨n + 1, (n, some ⟨[], 1, e⟩) :: bs⟩⟩) :
    AExec P N ⟨some tt, .call ⟨.value (.func f), #[x], ts⟩, ty, pos, af, gd⟩ K ⟨env, dfs, ⟨n, bs⟩⟩ := fun ρ Z F a w hr next Qc hn => by
  obtain ⟨cs, h1, h2, _⟩ := Lib.run_makeNoZero (P := P) w ps t e ht.out m hm
  have hrun : (execOp a.eval ⟨some tt, .call ⟨.value (.func f), #[x], ts⟩, ty, pos, af, gd⟩).run P w = .ok (.value (.slice (some ⟨w.heap.size, 0, none⟩) m cs.size)) (w.drew.drew.alloc (.cells cs e)) := by
    have hrun : (execOp a.eval ⟨some tt, .call ⟨.value (.func f), #[x], ts⟩, ty, pos, af, gd⟩).run P w = (callFunc f #[a.eval x]).run P w := by
      simp [execOp, resolve, Deferred.ofValue, Act.eval, invoke]
    rw [hrun, he.out, ev_sc hr hx, hz, h1]
    rfl
  unfold Oper.wp
  rw [hrun]
  have hf : ρ n = none := hr.hp.fresh n (Nat.le_refl _)
  have hle := upd_le (g := ⟨w.heap.size, cs.size, 1, false⟩) hf
  refine hn _ _ (upd ρ n ⟨w.heap.size, cs.size, 1, false⟩) Z ⟨(tt, .sl n 0 m) :: env, dfs, ⟨n + 1, (n, some ⟨[], 1, e⟩) :: bs⟩⟩ ⟨.refl _, rfl, rfl, rfl, Nat.le_of_lt (by show w.heap.size < (w.heap.push _).size; simp)⟩ (StRel.put (σ := ⟨env, dfs, ⟨n + 1, (n, some ⟨[], 1, e⟩) :: bs⟩⟩) (d := some tt) (v := .sl n 0 m) ?_ (by rintro _ ⟨⟩; rwa [Nat.blt_eq] at hd) ⟨_, _, upd_same .., rfl, by show 0 + m ≤ cs.size; omega, fun _ => by simp⟩) hk
  exact ⟨hr.size, fun t => (hr.env t).mono hle (.refl _), hr.dfs.mono hle (.refl _), hr.hp.grow (S := ⟨n, bs⟩) (b := ⟨[], 1, e⟩) (fun _ => Nat.le_refl _) (.ofN rfl ⟨cs, heap_push_new w _, by simp, rfl, trivial⟩) (fun k hk => heap_push_old w _ hk), hr.kk⟩
end
section
variable {P : Program} {N : Sg} {Q : Exit → St → Prop} {env : List (Nat × AV)} {dfs : List (FuncId × List AV)} {n : Nat} {bs : List (Nat × Option Blk)}
theorem HpRel.frzD {ρ : Nat → Option Geo} {Z : Nat → Option Obj} {F : Ctx} {S : Hp} {w : World} (h : HpRel ρ Z F S w) {id : Nat} {b : Blk} {g : Geo} (hi : S.get id = some b) (hg : ρ id = some g) (h0 : 0 < g.cap) (hf : deepL b.cells = true) :
    ∃ cur Z', w.heap[g.blk]? = some (.cells cur b.ety (0, 0)) ∧ Z' g.blk = some (.cells cur b.ety (0, 0)) ∧ g.esz = b.esz ∧ Le Z Z' ∧ RelP (fun _ => none) Z' b.cells cur.toList ∧ HpRel ρ Z' F (S.kill id) w := by
  obtain ⟨cur, h1, h2, h3, h4⟩ := h.liveAt hi hg h0
  have hz := h.offZ id b g hi hg (.inl h0)
  have hle := updZ_le (o := .cells cur b.ety (0, 0)) hz
  refine ⟨cur, updZ Z g.blk (.cells cur b.ety (0, 0)), h1, by unfold updZ; rw [if_pos rfl], h3, hle, deep_relP hle _ _ hf h4, (h.kill id).addZ h1 hz (h.offF id b g hi hg (.inl h0)) fun i bk g' hi' hg' h0' e => ?_⟩
  rw [Hp.get_kill] at hi'
  split at hi'
  · cases hi'
  · rename_i hne
    exact hne (h.inj id i b bk g g' hi hi' hg hg' (.inl h0) h0' e.symm)
/-- A slot that points into an own block that holds functions: the block is a view from now on. -/
theorem iw_frzD {is : List Item} (t : Tmp) (id : Nat) {off ez et : Nat} {cs : List AV} (ht : look t env = .ptr id off) (hb : find id bs = some ⟨cs, ez, et⟩) (hf : deepL cs = true)
    (hk : IW P N is Q ⟨(t, .vptr cs off) :: env, dfs, ⟨n, (id, none) :: bs⟩⟩) : IW P N is Q ⟨env, dfs, ⟨n, bs⟩⟩ := fun ρ Z F a w hr => by
  have hv := hr.env t
  have ht' : St.get ⟨env, dfs, ⟨n, bs⟩⟩ t = .ptr id off := ht
  rw [ht'] at hv
  obtain ⟨g, hg, g0, e⟩ := hv
  obtain ⟨cur, Z', h1, h2, h3, h4, h5, h6⟩ := hr.hp.frzD (S := ⟨n, bs⟩) (b := ⟨cs, ez, et⟩) hb hg g0 hf
  have hst : StRel N ρ Z' F ⟨(t, .vptr cs off) :: env, dfs, ⟨n, (id, none) :: bs⟩⟩ a w := ⟨hr.size, fun i => by
    show Rel ρ Z' (look i ((t, .vptr cs off) :: env)) _
    rw [look_cons]
    split
    · rename_i hti; subst hti
      exact ⟨g.blk, 0, cur, et, (0, 0), by rw [e]; simp, h2, by simpa using h5⟩
    · exact (hr.env i).mono (.refl _) h4, hr.dfs.mono (.refl _) h4, h6, hr.kk⟩
  exact iwp_imp (hk ρ Z' F a w hst) fun _ _ _ q => q.le h4
end
/-- A view against nil: of no element, it may be either. -/
theorem x_eqNilS {P : Program} {N : Sg} {ty : TypeId} {pos : String} {af : Array Edge} {gd : Option (Nat × Bool)} {K : St → Prop} {env : List (Nat × AV)} {dfs : List (FuncId × List AV)} {hp : Hp} {tt : Tmp} {x y : Operand} {t e t' : TypeId} {cs : List AV} {ez off len : Nat} [ht : Und P t (.slice e)]
    (hx : St.ev ⟨env, dfs, hp⟩ x = .vsl cs ez off len) (hy : St.ev ⟨env, dfs, hp⟩ y = .sc (.slice none 0 0)) (hd : Nat.blt tt N.n = true) (k1 : len = 0 → K ⟨(tt, .sc (.bool true)) :: env, dfs, hp⟩) (k2 : K ⟨(tt, .sc (.bool false)) :: env, dfs, hp⟩) :
    AExec P N ⟨some tt, .binOp .eql t x y t', ty, pos, af, gd⟩ K ⟨env, dfs, hp⟩ := fun ρ Z F a w hr next Qc hn => by
  have h1 := hr.ev x
  rw [hx] at h1
  obtain ⟨A, cap, hu, hcap, hlen, hA⟩ := h1
  have hg : (eqGuard .eql t x y (.slice A len cap) (.slice none 0 0)).run P w = .ok () w := by
    unfold eqGuard
    simp
  have hrun : (execOp a.eval ⟨some tt, .binOp .eql t x y t', ty, pos, af, gd⟩).run P w = .ok (.value (.bool A.isNone)) w := by
    simp [execOp, hu, ev_sc hr hy, hg, binOp, run_equal_slice_nil w t e A len cap ht.out]
  have fin : ∀ b : Bool, A.isNone = b → K ⟨(tt, .sc (.bool b)) :: env, dfs, hp⟩ → Oper.wp P ⟨some tt, .binOp .eql t x y t', ty, pos, af, gd⟩ a w next Qc := fun b hb hk => by
    unfold Oper.wp
    rw [hrun, hb]
    exact hn _ _ ρ Z _ ⟨.refl _, rfl, rfl, rfl, Nat.le_refl _⟩ (StRel.put (σ := ⟨env, dfs, hp⟩) (d := some tt) (v := .sc (.bool b)) hr (by rintro _ ⟨⟩; rwa [Nat.blt_eq] at hd) rfl) hk
  cases hb : A.isNone with
  | false => exact fin false hb k2
  | true =>
    refine fin true hb (k1 ?_)
    rcases Nat.eq_zero_or_pos len with h0 | h0
    · exact h0
    · obtain ⟨_, _, _, _, _, e1, _⟩ := hA h0
      rw [e1] at hb
      cases hb
end Go.Proofs.YtdcnpkbflelpfaaDoor.Sx
