/- A byte's place in a string; how often it stands there; an entry taken from a map; a view without room. -/
import Derived.Test.YtdcnpkbflelpfaaDoorSx37
import Derived.Lib.Bytealg
import Derived.Laws.MakeOwn
namespace Go.Proofs.YtdcnpkbflelpfaaDoor.Sx
open Go Go.RowKit
section
variable {P : Program} {N : Sg} {σ : St} {d : Option Tmp} {ty : TypeId} {pos : String} {af : Array Edge} {gd : Option (Nat × Bool)}
theorem y_idxB {f : FuncId} {x y : Operand} {ts : Array TypeId} {s : ByteArray} {c : Int} [he : Extn P f Extern.BytealgIndexByte.indexByte] (hx : σ.ev x = .sc (.string s)) (hy : σ.ev y = .sc (.int .u8 c)) :
    Yld P N ⟨d, .call ⟨.value (.func f), #[x, y], ts⟩, ty, pos, af, gd⟩ σ (.sc (.int .i64 (Lib.indexByte s.data.toList c.toNat.toUInt8))) :=
  yld_pure fun ρ Z F a w hr => ⟨_, rfl, fun w' => by
    have hrun : (execOp a.eval ⟨d, .call ⟨.value (.func f), #[x, y], ts⟩, ty, pos, af, gd⟩).run P w' = (callFunc f #[a.eval x, a.eval y]).run P w' := by
      simp [execOp, resolve, Deferred.ofValue, Act.eval, invoke]
    rw [hrun, he.out, ev_sc hr hx, ev_sc hr hy, Lib.run_indexByteString]
    rfl⟩
theorem y_cntB {f : FuncId} {x y : Operand} {ts : Array TypeId} {s : ByteArray} {c : Int} [he : Extn P f Extern.BytealgCount.count] (hx : σ.ev x = .sc (.string s)) (hy : σ.ev y = .sc (.int .u8 c)) :
    Yld P N ⟨d, .call ⟨.value (.func f), #[x, y], ts⟩, ty, pos, af, gd⟩ σ (.sc (.int .i64 (Lib.countByte s.data.toList c.toNat.toUInt8 : Nat))) :=
  yld_pure fun ρ Z F a w hr => ⟨_, rfl, fun w' => by
    have hrun : (execOp a.eval ⟨d, .call ⟨.value (.func f), #[x, y], ts⟩, ty, pos, af, gd⟩).run P w' = (callFunc f #[a.eval x, a.eval y]).run P w' := by
      simp [execOp, resolve, Deferred.ofValue, Act.eval, invoke]
    rw [hrun, he.out, ev_sc hr hx, ev_sc hr hy, Lib.run_countString]
    rfl⟩
end
section
variable {P : Program} {κ : Type} [DecidableEq κ]
def mdel (l : List (κ × AV)) (a : κ) : List (κ × AV) := match l with
  | [] => []
  | p :: r => if p.1 = a then r else p :: mdel r a
theorem entR_del {kt : TypeId} {kf : κ → Value} [K : MKey P kt κ kf] {ρ : Nat → Option Geo} {Z : Nat → Option Obj} {a : κ} : ∀ {l : List (κ × AV)} {es : List MapEntry} {i : Nat} {r : Option (Nat × Value)}, EntR ρ Z kf l es → Instr.findNow K.desc (kf a) es i = some r →
    (r = none ∧ mdel l a = l) ∨ ∃ j x, r = some (i + j, x) ∧ j < es.length ∧ EntR ρ Z kf (mdel l a) (es.eraseIdx j)
  | [], [], _, r, _, h => by simp [Instr.findNow] at h; exact .inl ⟨h.symm, rfl⟩
  | [], _ :: _, _, _, h, _ => h.elim
  | _ :: _, [], _, _, h, _ => h.elim
  | p :: l, e :: es, i, r, ⟨h1, h2, h3⟩, h => by
    unfold Instr.findNow at h
    rw [h1, K.now] at h
    by_cases hp : a = p.1
    · rw [decide_eq_true hp] at h
      simp only [Option.some.injEq] at h
      refine .inr ⟨0, e.val, by rw [← h]; rfl, by simp, ?_⟩
      simp only [mdel, if_pos hp.symm, List.eraseIdx_cons_zero]
      exact h3
    · rw [decide_eq_false hp] at h
      simp only at h
      rcases entR_del (kt := kt) (i := i + 1) h3 h with ⟨g1, g2⟩ | ⟨j, x, g1, g2, g3⟩
      · exact .inl ⟨g1, by simp only [mdel, if_neg (Ne.symm hp), g2]⟩
      · refine .inr ⟨j + 1, x, by rw [g1]; congr 2; omega, by simp; omega, ?_⟩
        simp only [mdel, if_neg (Ne.symm hp), List.eraseIdx_cons_succ]
        exact ⟨h1, h2, g3⟩
theorem stamp_del {es : Array MapEntry} {c j : Nat} (h : stampB es c = true) : stampB (es.eraseIdxIfInBounds j) c = true := by
  unfold Array.eraseIdxIfInBounds
  split
  · unfold stampB at h ⊢
    simp only [Bool.and_eq_true, List.all_eq_true, decide_eq_true_eq, Array.toList_eraseIdx] at h ⊢
    exact ⟨fun e he => h.1 e ((List.eraseIdx_sublist _ _).subset he), h.2.sublist ((List.eraseIdx_sublist _ _).map _)⟩
  · exact h
variable {N : Sg} {d : Option Tmp} {ty : TypeId} {pos : String} {af : Array Edge} {gd : Option (Nat × Bool)} {K : St → Prop} {env : List (Nat × AV)} {dfs : List (FuncId × List AV)} {n : Nat} {bs : List (Nat × Option Blk)}
theorem x_delete {T kt et k' : TypeId} {kf : κ → Value} {x y : Operand} {id : Nat} {et' : TypeId} {l : List (κ × AV)} {a : κ} [hT : Und P T (.map kt et)] [Kk : MKey P kt κ kf]
    (hx : St.ev ⟨env, dfs, ⟨n, bs⟩⟩ x = .mp id) (hb : find id bs = some ⟨mpc kf l, 0, et'⟩) (hy : St.ev ⟨env, dfs, ⟨n, bs⟩⟩ y = .sc (kf a))
    (hk : K ⟨env, dfs, ⟨n, (id, some ⟨mpc kf (mdel l a), 0, et'⟩) :: bs⟩⟩) : AExec P N ⟨none, .call ⟨.builtin .delete, #[x, y], #[T, k']⟩, ty, pos, af, gd⟩ K ⟨env, dfs, ⟨n, bs⟩⟩ := fun ρ Z F ac w hr next Qc hn => by
  have hx' := hr.ev x
  rw [hx] at hx'
  obtain ⟨g, hg, g0, gm, e⟩ := hx'
  obtain ⟨es, clock, h1, h2, h3, hst⟩ := hr.hp.mapAt (S := ⟨n, bs⟩) (b := ⟨mpc kf l, 0, et'⟩) hb hg g0 gm rfl
  have hE := entR_of (by simpa using h2) h3
  have hesz := hr.hp.esz (S := ⟨n, bs⟩) (b := ⟨mpc kf l, 0, et'⟩) hb hg
  have hlt := (Array.getElem?_eq_some_iff.1 h1).1
  have r1 := Go.MapKept.run_getObj_map (P := P) h1
  have r2 := Go.MapKept.run_checkKey (P := P) (w := w) Kk.und (Kk.key a) es.isEmpty 9999
  have fin : ∀ (es' : Array MapEntry), (Builtin.delete_ #[T, k'] ty #[.map (some g.blk), kf a]).run P w = .ok (.tuple #[]) { w with heap := w.heap.setIfInBounds g.blk (.map es' clock) } → EntR ρ Z kf (mdel l a) es'.toList → stampB es' clock = true →
      Oper.wp P ⟨none, .call ⟨.builtin .delete, #[x, y], #[T, k']⟩, ty, pos, af, gd⟩ ac w next Qc := fun es' hrun0 hE' hst' => by
    have hrun : (execOp ac.eval ⟨none, .call ⟨.builtin .delete, #[x, y], #[T, k']⟩, ty, pos, af, gd⟩).run P w = .ok (.value (.tuple #[])) { w with heap := w.heap.setIfInBounds g.blk (.map es' clock) } := by
      have hy' := ev_sc hr hy
      simp [execOp, resolve, invoke, builtin, e, hy', hrun0, Result.andThen]
      done
    unfold Oper.wp
    rw [hrun]
    obtain ⟨k1, k2⟩ := entR_to hE'
    refine hn _ _ ρ Z ⟨env, dfs, ⟨n, (id, some ⟨mpc kf (mdel l a), 0, et'⟩) :: bs⟩⟩ ⟨.refl _, rfl, rfl, rfl, by simp⟩ ⟨hr.size, hr.env, hr.dfs, ?_, hr.kk⟩ hk
    refine hr.hp.set (S := ⟨n, bs⟩) (b := ⟨mpc kf l, 0, et'⟩) (b' := ⟨mpc kf (mdel l a), 0, et'⟩) hb hg ⟨fun h => by omega, fun _ => ⟨hesz, fun h => (by rw [gm] at h; cases h), fun _ => ⟨.map es' clock, es'.toList.map entV, by simp [hlt], (by simp [ents, hst']), by simpa using k1, k2⟩⟩⟩ (.inr gm) (fun k hk => by simp [Array.getElem?_setIfInBounds_ne (Ne.symm hk)])
  have hfn : ∃ r, Instr.findNow Kk.desc (kf a) es.toList 0 = some r := by
    rcases findNow_at (P := P) (kt := kt) (a := a) 0 hE with ⟨_, hf⟩ | ⟨_, _, _, _, _, _, _, hf⟩
    · exact ⟨_, hf⟩
    · exact ⟨_, hf⟩
  obtain ⟨r, hf⟩ := hfn
  have r3 := Go.MapKept.run_findKey (P := P) (w := w) Kk.und hf
  rcases entR_del (P := P) (kt := kt) hE hf with ⟨rfl, hm⟩ | ⟨j, v, rfl, hj, hE'⟩
  · refine fin es ?_ (by rw [hm]; exact hE) hst
    simp [Builtin.delete_, run_underlying hT.out, r1, r2, r3, Go.MapKept.run_setObj_map _ h1, Result.andThen]
  · refine fin (es.eraseIdxIfInBounds j) ?_ ?_ (stamp_del hst)
    · simp [Builtin.delete_, run_underlying hT.out, r1, r2, r3, Go.MapKept.run_setObj_map _ h1, Result.andThen]
    · have hjs : j < es.size := by simpa using hj
      unfold Array.eraseIdxIfInBounds
      rw [dif_pos hjs]
      simpa using hE'
end
section
variable {P : Program} {N : Sg} {tt : Tmp} {ty : TypeId} {pos : String} {af : Array Edge} {gd : Option (Nat × Bool)} {K : St → Prop} {env : List (Nat × AV)} {dfs : List (FuncId × List AV)} {n : Nat} {bs : List (Nat × Option Blk)}
theorem relP_const {ρ : Nat → Option Geo} {Z : Nat → Option Obj} {zero : Value} : ∀ {m : Nat} {us : List Value}, us.length = m → (∀ u ∈ us, u = zero) → RelP ρ Z (List.replicate m (.sc zero)) us
  | 0, [], _, _ => trivial
  | m + 1, u :: us, h, hu => ⟨hu u (by simp), relP_const (by simpa using h) (fun v hv => hu v (by simp [hv]))⟩
/-- A new slice of so many noughts. -/
theorem x_makeSl {t e : TypeId} {bytes m : Nat} {zero : Value} {x y : Operand} {cs : List AV} [ht : Und P t (.slice e)] [hi : Inf P e 1 bytes zero] (hx : St.ev ⟨env, dfs, ⟨n, bs⟩⟩ x = .sc (.int .i64 (m : Int))) (hy : St.ev ⟨env, dfs, ⟨n, bs⟩⟩ y = .sc (.int .i64 (m : Int)))
    (hz : zero.cells = #[zero]) (hb : bytes * m ≤ 281474976710656) (h63 : m ≤ 9223372036854775807) (hc : List.replicate m (AV.sc zero) = cs) (hd : Nat.blt tt N.n = true)
    (hk : K ⟨(tt, .sl n 0 m) :: env, dfs, ⟨n + 1, (n, some ⟨cs, 1, e⟩) :: bs⟩⟩) : AExec P N ⟨some tt, .makeSlice t x y, ty, pos, af, gd⟩ K ⟨env, dfs, ⟨n, bs⟩⟩ :=
  x_new (σ := ⟨env, dfs, ⟨n, bs⟩⟩) (o := ⟨some tt, .makeSlice t x y, ty, pos, af, gd⟩) (cs := cs) (esz := 1) (cap := m) (e := e) (v := .sl n 0 m) hd (fun ρ Z F a w hr => by
    subst hc
    obtain ⟨I, hI, hIs, hIb, hIz⟩ := hi.get
    have h1 : ((bytes * m : Nat) : Int) ≤ 281474976710656 := by omega
    rw [Int.natCast_mul] at h1
    have hrun := run_make (P := P) w t e I zero ht.out hI hIz .i64 .i64 (m : Int) (m : Int) (by omega) (Int.le_refl _) (by rw [hIb]; exact h1) (by omega)
    refine ⟨.slice (some ⟨w.heap.size, 0, none⟩) m m, madeCells zero.cells (m * 1), ?_, size_madeCells _ _, relP_const (by rw [Array.length_toList, size_madeCells]; omega) ?_, ⟨_, _, upd_same .., rfl, by show 0 + m ≤ m; omega, fun _ => by simp⟩⟩
    · rw [hIs] at hrun
      simp only [Int.toNat_natCast] at hrun
      simp only [execOp, ev_sc hr hx, ev_sc hr hy, Sem.run_bind, hrun, Result.andThen_ok, Sem.run_pure]
    · intro u hu
      rw [hz] at hu
      simp only [madeCells, Nat.mul_one, Array.toList_map, List.mem_map] at hu
      obtain ⟨i, _, rfl⟩ := hu
      simp [Nat.mod_one]) hk
end
section
variable {P : Program} {N : Sg} {σ : St} {d : Option Tmp} {ty : TypeId} {pos : String} {af : Array Edge} {gd : Option (Nat × Bool)}
/-- Two strings in order. -/
theorem y_ltS {xt yt : TypeId} {x y : Operand} {s t : ByteArray} {b : Bool} (hx : σ.ev x = .sc (.string s)) (hy : σ.ev y = .sc (.string t)) (hb : Op.bytesLess s.toList t.toList = b) : Yld P N ⟨d, .binOp .lss xt x y yt, ty, pos, af, gd⟩ σ (.sc (.bool b)) :=
  yld_pure fun ρ Z F a w hr => ⟨_, rfl, fun w' => by
    subst hb
    simp [execOp, ev_sc hr hx, ev_sc hr hy, eqGuard_lss, binOp_string_lss]⟩
theorem less_irrefl : ∀ l : List UInt8, Op.bytesLess l l = false
  | [] => rfl
  | a :: l => by simp [Op.bytesLess, less_irrefl l]
theorem y_slice_vsl_l {t e : TypeId} {size bytes : Nat} {zero : Value} {x lo : Operand} {cs : List AV} {o len : Nat} {k : IntKind} {l : Int} [ht : Und P t (.slice e)] [hI : Inf P e size bytes zero] (hx : σ.ev x = .vsl cs size o len) (hl : σ.ev lo = .sc (.int k l)) (h0 : 0 ≤ l) (h1 : l ≤ len) :
    Yld P N ⟨d, .slice t x (some lo) none none, ty, pos, af, gd⟩ σ (.vsl cs size (o + l.toNat) (len - l.toNat)) :=
  yld_pure fun ρ Z F a w hr => by
    have := hr.ev x
    rw [hx] at this
    obtain ⟨A, cap, e1, hc, hrel⟩ := rel_sliced_vsl (l := l.toNat) (h := len) (size := size) this (by omega) (Nat.le_refl _)
    refine ⟨_, hrel, fun w' => ?_⟩
    simp only [execOp, e1, ev_sc hr hl, Option.map, run_slice_bounds (bounds_l (P := P) (k := k) (w := w') (len := len) h0 h1 hc), Sem.run_bind, Result.andThen_ok, Sem.run_pure]
end
section
variable {P : Program} {N : Sg} {Q : Exit → St → Prop} {env : List (Nat × AV)} {dfs : List (FuncId × List AV)} {n : Nat} {bs : List (Nat × Option Blk)}
/-- A nil slice that lies in a block is a view of nothing. -/
theorem iw_nilV {is : List Item} (id off ez : Nat) {cs : List AV} {bz : Nat} {bt : TypeId} (hb : find id bs = some ⟨cs, bz, bt⟩) (hc : cs[off]? = some (.sc (.slice none 0 0))) (hk : IW P N is Q ⟨env, dfs, ⟨n, (id, some ⟨cs.set off (.vsl [] ez 0 0), bz, bt⟩) :: bs⟩⟩) : IW P N is Q ⟨env, dfs, ⟨n, bs⟩⟩ := fun ρ Z F a w hr => by
  obtain ⟨g, hg, hbl⟩ := hr.hp.live id ⟨cs, bz, bt⟩ hb
  have h0 : 0 < g.cap := hbl.room hc fun u u' h => by have h' : Value.tuple #[u, u'] = .slice none 0 0 := h; cases h'
  obtain ⟨cur, h1, h2, h3, h4⟩ := hbl.1 h0
  obtain ⟨v, hv, hvr⟩ := h4.get hc
  have hv' : v = .slice none 0 0 := hvr
  subst hv'
  have hset : HpRel ρ Z F (Hp.put ⟨n, bs⟩ id ⟨cs.set off (.vsl [] ez 0 0), bz, bt⟩) w := by
    refine hr.hp.set (S := ⟨n, bs⟩) (b := ⟨cs, bz, bt⟩) hb hg (.of h0 ⟨cur, h1, h2, h3, ?_⟩) (.inl h0) (fun _ _ => rfl)
    have := h4.set (i := off) (a := .vsl [] ez 0 0) (u := .slice none 0 0) (nil_view (ρ := ρ) (Z := Z) (esz := ez) rfl)
    have e : cur.toList.set off (.slice none 0 0) = cur.toList := by
      apply List.ext_getElem?
      intro j
      rw [List.getElem?_set]
      split
      · rename_i e; subst e
        rw [hv]; split
        · rfl
        · rename_i hlt; rw [List.getElem?_eq_none (by omega)] at hv; cases hv
      · rfl
    rwa [e] at this
  exact hk ρ Z F a w ⟨hr.size, hr.env, hr.dfs, hset, hr.kk⟩
/-- A slot that holds a nil slice: a view of nothing. -/
theorem iw_nilT {is : List Item} {hp : Hp} (t : Tmp) (ez : Nat) (ht : look t env = .sc (.slice none 0 0)) (hk : IW P N is Q ⟨(t, .vsl [] ez 0 0) :: env, dfs, hp⟩) : IW P N is Q ⟨env, dfs, hp⟩ := fun ρ Z F a w hr => by
  refine hk ρ Z F a w ⟨hr.size, fun i => ?_, hr.dfs, hr.hp, hr.kk⟩
  show Rel _ Z (look i ((t, .vsl [] ez 0 0) :: env)) _
  rw [look_cons]
  have hi := hr.env i
  split
  · rename_i e
    subst e
    have ht' : St.get ⟨env, dfs, hp⟩ t = .sc (.slice none 0 0) := ht
    rw [ht'] at hi
    exact nil_view hi
  · exact hi
end
end Go.Proofs.YtdcnpkbflelpfaaDoor.Sx
