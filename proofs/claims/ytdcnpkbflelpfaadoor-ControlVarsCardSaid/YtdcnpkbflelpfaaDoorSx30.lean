/- Regions whose order is open, and whose operations may make memory that nobody writes any more: one lexical walk serves every order. -/
import Derived.Test.YtdcnpkbflelpfaaDoorSx29
namespace Go.Proofs.YtdcnpkbflelpfaaDoor.Sx
open Go Go.RowKit
section
variable {P : Program} {N : Sg} {σ : St} {d : Option Tmp} {ty : TypeId} {pos : String} {af : Array Edge} {gd : Option (Nat × Bool)} {Q : Exit → St → Prop}
  {env : List (Nat × AV)} {dfs : List (FuncId × List AV)} {hp : Hp} {t : Tmp} {v : AV} {ops : Array Oper} {op : Op}
/-- The operation yields v; what it makes stays as it is; the call's own blocks are as they were. -/
def GY (P : Program) (N : Sg) (o : Oper) (σ : St) (v : AV) : Prop :=
  ∀ ρ Z F a w, StRel N ρ Z F σ a w → ∀ (next : Act → World → Prop) (Qc : Exit → Act → World → Prop), (∀ u w' Z', Ext Z w Z' w' → (∀ S, HpRel ρ Z F S w → HpRel ρ Z' F S w') → Rel ρ Z' v u → next (a.put o.dst u) w') → o.wp P a w next Qc
theorem GY.of {o : Oper} (h : Yld P N o σ v) : GY P N o σ v := fun ρ Z F a w hr next Qc hn => by
  obtain ⟨u, h1, h2, _⟩ := h ρ Z F a w hr
  unfold Oper.wp
  rw [h2]
  exact hn u w Z (.refl _ _) (fun _ h => h) h1
theorem GY.ofQ {o : Oper} (h : QY P N o σ v) : GY P N o σ v := fun ρ Z F a w hr next Qc hn => by
  obtain ⟨u, h1, h2⟩ := h ρ Z F a w hr
  refine Oper.wp_of_quiet (C := Below w.heap.size w) (K := fun a' => a' = a.put o.dst u) (.refl _ _) ?_ ⟨u, h2, rfl⟩
  rintro a' w' hb rfl
  exact hn u w' Z (.of_below hb) (fun _ h => h.below hb) h1
theorem frame_nil {ρ : Nat → Option Geo} {Z : Nat → Option Obj} {S S' : Hp} {w : World} : frameOf ρ Z S [] w = frameOf ρ Z S' [] w := by
  funext b
  cases hz : Z b with
  | some o => rw [frame_Z hz, frame_Z hz]
  | none =>
    cases hw : w.heap[b]? with
    | some o => rw [frame_of hw hz (fun _ _ _ h => by cases h), frame_of hw hz (fun _ _ _ h => by cases h)]
    | none =>
      have no : ∀ T : Hp, frameOf ρ Z T [] w b = none := fun T => by
        cases hf : frameOf ρ Z T [] w b with
        | none => rfl
        | some o => have := frame_some hf; rw [hw] at this; cases this
      rw [no, no]
/-- The caller's blocks are as they were, behind a call that was handed none. -/
theorem back_same {ρ Z F S S0 w} (h : HpRel ρ Z F S w) {ρ' : Nat → Option Geo} {Z' : Nat → Option Obj} {S' : Hp} {w' : World} (hZ : Le Z Z') (h'' : HpRel ρ' Z' ⟨frameOf ρ Z S0 [] w, subρ ρ []⟩ S' w') : HpRel ρ Z' F S w' := by
  have h' : HpRel ρ' Z' ⟨frameOf ρ Z S [] w, subρ ρ []⟩ S' w' := by rw [frame_nil (S := S) (S' := S0)]; exact h''
  have own : ∀ i b g, S.get i = some b → ρ i = some g → g.sol → ∀ o, w.heap[g.blk]? = some o → frameOf ρ Z S [] w g.blk = some o := fun i b g hb hg p0 o ho =>
    frame_of ho (h.offZ i b g hb hg p0) fun _ _ _ hi => by cases hi
  have hF : ∀ b o, F.F b = some o → frameOf ρ Z S [] w b = some o := fun b o hb =>
    frame_of (h.fixF b o hb) (by
      cases hz : Z b with
      | none => rfl
      | some x => have := h.disj b x hz; rw [hb] at this; cases this) fun _ _ _ hi => by cases hi
  refine ⟨fun i b hb => ?_, h.inj, fun i b g hb hg p0 => ?_, h.offF, h'.fixZ, fun b o hb => h'.fixF b o (hF b o hb), h.fresh, fun b o hz => ?_, h.anch, h'.pin⟩
  · obtain ⟨g, hg, hr⟩ := h.live i b hb
    exact ⟨g, hg, hr.imp (fun o p0 ho => h'.fixF _ _ (own i b g hb hg p0 o ho)) (.refl _) hZ⟩
  · obtain ⟨o, ho⟩ := h.objAt hb hg p0
    cases hz : Z' g.blk with
    | none => rfl
    | some x =>
      have h1 := h'.disj g.blk x hz
      have h1' : frameOf ρ Z S [] w g.blk = none := h1
      rw [own i b g hb hg p0 o ho] at h1'; cases h1'
  · cases hf : F.F b with
    | none => rfl
    | some o' =>
      have h1 := h'.disj b o hz
      have h1' : frameOf ρ Z S [] w b = none := h1
      rw [hF _ _ hf] at h1'; cases h1'
mutual
/-- A value that names no block of the call's own, however it is put together. -/
def AV.deep : AV → Bool
  | .agg cs => deepL cs
  | .tup cs => deepL cs
  | .fn _ cs => deepL cs
  | .ifc _ v => AV.deep v
  | .ptr _ _ | .sl _ _ _ | .mp _ | .it _ => false
  | _ => true
def deepL : List AV → Bool
  | [] => true
  | a :: as => AV.deep a && deepL as
end
mutual
theorem deep_rel {ρ ρ' : Nat → Option Geo} {Z Z' : Nat → Option Obj} (hZ : Le Z Z') : ∀ (a : AV) (u : Value), a.deep = true → Rel ρ Z a u → Rel ρ' Z' a u
  | .sc _, _, _, h => h
  | .vptr _ _, _, _, h => (Rel.mono (ρ := fun _ => none) (Le.refl _) hZ (.vptr _ _) _ h)
  | .vsl _ _ _ _, _, _, h => (Rel.mono (ρ := fun _ => none) (Le.refl _) hZ (.vsl _ _ _ _) _ h)
  | .junk, _, _, _ => trivial
  | .opq, _, _, h => h
  | .agg cs, _, hd, ⟨vs, h1, h2, h3⟩ => ⟨vs, h1, h2, deep_relP hZ cs _ hd h3⟩
  | .tup cs, _, hd, ⟨vs, h1, h2, h3⟩ => ⟨vs, h1, h2, deep_relP hZ cs _ hd h3⟩
  | .fn _ cs, _, hd, ⟨vs, h1, h2, h3⟩ => ⟨vs, h1, h2, deep_relP hZ cs _ hd h3⟩
  | .ifc _ v, _, hd, ⟨x, h1, h2⟩ => ⟨x, h1, deep_rel hZ v _ hd h2⟩
theorem deep_relP {ρ ρ' : Nat → Option Geo} {Z Z' : Nat → Option Obj} (hZ : Le Z Z') : ∀ (as : List AV) (us : List Value), deepL as = true → RelP ρ Z as us → RelP ρ' Z' as us
  | [], _, _, _ => trivial
  | a :: as, u :: us, hd, ⟨h1, h2⟩ => by
    simp only [deepL, Bool.and_eq_true] at hd
    exact ⟨deep_rel hZ a u hd.1 h1, deep_relP hZ as us hd.2 h2⟩
  | _ :: _, [], _, h => h.elim
end
theorem flat_deepL : ∀ {cs : List AV}, cs.all AV.flat = true → deepL cs = true
  | [], _ => rfl
  | a :: as, h => by
    simp only [List.all_cons, Bool.and_eq_true] at h
    simp only [deepL, Bool.and_eq_true]
    refine ⟨?_, flat_deepL h.2⟩
    have := h.1
    cases a <;> first | rfl | cases this
/-- A call that is handed none of the caller's blocks, and hands back what nobody writes. -/
theorem g_call {f : FuncId} {xs : List Operand} {ts : Array TypeId} [hc : Callable P f] (spec : ACalls P f (renL (fun _ => none) (xs.map σ.ev)) ⟨0, []⟩ (fun r _ => r = v)) (hv : v.deep = true) :
    GY P N ⟨d, .call ⟨.value (.func f), xs.toArray, ts⟩, ty, pos, af, gd⟩ σ v := fun ρ Z F a w hr next Qc hn => by
  have hrun : (execOp a.eval ⟨d, .call ⟨.value (.func f), xs.toArray, ts⟩, ty, pos, af, gd⟩).run P w = .ok (.enter f (xs.map a.eval).toArray) w := by
    simp [execOp, resolve, Deferred.ofValue, Act.eval, invoke, hc.out]
  unfold Oper.wp
  rw [hrun]
  show Calls P f _ w _
  have hp := callee_hp hr.hp (m := []) List.nodup_nil
  refine (spec (subρ ρ []) Z _ w _ hp (fun i hi => by exact subρ_out (ρ := ρ) (m := []) (Nat.zero_le i)) (by simp [renL_length]) ?_).mono ?_
  · simpa using (map_ev hr xs).ren (ρ' := subρ ρ []) (r := fun _ => none) (fun _ _ _ h => by cases h)
  · rintro e w' ⟨u, ρ', Z', r, S', rfl, hx, h', hrel, rfl⟩
    exact hn u w' Z' hx (fun _ h => back_same h hx.Z_le h') (deep_rel (.refl _) _ _ hv hrel)
theorem g_callV {x : Operand} {f : FuncId} {cap : List AV} {xs : List Operand} {ts : Array TypeId} [hc : Callable P f] (hx : σ.ev x = .fn f cap) (spec : ACalls P f (renL (fun _ => none) (xs.map σ.ev ++ cap)) ⟨0, []⟩ (fun r _ => r = v)) (hv : v.deep = true) :
    GY P N ⟨d, .call ⟨.value x, xs.toArray, ts⟩, ty, pos, af, gd⟩ σ v := fun ρ Z F a w hr next Qc hn => by
  have hx' := hr.ev x
  rw [hx] at hx'
  obtain ⟨vs, e, hs, hp'⟩ := hx'
  have hrun : (execOp a.eval ⟨d, .call ⟨.value x, xs.toArray, ts⟩, ty, pos, af, gd⟩).run P w = .ok (.enter f ((xs.map a.eval).toArray ++ vs)) w := by
    simp [execOp, resolve, Deferred.ofValue, e, invoke, hc.out]
  unfold Oper.wp
  rw [hrun]
  show Calls P f _ w _
  have hp := callee_hp hr.hp (m := []) List.nodup_nil
  refine (spec (subρ ρ []) Z _ w _ hp (fun i hi => by exact subρ_out (ρ := ρ) (m := []) (Nat.zero_le i)) (by simp [renL_length, hs]) ?_).mono ?_
  · have h1 : RelP ρ Z (xs.map σ.ev ++ cap) ((xs.map a.eval).toArray ++ vs).toList := by
      simpa using RelP.append (by simp) (map_ev hr xs) hp'
    exact h1.ren (ρ' := subρ ρ []) (r := fun _ => none) (fun _ _ _ h => by cases h)
  · rintro e w' ⟨u, ρ', Z', r, S', rfl, hx, h', hrel, rfl⟩
    exact hn u w' Z' hx (fun _ h => back_same h hx.Z_le h') (deep_rel (.refl _) _ _ hv hrel)
/-- A slot that holds a slice of an own block: what it shows is a view from now on. -/
theorem iw_frzS {n : Nat} {bs : List (Nat × Option Blk)} {is : List Item} (t : Tmp) (id : Nat) {o len ez et : Nat} {cs : List AV} (ht : look t env = .sl id o len) (hb : find id bs = some ⟨cs, ez, et⟩) (hf : cs.all AV.flat = true) (hl : o * ez + len * ez ≤ cs.length)
    (hk : IW P N is Q ⟨(t, .vsl cs ez o len) :: env, dfs, ⟨n, (id, none) :: bs⟩⟩) : IW P N is Q ⟨env, dfs, ⟨n, bs⟩⟩ := fun ρ Z F a w hr => by
  have hv := hr.env t
  have ht' : St.get ⟨env, dfs, ⟨n, bs⟩⟩ t = .sl id o len := ht
  rw [ht'] at hv
  obtain ⟨g, A, hg, ev, hcap, hA⟩ := hv
  obtain ⟨Z', hle, hrel, hhp⟩ : ∃ Z', Le Z Z' ∧ Rel ρ Z' (.vsl cs ez o len) (a.tmps.getD t undef) ∧ HpRel ρ Z' F (Hp.kill ⟨n, bs⟩ id) w := by
    rcases Nat.eq_zero_or_pos g.cap with h0 | h0
    · exact ⟨Z, .refl _, ⟨A, _, ev, by omega, hl, fun h => by omega⟩, hr.hp.kill id⟩
    · obtain ⟨cur, Z', h1, h2, h3, h4, h5, h6⟩ := hr.hp.frz (S := ⟨n, bs⟩) (b := ⟨cs, ez, et⟩) hb hg h0 hf
      refine ⟨Z', h4, ⟨A, _, ev, by omega, hl, fun h => ⟨g.blk, 0, cur, et, (0, 0), ?_, h2, by simpa using h5⟩⟩, h6⟩
      rw [hA (by omega), h3]; simp
  have hst : StRel N ρ Z' F ⟨(t, .vsl cs ez o len) :: env, dfs, ⟨n, (id, none) :: bs⟩⟩ a w := ⟨hr.size, fun i => by
    show Rel ρ Z' (look i ((t, .vsl cs ez o len) :: env)) _
    rw [look_cons]
    split
    · rename_i hti; subst hti; exact hrel
    · exact (hr.env i).mono (.refl _) hle, hr.dfs.mono (.refl _) hle, hhp, hr.kk⟩
  exact iwp_imp (hk ρ Z' F a w hst) fun _ _ _ q => q.le hle
theorem aexec_g {o : Oper} {K : St → Prop} (h : GY P N o σ v) (hd : okDst N o.dst = true) (hk : K (σ.put o.dst v)) : AExec P N o K σ := fun ρ Z F a w hr next Qc hn =>
  h ρ Z F a w hr next Qc fun _ w' Z' hx hh hv => hn _ w' ρ Z' _ hx (StRel.put (σ := σ) ⟨hr.size, fun t => (hr.env t).mono (.refl _) hx.Z_le, hr.dfs.mono (.refl _) hx.Z_le, hh _ hr.hp, hr.kk⟩ (okDst_spec hd) hv) hk
theorem o_gg {rest : List Oper} (hy : GY P N ⟨some t, op, ty, pos, af, none⟩ ⟨env, dfs, hp⟩ v) (hd : Nat.blt t N.n = true) (h : AOps P N ops Q rest ⟨(t, v) :: env, dfs, hp⟩) : AOps P N ops Q (⟨some t, op, ty, pos, af, none⟩ :: rest) ⟨env, dfs, hp⟩ :=
  aops_cons rfl (aexec_g hy hd h)
/-- The bytes of a string, in whatever order they are made. -/
theorem g_convB {src dst e : TypeId} {x : Operand} {s : ByteArray} [hs : Und P src .string] [hd' : Und P dst (.slice e)] [he : Und P e (.int .u8)] (hx : σ.ev x = .sc (.string s)) :
    GY P N ⟨d, .convert src dst x, ty, pos, af, gd⟩ σ (.vsl (byts (ints s)) 1 0 s.size) := fun ρ Z F a w hr next Qc hn => by
  have hrun : (execOp a.eval ⟨d, .convert src dst x, ty, pos, af, gd⟩).run P w = .ok (.value (.slice (some ⟨w.heap.size, 0, none⟩) s.size (grownCap w s.size 0 e))) (Lib.bytesWorld w e s) := by
    simp only [execOp, ev_sc hr hx, Sem.run_bind, Lib.run_convert_string_bytes w src dst e s hs.out hd'.out he.out, Result.andThen_ok, Sem.run_pure]
  have hb : Below w.heap.size w (Lib.bytesWorld w e s) := ⟨rfl, rfl, rfl, by rw [Lib.bytesWorld_size]; omega, fun k hk => Lib.bytesWorld_at_old w e s k hk⟩
  have hnone : w.heap[w.heap.size]? = none := by simp
  have hz : Z w.heap.size = none := by
    cases h : Z w.heap.size with
    | none => rfl
    | some o => have := hr.hp.fixZ _ _ h; rw [hnone] at this; cases this
  have hF : F.F w.heap.size = none := by
    cases h : F.F w.heap.size with
    | none => rfl
    | some o => have := hr.hp.fixF _ _ h; rw [hnone] at this; cases this
  have hnew := Lib.bytesWorld_at_new w e s
  have hhp : ∀ S, HpRel ρ Z F S w → HpRel ρ (updZ Z w.heap.size _) F S _ := fun S hS => (hS.below hb).addZ hnew hz hF (fun i bk g h1 h2 h0 => Nat.ne_of_lt (hS.lt h1 h2 h0))
  have hle := updZ_le (o := .cells (Lib.bytesCells w e s) e ((Lib.bytesCells w e s).size, (Lib.bytesCells w e s).size + 1)) hz
  have hcap : s.size ≤ grownCap w s.size 0 e := by have := grownCap_ge w s.size 0 e; omega
  unfold Oper.wp
  rw [hrun]
  refine hn _ _ _ ⟨hle, rfl, rfl, rfl, by rw [Lib.bytesWorld_size]; omega⟩ hhp ⟨_, _, rfl, hcap, by simp [byts, ints], fun _ => ⟨w.heap.size, 0, _, _, _, rfl, by unfold updZ; rw [if_pos rfl], ?_⟩⟩
  have : (Lib.bytesCells w e s).toList = (s.data.toList.map fun b => Value.int .u8 b.toNat) ++ List.replicate (grownCap w s.size 0 e - s.size) (.int .u8 0) := by simp [Lib.bytesCells]
  rw [List.drop_zero, this]
  refine RelP.more ?_
  have := RelP_sc (fun _ => none) (updZ Z w.heap.size (.cells (Lib.bytesCells w e s) e ((Lib.bytesCells w e s).size, (Lib.bytesCells w e s).size + 1))) (s.data.toList.map fun b => Value.int .u8 b.toNat)
  have e2 : byts (ints s) = (s.data.toList.map fun b => Value.int .u8 b.toNat).map AV.sc := by simp [byts, ints]
  rw [e2]
  exact this

/-! ### One lexical walk -/
def restr (l : List Tmp) (e : List (Nat × AV)) : List (Nat × AV) := l.map fun t => (t, look t e)
theorem look_restr (t : Nat) (e : List (Nat × AV)) : ∀ l : List Tmp, look t (restr l e) = if t ∈ l then look t e else .junk
  | [] => by simp [restr, look]
  | x :: l => by
    show look t ((x, look x e) :: restr l e) = _
    rw [look_cons, look_restr t e l]
    by_cases h : x = t
    · subst h; simp
    · simp [h, Ne.symm h]
def Op.looks (op : Op) : List Tmp := op.operands.toList.filterMap fun | .tmp t => some t | _ => none
def pushD (d : Option Tmp) (v : AV) (e : List (Nat × AV)) : List (Nat × AV) := match d with | some t => (t, v) :: e | none => e
def GStep (P : Program) (N : Sg) (ops : Array Oper) (o : Oper) (dfs : List (FuncId × List AV)) (hp : Hp) (e : List (Nat × AV)) (v : AV) : Prop :=
  match o.guard with
  | none => GY P N o ⟨restr (Op.looks o.op) e, dfs, hp⟩ v
  | some (j, want) => ∃ t, dstOf ops j = some t ∧ ((look t e = .sc undef ∧ v = .sc undef) ∨ ∃ b, look t e = .sc (.bool b) ∧ (b = want → GY P N o ⟨restr (Op.looks o.op) e, dfs, hp⟩ v) ∧ (b = (!want) → v = .sc undef))
theorem HpRel.lessG {ρ : Nat → Option Geo} {Z : Nat → Option Obj} {F : Ctx} {S S' : Hp} {w : World} (h : HpRel ρ Z F S w) (hn : S'.nxt = S.nxt) (get : ∀ i b, S'.get i = some b → S.get i = some b) : HpRel ρ Z F S' w :=
  ⟨fun i b hb => h.live i b (get i b hb), fun i j bi bj gi gj h1 h2 => h.inj i j bi bj gi gj (get _ _ h1) (get _ _ h2), fun i b g hb => h.offZ i b g (get _ _ hb), fun i b g hb => h.offF i b g (get _ _ hb), h.fixZ, h.fixF, fun i hi => h.fresh i (by omega), h.disj, h.anch, h.pin⟩
/-- A store, as it turns one block, whatever it holds. -/
def SStep (P : Program) (N : Sg) (o : Oper) (e : List (Nat × AV)) (dfs : List (FuncId × List AV)) (id off : Nat) (vs : List AV) : Prop :=
  ∀ ρ Z F a w S, StRel N ρ Z F ⟨restr (Op.looks o.op) e, dfs, S⟩ a w → ∀ cs ez et, S.get id = some ⟨cs, ez, et⟩ → off + vs.length ≤ cs.length → ∀ (next : Act → World → Prop) (Qc : Exit → Act → World → Prop),
    (∀ w', Ext Z w Z w' → HpRel ρ Z F (S.put id ⟨setRow cs off vs, ez, et⟩) w' → next a w') → o.wp P a w next Qc
theorem ss_one {t' : TypeId} {x y : Operand} {id off bytes : Nat} {zero : Value} [ha : Inf P t' 1 bytes zero] (hx : St.ev ⟨restr (Op.looks (.store t' x y)) env, dfs, hp⟩ x = .ptr id off) (hy : St.ev ⟨restr (Op.looks (.store t' x y)) env, dfs, hp⟩ y = v) (h1 : v.one = true) :
    SStep P N ⟨none, .store t' x y, ty, pos, af, gd⟩ env dfs id off [v] := fun ρ Z F a w S hr cs ez et hb hl next Qc hn => by
  have hx' := hr.ev x
  have hxe : St.ev ⟨restr (Op.looks (.store t' x y)) env, dfs, S⟩ x = .ptr id off := hx
  rw [hxe] at hx'
  obtain ⟨g, hg, g0, e⟩ := hx'
  have hy' := hr.ev y
  have hye : St.ev ⟨restr (Op.looks (.store t' x y)) env, dfs, S⟩ y = v := hy
  rw [hye] at hy'
  obtain ⟨cur, g1, g2, g3, g4⟩ := hr.hp.liveAt hb hg g0
  have hone := one_of hy' h1
  obtain ⟨I, hI, hIs, _, _⟩ := ha.get
  have hlen := g4.length
  have hoff : off < cur.size := by simp at hlen hl; omega
  have hcell : w.cell? ⟨g.blk, off, none⟩ = some cur[off] := by rw [cell_of g1]; simp [hoff]
  have hfr : w.frozen? ⟨g.blk, off, none⟩ = false := by simp [World.frozen?, g1]
  have hrun : (execOp a.eval ⟨none, .store t' x y, ty, pos, af, gd⟩).run P w = .ok .skip (w.setCell ⟨g.blk, off, none⟩ (a.eval y)) := by
    have hc := cells_one hone
    simp [execOp, e, Instr.storeAt, Instr.sureAddr, storeVar, hc, run_sizeOf' hI, hIs, storeCells, add_off, run_store P w _ _ _ hone, hcell, hfr]
  unfold Oper.wp
  rw [hrun]
  refine hn _ ⟨.refl _, rfl, rfl, rfl, by simp⟩ ?_
  refine hr.hp.set hb hg (.of g0 ⟨_, heap_setRow g1 _, by simp [g2], g3, ?_⟩) (.inl g0) (fun k hk => heap_setOther _ hk)
  rw [Array.toList_setIfInBounds]
  exact g4.set hy'
theorem ss_agg {t' : TypeId} {x y : Operand} {id off size bytes : Nat} {vs : List AV} {zero : Value} [ha : Inf P t' size bytes zero] (hx : St.ev ⟨restr (Op.looks (.store t' x y)) env, dfs, hp⟩ x = .ptr id off) (hy : St.ev ⟨restr (Op.looks (.store t' x y)) env, dfs, hp⟩ y = .agg vs) (h1 : vs.all AV.one = true) (hz : vs.length = size) :
    SStep P N ⟨none, .store t' x y, ty, pos, af, gd⟩ env dfs id off vs := fun ρ Z F a w S hr cs ez et hb hl next Qc hn => by
  have hx' := hr.ev x
  have hxe : St.ev ⟨restr (Op.looks (.store t' x y)) env, dfs, S⟩ x = .ptr id off := hx
  rw [hxe] at hx'
  obtain ⟨g, hg, g0, e⟩ := hx'
  have hy' := hr.ev y
  have hye : St.ev ⟨restr (Op.looks (.store t' x y)) env, dfs, S⟩ y = .agg vs := hy
  rw [hye] at hy'
  obtain ⟨us, eu, hus, hp⟩ := hy'
  obtain ⟨cur, g1, g2, g3, g4⟩ := hr.hp.liveAt hb hg g0
  obtain ⟨I, hI, hIs, _, _⟩ := ha.get
  have hlen : cs.length ≤ cur.size := by simpa using g4.length
  have hrow := all_one hp (by simpa using hus) h1
  have hrun : (execOp a.eval ⟨none, .store t' x y, ty, pos, af, gd⟩).run P w = .ok .skip (w.setCells g.blk off us.toList) := by
    have := run_storeAt_mid (P := P) w g.blk off t' us (fun j hj => by
      have hj' : off + j < cur.size := by omega
      constructor
      · rw [cell_of g1]; simp [hj']
      · simp [World.frozen?, g1]) (by rw [hI]; simp [hIs, hus, hz]) (by rw [Array.all_eq_true_iff_forall_mem]; exact fun u hu => hrow u (by simpa using hu))
    simp [execOp, e, eu, this]
  unfold Oper.wp
  rw [hrun]
  obtain ⟨cur', k1, k2, k3, k4, k5, k6, k7, k8⟩ := setCells_rel vs us.toList off w cs cur (by simp [hus]) hp g1 g4
  exact hn _ ⟨.refl _, k5, k6, k7, by omega⟩ (hr.hp.set hb hg (.of g0 ⟨_, k1, by rw [k2]; exact g2, g3, k3⟩) (.inl g0) k4)
/-- Places that are apart. -/
def apartW (id off len : Nat) (ws : List (Nat × Nat × Nat)) : Bool := ws.all fun w => !Nat.beq w.1 id || Nat.ble (off + len) w.2.1 || Nat.ble (w.2.1 + w.2.2) off
/-- The walk: values, and stores into blocks that nobody reads in the region. -/
def GQ (P : Program) (N : Sg) (ops : Array Oper) (dfs : List (FuncId × List AV)) (hp0 : Hp) (ks : List Nat) (K : List (Nat × AV) → Hp → Prop) : List Oper → List (Nat × AV) → Hp → List (Nat × Nat × Nat) → Prop
  | [], e, h, _ => K e h
  | o :: rest, e, h, ws => (∃ v, okDst N o.dst = true ∧ GStep P N ops o dfs hp0 e v ∧ GQ P N ops dfs hp0 ks K rest (pushD o.dst v e) h ws) ∨
      (∃ id off vs b, o.guard = none ∧ o.dst = none ∧ SStep P N o e dfs id off vs ∧ ks.contains id = true ∧ apartW id off vs.length ws = true ∧ h.get id = some b ∧ off + vs.length ≤ b.cells.length ∧
        GQ P N ops dfs hp0 ks K rest e (h.put id ⟨setRow b.cells off vs, b.esz, b.ety⟩) ((id, off, vs.length) :: ws))

/-- What the slots hold behind the operations of a set, in their lexical order. -/
def putsA (ops : Array Oper) (V : Nat → AV) (s : Nat → Bool) : Nat → List (Nat × AV) → List (Nat × AV)
  | 0, e => e
  | k + 1, e => if s k then pushD (dstOf ops k) (V k) (putsA ops V s k e) else putsA ops V s k e
variable {V : Nat → AV} {s s' : Nat → Bool} {e : List (Nat × AV)}
theorem look_pushD (d : Option Tmp) (v : AV) (e : List (Nat × AV)) (t : Nat) : look t (pushD d v e) = if d = some t then v else look t e := by
  cases d with
  | none => simp [pushD]
  | some x => simp [pushD, look_cons]
theorem putsA_not {t : Nat} : ∀ (k : Nat), (∀ i, i < k → s i = true → dstOf ops i ≠ some t) → look t (putsA ops V s k e) = look t e
  | 0, _ => rfl
  | k + 1, h => by
    unfold putsA
    split
    · rename_i hs
      rw [look_pushD, if_neg (h k (by omega) hs)]
      exact putsA_not k fun i hi => h i (by omega)
    · exact putsA_not k fun i hi => h i (by omega)
theorem putsA_get {t i : Nat} (ht : dstOf ops i = some t) (hs : s i = true) : ∀ (k : Nat), i < k → (∀ j, i < j → j < k → dstOf ops j ≠ some t) → look t (putsA ops V s k e) = V i
  | 0, h, _ => by omega
  | k + 1, h, hd => by
    unfold putsA
    by_cases hk : i = k
    · subst hk
      rw [if_pos hs, look_pushD, if_pos ht]
    · have ih := putsA_get ht hs k (by omega) fun j h1 h2 => hd j h1 (by omega)
      split
      · rw [look_pushD, if_neg (hd k (by omega) (by omega))]; exact ih
      · exact ih
theorem putsA_agree {n : Nat} {anc : Nat → Nat → Prop} (q : QT ops n anc) {t : Nat} (h : ∀ i, i < n → dstOf ops i = some t → s i = s' i) : look t (putsA ops V s n e) = look t (putsA ops V s' n e) := by
  by_cases hex : ∃ i, i < n ∧ dstOf ops i = some t
  · obtain ⟨i, hi, ht⟩ := hex
    have hd : ∀ j, i < j → j < n → dstOf ops j ≠ some t := fun j h1 h2 => q.dist i j h1 h2 t ht
    have hd2 : ∀ j, j < n → dstOf ops j = some t → j = i := fun j hj htj => by
      rcases Nat.lt_trichotomy j i with h1 | h1 | h1
      · exact absurd ht (q.dist j i h1 hi t htj)
      · exact h1
      · exact absurd htj (hd j h1 hj)
    cases hs : s i with
    | true => rw [putsA_get ht hs n hi hd, putsA_get ht ((h i hi ht).symm.trans hs) n hi hd]
    | false =>
      have h1 : ∀ j, j < n → s j = true → dstOf ops j ≠ some t := fun j hj hsj htj => by
        have := hd2 j hj htj
        subst this
        rw [hs] at hsj; cases hsj
      have h2 : ∀ j, j < n → s' j = true → dstOf ops j ≠ some t := fun j hj hsj htj => by
        have := hd2 j hj htj
        subst this
        rw [← h j hj htj, hs] at hsj; cases hsj
      rw [putsA_not n h1, putsA_not n h2]
  · have h1 : ∀ (r : Nat → Bool) j, j < n → r j = true → dstOf ops j ≠ some t := fun r j hj _ htj => hex ⟨j, hj, htj⟩
    rw [putsA_not n (h1 s), putsA_not n (h1 s')]
theorem setRow_set {i : Nat} {v : AV} : ∀ (vs cs : List AV) (o : Nat), (i < o ∨ o + vs.length ≤ i) → setRow (cs.set i v) o vs = (setRow cs o vs).set i v
  | [], _, _, _ => rfl
  | x :: r, cs, o, h => by
    simp only [List.length_cons] at h
    unfold setRow
    rw [List.set_comm _ _ (show i ≠ o by omega)]
    exact setRow_set r _ (o + 1) (by omega)
theorem setRow_comm : ∀ (vs us cs : List AV) (o p : Nat), (o + vs.length ≤ p ∨ p + us.length ≤ o) → setRow (setRow cs o vs) p us = setRow (setRow cs p us) o vs
  | [], _, _, _, _, _ => rfl
  | x :: r, us, cs, o, p, h => by
    simp only [List.length_cons] at h
    show setRow (setRow (cs.set o x) (o + 1) r) p us = setRow ((setRow cs p us).set o x) (o + 1) r
    rw [setRow_comm r us (cs.set o x) (o + 1) p (by omega), setRow_set us cs p (by omega)]
/-- What a block holds behind the stores of a set. -/
def wr (W : Nat → Option (Nat × Nat × List AV)) (s : Nat → Bool) (i : Nat) : Nat → List AV → List AV
  | 0, cs => cs
  | k + 1, cs => if s k then (match W k with | some (id, off, vs) => if id = i then setRow (wr W s i k cs) off vs else wr W s i k cs | none => wr W s i k cs) else wr W s i k cs
variable {W : Nat → Option (Nat × Nat × List AV)}
theorem wr_length (i : Nat) (cs : List AV) (k : Nat) : (wr W s i k cs).length = cs.length := by
  induction k with
  | zero => rfl
  | succ k ih =>
    unfold wr
    split
    · split
      · split
        · rw [setRow_length, ih]
        · exact ih
      · exact ih
    · exact ih
theorem wr_congr (i : Nat) (cs : List AV) : ∀ (k : Nat), (∀ j, j < k → s j = s' j) → wr W s i k cs = wr W s' i k cs
  | 0, _ => rfl
  | k + 1, h => by unfold wr; rw [h k (by omega), wr_congr i cs k fun j hj => h j (by omega)]
/-- Stores at places of one block that are apart. -/
def ApartS (W : Nat → Option (Nat × Nat × List AV)) (n : Nat) : Prop := ∀ j k id off vs off' vs', j < n → k < n → j ≠ k → W j = some (id, off, vs) → W k = some (id, off', vs') → off + vs.length ≤ off' ∨ off' + vs'.length ≤ off
theorem wr_add {n j id off : Nat} {vs : List AV} (ha : ApartS W n) (hj : j < n) (hW : W j = some (id, off, vs)) (hs : s j = false) (hs' : ∀ i, s' i = (s i || decide (i = j))) (cs : List AV) : ∀ k, k ≤ n → wr W s' id k cs = if j < k then setRow (wr W s id k cs) off vs else wr W s id k cs
  | 0, _ => by rw [if_neg (by omega)]; rfl
  | k + 1, hk => by
    have ih := wr_add ha hj hW hs hs' cs k (by omega)
    by_cases hjk : j = k
    · subst hjk
      rw [if_neg (by omega)] at ih
      rw [if_pos (by omega)]
      show (if s' j then _ else _) = _
      have h1 : s' j = true := by rw [hs']; simp
      have h2 : wr W s id (j + 1) cs = wr W s id j cs := by
        show (if s j then _ else _) = _
        rw [hs]; rfl
      rw [if_pos h1, hW, h2]
      simp only [if_true, ih]
    · have h1 : s' k = s k := by rw [hs']; simp [Ne.symm hjk]
      have e1 : wr W s' id (k + 1) cs = if s k then (match W k with | some (id', off', vs') => if id' = id then setRow (wr W s' id k cs) off' vs' else wr W s' id k cs | none => wr W s' id k cs) else wr W s' id k cs := by
        show (if s' k then _ else _) = _
        rw [h1]
      have e2 : wr W s id (k + 1) cs = if s k then (match W k with | some (id', off', vs') => if id' = id then setRow (wr W s id k cs) off' vs' else wr W s id k cs | none => wr W s id k cs) else wr W s id k cs := rfl
      rw [e1, e2, ih]
      by_cases hlt : j < k
      · rw [if_pos hlt, if_pos (show j < k + 1 by omega)]
        cases hsk : s k with
        | false => rfl
        | true =>
          simp only [if_true]
          cases hWk : W k with
          | none => rfl
          | some x =>
            obtain ⟨id', off', vs'⟩ := x
            simp only
            by_cases hid : id' = id
            · subst hid
              simp only [if_true]
              exact setRow_comm _ _ _ _ _ (ha j k id' off vs off' vs' hj (by omega) (by omega) hW hWk)
            · simp only [if_neg hid]
      · rw [if_neg hlt, if_neg (show ¬ j < k + 1 by omega)]
theorem wr_other {i j id off : Nat} {vs : List AV} (hW : ∀ x, W j = some x → x.1 ≠ i) (hs' : ∀ i, s' i = (s i || decide (i = j))) (cs : List AV) : ∀ k, wr W s' i k cs = wr W s i k cs
  | 0 => rfl
  | k + 1 => by
    have ih := wr_other (id := id) (off := off) (vs := vs) hW hs' cs k
    unfold wr
    by_cases hjk : k = j
    · subst hjk
      rw [ih]
      cases hWk : W k with
      | none => simp
      | some x =>
        obtain ⟨id', off', vs'⟩ := x
        have := hW _ hWk
        simp only [if_neg this]
        simp
    · have h1 : s' k = s k := by rw [hs']; simp [hjk]
      rw [h1, ih]
/-- The heap behind the stores of a set. -/
def RepH (W : Nat → Option (Nat × Nat × List AV)) (s : Nat → Bool) (k : Nat) (hp S : Hp) : Prop := S.nxt = hp.nxt ∧ ∀ i, S.get i = (hp.get i).map fun b => ⟨wr W s i k b.cells, b.esz, b.ety⟩
/-- What the walk says of an operation: a value, or a store. -/
def GSt (P : Program) (N : Sg) (ops : Array Oper) (o : Oper) (dfs : List (FuncId × List AV)) (hp0 hp : Hp) (ks : List Nat) (e : List (Nat × AV)) (v : AV) : Option (Nat × Nat × List AV) → Prop
  | none => okDst N o.dst = true ∧ GStep P N ops o dfs hp0 e v
  | some (id, off, vs) => o.guard = none ∧ o.dst = none ∧ SStep P N o e dfs id off vs ∧ ks.contains id = true ∧ ∃ b, hp.get id = some b ∧ off + vs.length ≤ b.cells.length
/-- The walk's facts, operation by operation. -/
def GFacts (P : Program) (N : Sg) (ops : Array Oper) (dfs : List (FuncId × List AV)) (hp0 : Hp) (ks : List Nat) (K : List (Nat × AV) → Hp → Prop) (l : List Oper) (k : Nat) (e : List (Nat × AV)) (h : Hp) (ws : List (Nat × Nat × Nat)) : Prop :=
    ∃ (V : Nat → AV) (W : Nat → Option (Nat × Nat × List AV)) (h' : Hp), (∀ j, j < l.length → ∃ o, ops[k + j]? = some o ∧ ∃ ej, GSt P N ops o dfs hp0 h ks ej (V (k + j)) (W (k + j)) ∧ ej = (List.range j).foldl (fun e i => pushD (dstOf ops (k + i)) (V (k + i)) e) e) ∧
      K ((List.range l.length).foldl (fun e i => pushD (dstOf ops (k + i)) (V (k + i)) e) e) h' ∧
      (h'.nxt = h.nxt ∧ ∀ i, h'.get i = (h.get i).map fun b => ⟨(List.range l.length).foldl (fun cs j => match W (k + j) with | some (id, off, vs) => if id = i then setRow cs off vs else cs | none => cs) b.cells, b.esz, b.ety⟩) ∧
      (∀ j id off vs, j < l.length → W (k + j) = some (id, off, vs) → (∀ x ∈ ws, x.1 = id → off + vs.length ≤ x.2.1 ∨ x.2.1 + x.2.2 ≤ off) ∧ ∀ i off' vs', i < j → W (k + i) = some (id, off', vs') → off + vs.length ≤ off' ∨ off' + vs'.length ≤ off)
theorem gq_facts {ks : List Nat} {hp0 : Hp} {K : List (Nat × AV) → Hp → Prop} : ∀ (l : List Oper) (k : Nat) (e : List (Nat × AV)) (h : Hp) (ws : List (Nat × Nat × Nat)), (∀ j, j < l.length → l[j]? = ops[k + j]?) → GQ P N ops dfs hp0 ks K l e h ws → GFacts P N ops dfs hp0 ks K l k e h ws
  | [], k, e, h, _, _, hK => ⟨fun _ => .junk, fun _ => none, h, fun j hj => absurd hj (Nat.not_lt_zero _), hK, ⟨rfl, fun i => by
      cases h.get i <;> simp⟩, fun j id off vs hj => absurd hj (Nat.not_lt_zero _)⟩
  | o :: l, k, e, h, ws, hl, hg => by
    have h0 : ops[k]? = some o := by simpa using (hl 0 (by simp)).symm
    have hdst : dstOf ops k = o.dst := by simp [dstOf, h0]
    have hl' : ∀ j, j < l.length → l[j]? = ops[k + 1 + j]? := fun j hj => by
      have := hl (j + 1) (by simp; omega)
      simpa [Nat.add_assoc, Nat.add_comm 1 j] using this
    have build : ∀ (v : AV) (x : Option (Nat × Nat × List AV)) (h1 : Hp) (ws1 : List (Nat × Nat × Nat)), GSt P N ops o dfs hp0 h ks e v x → pushD o.dst v e = pushD o.dst v e →
        h1.nxt = h.nxt → (∀ i, h1.get i = (h.get i).map fun b => ⟨(match x with | some (id, off, vs) => if id = i then setRow b.cells off vs else b.cells | none => b.cells), b.esz, b.ety⟩) →
        (∀ y ∈ ws, y ∈ ws1) → (∀ id off vs, x = some (id, off, vs) → (id, off, vs.length) ∈ ws1) → (∀ id off vs, x = some (id, off, vs) → ∀ y ∈ ws, y.1 = id → off + vs.length ≤ y.2.1 ∨ y.2.1 + y.2.2 ≤ off) → GQ P N ops dfs hp0 ks K l (pushD o.dst v e) h1 ws1 → GFacts P N ops dfs hp0 ks K (o :: l) k e h ws := fun v x h1 ws1 hst _ hn1 hg1 hws hwx hap hq => by
      obtain ⟨V, W, h', hV, hK, ⟨hn', hg'⟩, hA⟩ := gq_facts l (k + 1) (pushD o.dst v e) h1 ws1 hl' hq
      have hfold : ∀ m, (List.range (m + 1)).foldl (fun e i => pushD (dstOf ops (k + i)) ((fun i => if i = k then v else V i) (k + i)) e) e = (List.range m).foldl (fun e i => pushD (dstOf ops (k + 1 + i)) (V (k + 1 + i)) e) (pushD o.dst v e) := fun m => by
        rw [List.range_succ_eq_map, List.foldl_cons, List.foldl_map]
        simp only [Nat.add_zero, if_true, hdst]
        congr 1
        funext e i
        rw [if_neg (by omega), show k + Nat.succ i = k + 1 + i by omega]
      have eW : ∀ j, (fun i => if i = k then x else W i) (k + (j + 1)) = W (k + 1 + j) := fun j => by
        simp only [show k + (j + 1) ≠ k by omega, if_false]
        rw [show k + (j + 1) = k + 1 + j by omega]
      have eV : ∀ j, (fun i => if i = k then v else V i) (k + (j + 1)) = V (k + 1 + j) := fun j => by
        simp only [show k + (j + 1) ≠ k by omega, if_false]
        rw [show k + (j + 1) = k + 1 + j by omega]
      refine ⟨fun i => if i = k then v else V i, fun i => if i = k then x else W i, h', ?_, ?_, ⟨by rw [hn', hn1], fun i => ?_⟩, ?_⟩
      · intro j hj
        cases j with
        | zero => exact ⟨o, h0, e, by simpa using hst, rfl⟩
        | succ j =>
          obtain ⟨o', ho', ej, hs', he⟩ := hV j (by simp at hj; omega)
          refine ⟨o', by rw [show k + (j + 1) = k + 1 + j by omega]; exact ho', ej, ?_, ?_⟩
          · rw [eV, eW]
            cases hWj : W (k + 1 + j) with
            | none => rw [hWj] at hs'; exact hs'
            | some y =>
              obtain ⟨id, off, vs⟩ := y
              rw [hWj] at hs'
              obtain ⟨s1, s2, s3, s4, b, s5, s6⟩ := hs'
              rw [hg1] at s5
              cases hb : h.get id with
              | none => rw [hb] at s5; cases s5
              | some b0 =>
                rw [hb] at s5
                cases s5
                refine ⟨s1, s2, s3, s4, b0, hb, ?_⟩
                refine Nat.le_trans s6 ?_
                simp only
                split
                · split
                  · rw [setRow_length]; exact Nat.le_refl _
                  · exact Nat.le_refl _
                · exact Nat.le_refl _
          · rw [he]; exact (hfold j).symm
      · rw [List.length_cons, hfold]; exact hK
      · rw [hg', hg1]
        cases h.get i with
        | none => rfl
        | some b =>
          simp only [Option.map_some, Option.some.injEq, Blk.mk.injEq, and_true]
          rw [List.length_cons, List.range_succ_eq_map, List.foldl_cons, List.foldl_map]
          simp only [Nat.add_zero, if_true]
          congr 1
          funext cs j
          simp only [Nat.succ_eq_add_one]
          rw [if_neg (by omega), show k + (j + 1) = k + 1 + j by omega]
      · intro j id off vs hj hW
        cases j with
        | zero =>
          simp only [Nat.add_zero, if_true] at hW
          exact ⟨hap id off vs hW, fun i _ _ hi => absurd hi (Nat.not_lt_zero _)⟩
        | succ j =>
          rw [eW] at hW
          obtain ⟨a1, a2⟩ := hA j id off vs (by simp at hj; omega) hW
          refine ⟨fun y hy => a1 y (hws y hy), fun i off' vs' hi hWi => ?_⟩
          cases i with
          | zero =>
            simp only [Nat.add_zero, if_true] at hWi
            exact a1 _ (hwx id off' vs' hWi) rfl
          | succ i =>
            rw [eW] at hWi
            exact a2 i off' vs' (by omega) hWi
    rcases hg with ⟨v, hd, hs, hq⟩ | ⟨id, off, vs, b, s1, s2, s3, s4, s5, s6, s7, hq⟩
    · exact build v none h ws ⟨hd, hs⟩ rfl rfl (fun i => by cases h.get i <;> simp) (fun _ h => h) (fun _ _ _ h => by cases h) (fun _ _ _ h => by cases h) hq
    · refine build .junk (some (id, off, vs)) (h.put id ⟨setRow b.cells off vs, b.esz, b.ety⟩) ((id, off, vs.length) :: ws) ⟨s1, s2, s3, s4, b, s6, s7⟩ rfl rfl (fun i => ?_) (fun _ h => List.mem_cons_of_mem _ h) (fun _ _ _ h => by cases h; exact List.mem_cons_self) (fun id' off' vs' h y hy hid => ?_) (by rw [s2]; exact hq)
      · rw [Hp.get_put]
        by_cases hi : id = i
        · subst hi; rw [if_pos rfl, s6]; simp
        · rw [if_neg hi]; cases h.get i <;> simp [hi]
      · cases h
        have := List.all_eq_true.1 s5 y hy
        simp only [Bool.or_eq_true, Bool.not_eq_true', Nat.ble_eq] at this
        rcases this with (h1 | h1) | h1
        · exact absurd hid (Nat.ne_of_beq_eq_false h1)
        · exact .inl h1
        · exact .inr h1
theorem fold_wr (i : Nat) (cs : List AV) (m : Nat) : (List.range m).foldl (fun cs j => match W (0 + j) with | some (id, off, vs) => if id = i then setRow cs off vs else cs | none => cs) cs = wr W (fun _ => true) i m cs := by
  induction m with
  | zero => rfl
  | succ m ih => rw [List.range_succ, List.foldl_append, ih]; simp [wr]
theorem fold_putsA (j : Nat) (e : List (Nat × AV)) : (List.range j).foldl (fun e i => pushD (dstOf ops (0 + i)) (V (0 + i)) e) e = putsA ops V (fun _ => true) j e := by
  induction j with
  | zero => rfl
  | succ j ih => rw [List.range_succ, List.foldl_append, ih]; simp [putsA]
theorem looks_sub {o : Oper} {t : Tmp} (h : t ∈ Op.looks o.op) : t ∈ o.looksAt ops := List.mem_append_left _ h
/-- What holds on the way. -/
def InvG (P : Program) (N : Sg) (ops : Array Oper) (V : Nat → AV) (W : Nat → Option (Nat × Nat × List AV)) (n : Nat) (ρ : Nat → Option Geo) (Z0 : Nat → Option Obj) (F : Ctx) (w0 : World) (dfs : List (FuncId × List AV)) (hp : Hp) (Q : Exit → Act → World → Prop) (e : List (Nat × AV)) (listed : Array Bool) (b : Act) (w : World) : Prop :=
  (∃ Z S, Ext Z0 w0 Z w ∧ RepH W (listedF listed) n hp S ∧ StRel N ρ Z F ⟨putsA ops V (listedF listed) n e, dfs, S⟩ b w ∧ (∃ i, i < n ∧ listedF listed i = false) ∧ ∀ i, n ≤ i → listedF listed i = false) ∨
  (∃ m, n ≤ m ∧ m ≤ ops.size ∧ (∀ i, i < m → listedF listed i = true) ∧ (∀ i, m ≤ i → listedF listed i = false) ∧ wpList P ops Q (ops.toList.drop m) b w)
theorem StRel.env_eq {hp : Hp} {ρ Z F a w} {e e' : List (Nat × AV)} (h : StRel N ρ Z F ⟨e, dfs, hp⟩ a w) (he : ∀ t, look t e' = look t e ∨ look t e' = .junk) : StRel N ρ Z F ⟨e', dfs, hp⟩ a w :=
  ⟨h.size, fun t => by
    show Rel ρ Z (look t e') _
    rcases he t with h' | h'
    · rw [h']; exact h.env t
    · rw [h']; trivial, h.dfs, h.hp, h.kk⟩
theorem wr_none {i : Nat} (cs : List AV) : ∀ (k : Nat), (∀ j, j < k → ∀ x, W j = some x → x.1 ≠ i) → wr W s i k cs = cs
  | 0, _ => rfl
  | k + 1, h => by
    unfold wr
    rw [wr_none cs k fun j hj => h j (by omega)]
    split
    · split
      · rename_i hW; rw [if_neg (h k (by omega) _ hW)]
      · rfl
    · rfl
theorem any_of_gtail {n : Nat} {anc : Nat → Nat → Prop} (q : QT ops n anc) {Q : Exit → Act → World → Prop} {ρ : Nat → Option Geo} {Z0 : Nat → Option Obj} {F : Ctx} {w0 : World}
    {ks : List Nat} {hp0 : Hp} (h0 : hp0.nxt = hp.nxt ∧ ∀ i b, hp0.get i = some b → hp.get i = some b ∧ ks.contains i = false) (hA : ApartS W n)
    (hV : ∀ j, j < n → ∃ o, ops[j]? = some o ∧ GSt P N ops o dfs hp0 hp ks (putsA ops V (fun _ => true) j e) (V j) (W j))
    (hK : ∀ Z b w S, Ext Z0 w0 Z w → RepH W (fun _ => true) n hp S → StRel N ρ Z F ⟨putsA ops V (fun _ => true) n e, dfs, S⟩ b w → wpList P ops Q (ops.toList.drop n) b w) :
    ∀ (fuel : Nat) (listed : Array Bool) (U : List Nat) (b : Act) (w : World), listed.size = ops.size → U.length ≤ fuel → (∀ j, j < ops.size → listedF listed j = false → j ∈ U) → Closed ops (listedF listed) →
      InvG P N ops V W n ρ Z0 F w0 dfs hp Q e listed b w → wpAny P .any ops Q fuel listed b w := by
  have unl : ∀ {listed : Array Bool} {j : Nat}, listed.size = ops.size → j < ops.size → listedF listed j = false → listed.getD j true = false := fun hsz hj h => by
    simp [listedF, hsz, hj] at h ⊢; exact h
  have lst : ∀ {listed : Array Bool} {j : Nat}, listed.getD j true = false → listedF listed j = false ∧ j < listed.size := fun {listed j} h => by
    rcases Nat.lt_or_ge j listed.size with h' | h'
    · exact ⟨by simp [listedF, h'] at h ⊢; exact h, h'⟩
    · simp [Array.getElem?_eq_none h'] at h
  have ready_of_none : ∀ {listed : Array Bool}, listed.size = ops.size → Region.ready .any ops listed = [] → ∀ d j, j ≤ d → j < ops.size → listedF listed j = true := by
    intro listed hsz h0 d
    induction d with
    | zero =>
      intro j hd hj
      cases hl : listedF listed j with
      | true => rfl
      | false =>
        have : j ∈ Region.ready .any ops listed := mem_ready.2 ⟨unl hsz hj hl, ops[j], by simp [hj], fun e he hb => by
          have := q.lex j ops[j] (by simp [hj]) e he hb
          omega⟩
        rw [h0] at this; cases this
    | succ d ih =>
      intro j hd hj
      cases hl : listedF listed j with
      | true => rfl
      | false =>
        have : j ∈ Region.ready .any ops listed := mem_ready.2 ⟨unl hsz hj hl, ops[j], by simp [hj], fun e he hb => by
          have := q.lex j ops[j] (by simp [hj]) e he hb
          exact ih e.on (by omega) (by omega)⟩
        rw [h0] at this; cases this
  have mk : ∀ {listed : Array Bool} {b : Act} {w : World} {Z : Nat → Option Obj} {S : Hp}, Ext Z0 w0 Z w → RepH W (listedF listed) n hp S → StRel N ρ Z F ⟨putsA ops V (listedF listed) n e, dfs, S⟩ b w → (∀ i, n ≤ i → listedF listed i = false) → InvG P N ops V W n ρ Z0 F w0 dfs hp Q e listed b w := by
    intro listed b w Z S hx hR hr ht
    by_cases hex : ∃ i, i < n ∧ listedF listed i = false
    · exact .inl ⟨Z, S, hx, hR, hr, hex, ht⟩
    · have hall : ∀ i, i < n → listedF listed i = true := fun i hi => by
        cases h : listedF listed i with
        | true => rfl
        | false => exact absurd ⟨i, hi, h⟩ hex
      exact .inr ⟨n, Nat.le_refl _, q.le, hall, ht, hK Z b w S hx ⟨hR.1, fun i => by rw [hR.2 i]; congr 1; funext b; rw [wr_congr i b.cells n hall]⟩ (hr.env_eq fun t => .inl (putsA_agree q fun i hi _ => (hall i hi).symm))⟩
  have fin : ∀ {listed : Array Bool} {b : Act} {w : World}, (∀ j, j < ops.size → listedF listed j = true) → InvG P N ops V W n ρ Z0 F w0 dfs hp Q e listed b w → Q .normal b w := by
    intro listed b w hall h
    rcases h with ⟨_, _, _, _, _, ⟨i, hi, hf⟩, _⟩ | ⟨m, h1, h2, h3, h4, h5⟩
    · rw [hall i (by have := q.le; omega)] at hf; cases hf
    · have hm : m = ops.size := by
        rcases Nat.lt_or_ge m ops.size with h | h
        · have h' := hall m h
          rw [h4 m (Nat.le_refl _)] at h'; cases h'
        · omega
      have hd : ops.toList.drop m = [] := List.drop_eq_nil_of_le (by rw [hm]; simp)
      rw [hd] at h5
      exact h5
  intro fuel
  induction fuel with
  | zero =>
    intro listed U b w hsz hU hmem hcl h
    have hall : ∀ j, j < ops.size → listedF listed j = true := fun j hj => by
      cases hl : listedF listed j with
      | true => rfl
      | false =>
        have h1 := hmem j hj hl
        have h2 : U = [] := List.eq_nil_of_length_eq_zero (by omega)
        rw [h2] at h1; cases h1
    refine ⟨?_, fin hall h⟩
    cases hr : Region.ready .any ops listed with
    | nil => rfl
    | cons x xs =>
      have hx : x ∈ Region.ready .any ops listed := by rw [hr]; exact List.mem_cons_self
      obtain ⟨hun, o, ho, _⟩ := mem_ready.1 hx
      have := hall x (Array.getElem?_eq_some_iff.1 ho).1
      rw [(lst hun).1] at this; cases this
  | succ fuel ih =>
    intro listed U b w hsz hU hmem hcl h
    refine ⟨fun h0 => fin (fun j hj => ready_of_none hsz h0 j j (Nat.le_refl _) hj) h, fun i hi => ?_⟩
    obtain ⟨hun, o, ho, hall⟩ := mem_ready.1 hi
    have hif := (lst hun).1
    have hil : i < listed.size := (lst hun).2
    have his : i < ops.size := (Array.getElem?_eq_some_iff.1 ho).1
    have hsz' : (listed.setIfInBounds i true).size = ops.size := by simp [hsz]
    have hset := fun j => listedF_set hil j
    have hU' : (U.erase i).length ≤ fuel := by
      have := List.length_erase_of_mem (hmem i his hif)
      have : 0 < U.length := List.length_pos_of_mem (hmem i his hif)
      omega
    have hmem' : ∀ j, j < ops.size → listedF (listed.setIfInBounds i true) j = false → j ∈ U.erase i := fun j hj hl => by
      rw [hset j] at hl
      simp only [Bool.or_eq_false_iff, decide_eq_false_iff_not] at hl
      exact (List.mem_erase_of_ne hl.2).2 (hmem j hj hl.1)
    have hcl' : Closed ops (listedF (listed.setIfInBounds i true)) := fun j oj hoj hl e he hb => by
      rw [hset] at hl ⊢
      by_cases hji : j = i
      · subst hji
        have : oj = o := Option.some.inj (hoj.symm.trans ho)
        subst this
        have := hall e he hb
        simp [listedF, this]
      · have hl' : listedF listed j = true := by simpa [hji] using hl
        have := hcl j oj hoj hl' e he hb
        simp [this]
    rcases h with ⟨Z, S, hx, hR, hr, ⟨i0, hi0, hf0⟩, htl⟩ | ⟨m, h1, h2, h3, h4, h5⟩
    · have hin : i < n := by
        rcases Nat.lt_or_ge i n with h | h
        · exact h
        · have := anc_ready q hcl ho hall (i := i0) (by have := q.le; omega) (q.tail i i0 h his (by omega))
          rw [hf0] at this; cases this
      obtain ⟨o', ho', hst0⟩ := hV i hin
      have : o' = o := Option.some.inj (ho'.symm.trans ho)
      subst this
      have hag : ∀ t, t ∈ o'.looksAt ops → look t (putsA ops V (fun _ => true) i e) = look t (putsA ops V (listedF listed) n e) := fun t ht => by
        have e1 : look t (putsA ops V (fun _ => true) i e) = look t (putsA ops V (fun k => decide (k < i)) n e) := by
          have : ∀ k, i ≤ k → putsA ops V (fun k => decide (k < i)) k e = putsA ops V (fun _ => true) i e := by
            intro k hk
            induction k with
            | zero => have : i = 0 := by omega
                      subst this; rfl
            | succ k ihk =>
              by_cases h : i = k + 1
              · subst h
                clear ihk
                have : ∀ m, m ≤ k + 1 → putsA ops V (fun i => decide (i < k + 1)) m e = putsA ops V (fun _ => true) m e := by
                  intro m hm
                  induction m with
                  | zero => rfl
                  | succ m ihm => simp only [putsA]; rw [ihm (by omega)]; simp [show m < k + 1 by omega]
                exact this _ (Nat.le_refl _)
              · simp only [putsA]
                rw [ihk (by omega)]
                simp [show ¬ k < i by omega]
          rw [this n (by omega)]
        rw [e1]
        refine (putsA_agree q fun k hk hkt => ?_).symm
        by_cases hki : k = i
        · subst hki; rw [hif]; simp
        · obtain ⟨r1, r2⟩ := q.reads k i o' t hk hin hki ho hkt ht
          by_cases hlt : k < i
          · have := anc_ready q hcl ho hall (i := k) (by omega) (r1 hlt)
            rw [this]; simp [hlt]
          · have hgt : i < k := by omega
            have ha := r2 hgt
            cases hk1 : listedF listed k with
            | false => simp [hlt]
            | true =>
              have := anc_closed q hcl k k i (Nat.le_refl _) (by have := q.le; omega) his ha hk1
              rw [hif] at this; cases this
      have hdst : dstOf ops i = o'.dst := by simp [dstOf, ho]
      have htl' : ∀ j, n ≤ j → listedF (listed.setIfInBounds i true) j = false := fun j hj => by
        rw [hset, htl j hj]; simp; omega
      have lkrel : ∀ t, look t (restr (Op.looks o'.op) (putsA ops V (fun _ => true) i e)) = look t (putsA ops V (listedF listed) n e) ∨ look t (restr (Op.looks o'.op) (putsA ops V (fun _ => true) i e)) = .junk := fun t => by
        rw [look_restr]
        split
        · rename_i hm; exact .inl (hag t (looks_sub hm))
        · exact .inr rfl
      unfold wpOp
      rw [ho]
      simp only
      cases hWi : W i with
      | some x =>
        obtain ⟨id, off, vs⟩ := x
        rw [hWi] at hst0
        obtain ⟨s1, s2, s3, s4, bb, s5, s6⟩ := hst0
        rw [if_pos (wanted_none s1)]
        have hrs : StRel N ρ Z F ⟨restr (Op.looks o'.op) (putsA ops V (fun _ => true) i e), dfs, S⟩ b w := hr.env_eq lkrel
        have hget : S.get id = some ⟨wr W (listedF listed) id n bb.cells, bb.esz, bb.ety⟩ := by rw [hR.2 id, s5]; rfl
        refine .inl (s3 ρ Z F b w S hrs _ _ _ hget (by rw [wr_length]; exact s6) _ _ fun w' hx' hh => ?_)
        refine ih _ (U.erase i) _ w' hsz' hU' hmem' hcl' (mk (S := S.put id ⟨setRow (wr W (listedF listed) id n bb.cells) off vs, bb.esz, bb.ety⟩) (hx.trans hx') ⟨hR.1, fun k => ?_⟩ ?_ htl')
        · rw [Hp.get_put]
          by_cases hk : id = k
          · subst hk
            rw [if_pos rfl, s5]
            simp only [Option.map_some]
            rw [wr_add hA hin hWi hif (fun k => hset k) bb.cells n (Nat.le_refl _), if_pos hin]
          · rw [if_neg hk, hR.2 k]
            congr 1
            funext b1
            rw [wr_other (id := id) (off := off) (vs := vs) (j := i) (fun x hx => by rw [hWi] at hx; cases hx; exact hk) (fun k => hset k)]
        · have h1 : StRel N ρ Z F ⟨putsA ops V (listedF listed) n e, dfs, S.put id ⟨setRow (wr W (listedF listed) id n bb.cells) off vs, bb.esz, bb.ety⟩⟩ b w' := ⟨hr.size, hr.env, hr.dfs, hh, hr.kk⟩
          refine h1.env_eq fun t => .inl (putsA_agree q fun k hk hkt => ?_)
          rw [hset]
          have : k ≠ i := fun e => by subst e; rw [hdst, s2] at hkt; cases hkt
          simp [this]
      | none =>
      rw [hWi] at hst0
      obtain ⟨hd', hst⟩ := hst0
      have keep : ∀ k b1, hp0.get k = some b1 → S.get k = some b1 := fun k b1 hk => by
        obtain ⟨k1, k2⟩ := h0.2 k b1 hk
        rw [hR.2 k, k1]
        simp only [Option.map_some]
        rw [wr_none]
        intro j hj x hx e
        obtain ⟨oj, _, hsj⟩ := hV j hj
        rw [hx] at hsj
        obtain ⟨id, off, vs⟩ := x
        have := hsj.2.2.2.1
        simp only at e
        subst e
        rw [this] at k2; cases k2
      have hrs : StRel N ρ Z F ⟨restr (Op.looks o'.op) (putsA ops V (fun _ => true) i e), dfs, hp0⟩ b w := by
        have h1 := hr.env_eq lkrel
        exact ⟨h1.size, h1.env, h1.dfs, h1.hp.lessG (by rw [h0.1]; exact hR.1.symm) keep, h1.kk⟩
      have hR' : RepH W (listedF (listed.setIfInBounds i true)) n hp S := ⟨hR.1, fun k => by
        rw [hR.2 k]
        congr 1
        funext b1
        rw [wr_other (id := 0) (off := 0) (vs := []) (j := i) (fun x hx => by rw [hWi] at hx; cases hx) (fun k => hset k)]⟩
      have goes : ∀ u w' Z', Ext Z w Z' w' → (∀ S, HpRel ρ Z F S w → HpRel ρ Z' F S w') → Rel ρ Z' (V i) u → wpAny P .any ops Q fuel (listed.setIfInBounds i true) (b.put o'.dst u) w' := fun u w' Z' hx' hh hv => by
        refine ih _ (U.erase i) _ w' hsz' hU' hmem' hcl' (mk (hx.trans hx') hR' ?_ htl')
        have h1 : StRel N ρ Z' F ⟨putsA ops V (listedF listed) n e, dfs, S⟩ b w' := ⟨hr.size, fun t => (hr.env t).mono (.refl _) hx'.Z_le, hr.dfs.mono (.refl _) hx'.Z_le, hh _ hr.hp, hr.kk⟩
        have h2 := h1.put (d := o'.dst) (okDst_spec hd') hv
        have h3 : StRel N ρ Z' F ⟨pushD o'.dst (V i) (putsA ops V (listedF listed) n e), dfs, S⟩ (b.put o'.dst u) w' := by
          cases hdd : o'.dst with
          | none => rw [hdd] at h2; exact h2
          | some t => rw [hdd] at h2; exact h2
        refine h3.env_eq fun t => .inl ?_
        rw [look_pushD, ← hdst]
        split
        · rename_i ht
          exact putsA_get ht (by rw [hset]; simp) n hin fun j h1 h2 => q.dist i j h1 h2 t ht
        · rename_i ht
          exact putsA_agree q fun k hk hkt => by
            rw [hset]
            have : k ≠ i := fun e => ht (by rw [← e]; exact hkt)
            simp [this]
      unfold GStep at hst
      cases hg : o'.guard with
      | none =>
        rw [hg] at hst
        rw [if_pos (wanted_none hg)]
        exact .inl (hst ρ Z F b w hrs _ _ goes)
      | some jw =>
        obtain ⟨j, want⟩ := jw
        rw [hg] at hst
        obtain ⟨t, hj, hcase⟩ := hst
        have htl2 : t ∈ o'.looksAt ops := by
          unfold Oper.looksAt
          rw [hg]
          refine List.mem_append_right _ ?_
          have : (ops[j]?).bind (·.dst) = some t := hj
          simp [this]
        have hlk := hag t htl2
        have hun : V i = .sc undef → wpAny P .any ops Q fuel (listed.setIfInBounds i true) (b.put o'.dst undef) w := fun hv =>
          goes undef w Z (.refl _ _) (fun _ h => h) (by rw [hv]; rfl)
        rcases hcase with ⟨hl, hv⟩ | ⟨bb, hl, ht, hf⟩
        · rw [wanted_undef hr hg hj (hlk.symm.trans hl), if_neg (by simp)]
          exact hun hv
        · rw [wanted_of hr hg hj (hlk.symm.trans hl)]
          by_cases hb : bb = want
          · rw [if_pos (by simp [hb])]
            exact .inl (ht hb ρ Z F b w hrs _ _ goes)
          · rw [if_neg (by simp [hb])]
            exact hun (hf (by cases bb <;> cases want <;> simp_all))
    · have him : i = m := by
        rcases Nat.lt_trichotomy i m with h | h | h
        · rw [h3 i h] at hif; cases hif
        · exact h
        · have := anc_ready q hcl ho hall (i := m) (by omega) (q.tail i m (by omega) his h)
          rw [h4 m (Nat.le_refl _)] at this; cases this
      subst him
      have hdrop : ops.toList.drop i = o :: ops.toList.drop (i + 1) := by
        have : i < ops.toList.length := by simpa using his
        rw [List.drop_eq_getElem_cons this]
        congr 1
        have := Array.getElem?_eq_some_iff.1 ho
        obtain ⟨hh, h⟩ := this
        simpa using h
      rw [hdrop] at h5
      have key : wpOp P ops Q i (wpList P ops Q (ops.toList.drop (i + 1))) b w := by
        unfold wpOp
        simp only [ho]
        exact h5
      refine wpOp_mono (fun b' w' h => ?_) key
      refine ih _ (U.erase i) b' w' hsz' hU' hmem' hcl' (.inr ⟨i + 1, by omega, by omega, ?_, ?_, h⟩)
      · intro j hj
        rw [hset]
        by_cases h : j = i
        · simp [h]
        · rw [h3 j (by omega)]; rfl
      · intro j hj
        rw [hset, h4 j (by omega)]
        simp; omega
/-- The heap without some blocks. -/
def kills (h : Hp) : List Nat → Hp
  | [] => h
  | k :: ks => (kills h ks).kill k
theorem kills_get {h : Hp} {i : Nat} {b : Blk} : ∀ {ks : List Nat}, (kills h ks).get i = some b → h.get i = some b ∧ ks.contains i = false
  | [], e => ⟨e, rfl⟩
  | k :: ks, e => by
    unfold kills at e
    rw [Hp.get_kill] at e
    split at e
    · cases e
    · rename_i hne
      obtain ⟨h1, h2⟩ := kills_get e
      refine ⟨h1, ?_⟩
      simp only [List.contains_cons, h2, Bool.or_false]
      exact beq_eq_false_iff_ne.2 (Ne.symm hne)
theorem kills_nxt {h : Hp} : ∀ {ks : List Nat}, (kills h ks).nxt = h.nxt
  | [] => rfl
  | _ :: ks => kills_nxt (ks := ks)
/-- **A REGION WHOSE ORDER IS OPEN**: the first n operations in any order, walked once; then what waits for all of them. Blocks of ks are only written there. -/
theorem awp_gdraw [hm : Mixed P] {id : Nat} {l : List Oper} (n : Nat) (ks : List Nat) (hB : qtailB l.toArray n = true)
    (h : GQ P N l.toArray dfs (kills hp ks) ks (fun e h => AOps P N l.toArray Q (l.drop n) ⟨e, dfs, h⟩) (l.take n) env hp []) : AWP P N (.region id l.toArray true) Q ⟨env, dfs, hp⟩ := awp_of fun ρ Z F a w hr => by
  have q := qt_of hB
  have hn : n ≤ l.length := by simpa using q.le
  have hlen : (l.take n).length = n := by simp [hn]
  obtain ⟨V, W, h', hV, hK, ⟨hn', hg'⟩, hA⟩ := gq_facts (l.take n) 0 env hp [] (fun j hj => by
    have hj' : j < n := by simp at hj; omega
    simp [hj']) h
  rw [hlen] at hV hK hg' hA
  refine wp_region_any hm.out ?_
  have hb : Below w.heap.size w { w with drawn := w.drawn + 1 } := ⟨rfl, rfl, rfl, Nat.le_refl _, fun _ _ => rfl⟩
  have tail : ∀ Z' b w' S, Ext Z w Z' w' → RepH W (fun _ => true) n hp S → StRel N ρ Z' F ⟨putsA l.toArray V (fun _ => true) n env, dfs, S⟩ b w' → wpList P l.toArray (CQ N Z F w Q) (l.drop n) b w' := fun Z' b w' S hx hR hr' => by
    rw [fold_putsA] at hK
    have h1 : HpRel ρ Z' F h' w' := hr'.hp.lessG (by rw [hn']; exact hR.1.symm) fun i b hb => by
      rw [hg' i] at hb
      rw [hR.2 i, ← hb]
      congr 1
      funext b1
      rw [fold_wr]
    have := hK ρ Z' F b w' ⟨hr'.size, hr'.env, hr'.dfs, h1, hr'.kk⟩
    exact wpList_mono (fun _ _ _ q => q.ext hx) _ _ _ this
  refine any_of_gtail (Z0 := Z) (w0 := w) (F := F) (ρ := ρ) (N := N) (dfs := dfs) (hp := hp) (V := V) (W := W) (e := env) (hp0 := kills hp ks) (ks := ks) q ⟨kills_nxt, fun i b hb => kills_get hb⟩ ?_ ?_ (fun Z' b w' S hx hR hr' => by simpa using tail Z' b w' S hx hR hr') l.toArray.size (Array.replicate l.toArray.size false) (List.range l.toArray.size) a _ (by simp) (by simp) (fun j hj _ => List.mem_range.2 hj) ?_ ?_
  · intro j k id off vs off' vs' hj hk hne hj' hk'
    rcases Nat.lt_or_ge j k with h1 | h1
    · have := (hA k id off' vs' hk (by rw [Nat.zero_add]; exact hk')).2 j off vs h1 (by rw [Nat.zero_add]; exact hj')
      omega
    · have := (hA j id off vs hj (by rw [Nat.zero_add]; exact hj')).2 k off' vs' (by omega) (by rw [Nat.zero_add]; exact hk')
      omega
  · intro j hj
    obtain ⟨o, ho, ej, hs, he⟩ := hV j hj
    rw [Nat.zero_add] at ho hs
    rw [fold_putsA] at he
    exact ⟨o, ho, he ▸ hs⟩
  · intro j o ho hl
    rw [repF] at hl; cases hl
  · have hnone : ∀ m, putsA l.toArray V (listedF (Array.replicate l.toArray.size false)) m env = env := by
      intro m
      induction m with
      | zero => rfl
      | succ m ih => simp only [putsA]; rw [ih, repF]; rfl
    have hnw : ∀ m i cs, wr W (listedF (Array.replicate l.toArray.size false)) i m cs = cs := by
      intro m i cs
      induction m with
      | zero => rfl
      | succ m ih => unfold wr; rw [ih, repF]; rfl
    by_cases hn0 : 0 < n
    · exact .inl ⟨Z, hp, .of_below hb, ⟨rfl, fun i => by
        cases hp.get i with
        | none => rfl
        | some b => show some b = some (⟨wr W (listedF (Array.replicate l.toArray.size false)) i n b.cells, b.esz, b.ety⟩ : Blk); rw [hnw]⟩, by rw [hnone]; exact hr.below hb, ⟨0, hn0, repF _ _⟩, fun i _ => repF _ i⟩
    · have hn0' : n = 0 := by omega
      subst hn0'
      refine .inr ⟨0, Nat.le_refl _, Nat.zero_le _, fun i hi => absurd hi (Nat.not_lt_zero _), fun i _ => repF _ i, ?_⟩
      have := tail Z a _ hp (.of_below hb) ⟨rfl, fun i => by cases hp.get i <;> rfl⟩ (hr.below hb)
      simpa using this

/-! ### The walk's rules -/
variable {K : List (Nat × AV) → Hp → Prop} {rest : List Oper} {p : Prop} {ks : List Nat} {hc : Hp} {ws : List (Nat × Nat × Nat)}
theorem gq_nil (h : K env hc) : GQ P N ops dfs hp ks K [] env hc ws := h
theorem g_g (hy : GY P N ⟨some t, op, ty, pos, af, none⟩ ⟨restr (Op.looks op) env, dfs, hp⟩ v) (hd : Nat.blt t N.n = true) (h : GQ P N ops dfs hp ks K rest ((t, v) :: env) hc ws) : GQ P N ops dfs hp ks K (⟨some t, op, ty, pos, af, none⟩ :: rest) env hc ws :=
  .inl ⟨v, hd, hy, h⟩
theorem g_y (hy : Yld P N ⟨some t, op, ty, pos, af, none⟩ ⟨restr (Op.looks op) env, dfs, hp⟩ v) (hd : Nat.blt t N.n = true) (h : GQ P N ops dfs hp ks K rest ((t, v) :: env) hc ws) : GQ P N ops dfs hp ks K (⟨some t, op, ty, pos, af, none⟩ :: rest) env hc ws :=
  .inl ⟨v, hd, .of hy, h⟩
theorem g_c (hy : QY P N ⟨some t, op, ty, pos, af, none⟩ ⟨restr (Op.looks op) env, dfs, hp⟩ v) (hd : Nat.blt t N.n = true) (h : GQ P N ops dfs hp ks K rest ((t, v) :: env) hc ws) : GQ P N ops dfs hp ks K (⟨some t, op, ty, pos, af, none⟩ :: rest) env hc ws :=
  .inl ⟨v, hd, .ofQ hy, h⟩
theorem g_g_t {j tj : Nat} {want b : Bool} (hj : dstOf ops j = some tj) (hb : look tj env = .sc (.bool b)) (hd : okDst N (some t) = true) (hk : b = want)
    (h1 : GQ P N ops dfs hp ks K (⟨some t, op, ty, pos, af, none⟩ :: rest) env hc ws) : GQ P N ops dfs hp ks K (⟨some t, op, ty, pos, af, some (j, want)⟩ :: rest) env hc ws := by
  rcases h1 with ⟨v, h2, h3, h4⟩ | ⟨id, off, vs, b', s1, s2, _⟩
  · exact .inl ⟨v, hd, ⟨tj, hj, .inr ⟨b, hb, fun _ => h3, fun h => by subst hk; cases b <;> cases h⟩⟩, h4⟩
  · cases s2
theorem g_g_f {j tj : Nat} {want b : Bool} (hj : dstOf ops j = some tj) (hb : look tj env = .sc (.bool b)) (hd : okDst N (some t) = true) (hk : b = !want)
    (h2 : GQ P N ops dfs hp ks K rest ((t, .sc undef) :: env) hc ws) : GQ P N ops dfs hp ks K (⟨some t, op, ty, pos, af, some (j, want)⟩ :: rest) env hc ws :=
  .inl ⟨.sc undef, hd, ⟨tj, hj, .inr ⟨b, hb, fun h => (by subst hk; cases want <;> cases h), fun _ => rfl⟩⟩, h2⟩
theorem g_off {j tj : Nat} {want : Bool} (hj : dstOf ops j = some tj) (hb : look tj env = .sc undef) (hd : okDst N (some t) = true) (h : GQ P N ops dfs hp ks K rest ((t, .sc undef) :: env) hc ws) : GQ P N ops dfs hp ks K (⟨some t, op, ty, pos, af, some (j, want)⟩ :: rest) env hc ws :=
  .inl ⟨.sc undef, hd, ⟨tj, hj, .inl ⟨hb, rfl⟩⟩, h⟩
theorem gs_one {t' : TypeId} {x y : Operand} {id off bytes ez et : Nat} {cs cs' : List AV} {zero : Value} [ha : Inf P t' 1 bytes zero] (hx : St.ev ⟨restr (Op.looks (.store t' x y)) env, dfs, hp⟩ x = .ptr id off) (hy : St.ev ⟨restr (Op.looks (.store t' x y)) env, dfs, hp⟩ y = v) (h1 : v.one = true)
    (hk : ks.contains id = true) (ha' : apartW id off 1 ws = true) (hb : hc.get id = some ⟨cs, ez, et⟩) (hl : Nat.blt off cs.length = true) (hs : cs.set off v = cs') (h : GQ P N ops dfs hp ks K rest env ⟨hc.nxt, (id, some ⟨cs', ez, et⟩) :: hc.bs⟩ ((id, off, 1) :: ws)) :
    GQ P N ops dfs hp ks K (⟨none, .store t' x y, ty, pos, af, none⟩ :: rest) env hc ws := by
  subst hs
  exact .inr ⟨id, off, [v], ⟨cs, ez, et⟩, rfl, rfl, ss_one (hp := hp) hx hy h1, hk, ha', hb, by rw [Nat.blt_eq] at hl; exact hl, h⟩
theorem gs_agg {t' : TypeId} {x y : Operand} {id off size bytes ez et : Nat} {cs vs : List AV} {zero : Value} [ha : Inf P t' size bytes zero] (hx : St.ev ⟨restr (Op.looks (.store t' x y)) env, dfs, hp⟩ x = .ptr id off) (hy : St.ev ⟨restr (Op.looks (.store t' x y)) env, dfs, hp⟩ y = .agg vs) (h1 : vs.all AV.one = true) (hz : vs.length = size)
    (hk : ks.contains id = true) (ha' : apartW id off vs.length ws = true) (hb : hc.get id = some ⟨cs, ez, et⟩) (hl : Nat.ble (off + vs.length) cs.length = true) (h : GQ P N ops dfs hp ks K rest env ⟨hc.nxt, (id, some ⟨setRow cs off vs, ez, et⟩) :: hc.bs⟩ ((id, off, vs.length) :: ws)) :
    GQ P N ops dfs hp ks K (⟨none, .store t' x y, ty, pos, af, none⟩ :: rest) env hc ws :=
  .inr ⟨id, off, vs, ⟨cs, ez, et⟩, rfl, rfl, ss_agg (hp := hp) hx hy h1 hz, hk, ha', hb, Nat.le_of_ble_eq_true hl, h⟩
theorem g_if {j tj : Nat} {b : Bool} (hj : dstOf ops j = some tj) (hb : look tj env = .sc (.bool b)) (hd : okDst N (some t) = true) [h : Says b p]
    (h1 : b = true → p → GQ P N ops dfs hp ks K (⟨some t, op, ty, pos, af, none⟩ :: rest) env hc ws) (h2 : b = false → ¬ p → GQ P N ops dfs hp ks K rest ((t, .sc undef) :: env) hc ws) : GQ P N ops dfs hp ks K (⟨some t, op, ty, pos, af, some (j, true)⟩ :: rest) env hc ws := by
  cases hbb : b with
  | true => exact g_g_t hj hb hd hbb (h1 hbb (h.out.1 hbb))
  | false => exact g_g_f hj hb hd hbb (h2 hbb (h.no hbb))
theorem g_un {j tj : Nat} {b : Bool} (hj : dstOf ops j = some tj) (hb : look tj env = .sc (.bool b)) (hd : okDst N (some t) = true) [h : Says b p]
    (h1 : b = false → ¬ p → GQ P N ops dfs hp ks K (⟨some t, op, ty, pos, af, none⟩ :: rest) env hc ws) (h2 : b = true → p → GQ P N ops dfs hp ks K rest ((t, .sc undef) :: env) hc ws) : GQ P N ops dfs hp ks K (⟨some t, op, ty, pos, af, some (j, false)⟩ :: rest) env hc ws := by
  cases hbb : b with
  | false => exact g_g_t hj hb hd hbb (h1 hbb (h.no hbb))
  | true => exact g_g_f hj hb hd hbb (h2 hbb (h.out.1 hbb))
end
end Go.Proofs.YtdcnpkbflelpfaaDoor.Sx
