/- Own blocks that become views; bytes of a string; closures that hand back more than a plain value; results that are wholly known. -/
import Derived.Test.YtdcnpkbflelpfaaDoorSx27
import Derived.Lib.ConvBytes
namespace Go.Proofs.YtdcnpkbflelpfaaDoor.Sx
open Go Go.RowKit
def updZ (Z : Nat → Option Obj) (b : Nat) (o : Obj) : Nat → Option Obj := fun j => if b = j then some o else Z j
theorem updZ_le {Z : Nat → Option Obj} {b : Nat} {o : Obj} (h : Z b = none) : Le Z (updZ Z b o) := fun j x e => by
  unfold updZ
  split
  · rename_i hj; subst hj; rw [h] at e; cases e
  · exact e
theorem HpRel.addZ {ρ : Nat → Option Geo} {Z : Nat → Option Obj} {F : Ctx} {S : Hp} {w : World} (h : HpRel ρ Z F S w) {b : Nat} {o : Obj} (hb : w.heap[b]? = some o) (hz : Z b = none) (hF : F.F b = none)
    (hown : ∀ i bk g, S.get i = some bk → ρ i = some g → g.sol → g.blk ≠ b) : HpRel ρ (updZ Z b o) F S w := by
  have hle := updZ_le (o := o) hz
  refine ⟨fun i bk hi => let ⟨g, h1, h2⟩ := h.live i bk hi; ⟨g, h1, h2.imp (fun _ _ h => h) (.refl _) hle⟩, h.inj, fun i bk g h1 h2 h0 => ?_, h.offF, fun j x e => ?_, h.fixF, h.fresh, fun j x e => ?_, h.anch, fun b cs e => let ⟨t, st, h1⟩ := h.pin b cs e; ⟨t, st, hle _ _ h1⟩⟩
  · unfold updZ
    rw [if_neg (fun e => hown i bk g h1 h2 h0 e.symm)]
    exact h.offZ i bk g h1 h2 h0
  · unfold updZ at e
    split at e
    · rename_i hj; subst hj; rw [hb]; exact e
    · exact h.fixZ j x e
  · unfold updZ at e
    split at e
    · rename_i hj; subst hj; exact hF
    · exact h.disj j x e
section
variable {P : Program} {N : Sg} {σ : St} {d : Option Tmp} {ty : TypeId} {pos : String} {af : Array Edge} {gd : Option (Nat × Bool)} {K : St → Prop} {Q : Exit → St → Prop}
  {env : List (Nat × AV)} {dfs : List (FuncId × List AV)} {hp : Hp} {t : Tmp} {n : Nat} {bs : List (Nat × Option Blk)}
/-- The bytes of a string are a view of a row of their own. -/
theorem x_convB {src dst e : TypeId} {x : Operand} {s : ByteArray} [hs : Und P src .string] [hd' : Und P dst (.slice e)] [he : Und P e (.int .u8)] (hx : St.ev ⟨env, dfs, hp⟩ x = .sc (.string s)) (hd : Nat.blt t N.n = true) (hk : K ⟨(t, .vsl (byts (ints s)) 1 0 s.size) :: env, dfs, hp⟩) :
    AExec P N ⟨some t, .convert src dst x, ty, pos, af, gd⟩ K ⟨env, dfs, hp⟩ := fun ρ Z F a w hr next Qc hn => by
  have hrun : (execOp a.eval ⟨some t, .convert src dst x, ty, pos, af, gd⟩).run P w = .ok (.value (.slice (some ⟨w.heap.size, 0, none⟩) s.size (grownCap w s.size 0 e))) (Lib.bytesWorld w e s) := by
    simp only [execOp, ev_sc hr hx, Sem.run_bind, Lib.run_convert_string_bytes w src dst e s hs.out hd'.out he.out, Result.andThen_ok, Sem.run_pure]
  have hb : Below w.heap.size w (Lib.bytesWorld w e s) := ⟨rfl, rfl, rfl, by rw [Lib.bytesWorld_size]; omega, fun k hk => Lib.bytesWorld_at_old w e s k hk⟩
  have hnone : w.heap[w.heap.size]? = none := by simp
  have hz : Z w.heap.size = none := by
    cases h : Z w.heap.size with
    | none => rfl
    | some o => have := hr.hp.fixZ _ _ h; rw [hnone] at this; cases this
  have hF : F.F w.heap.size = none := by
    cases h : F.F w.heap.size with
    | none => rfl
    | some o => have := hr.hp.fixF _ _ h; rw [hnone] at this; cases this
  have hnew := Lib.bytesWorld_at_new w e s
  have hhp := (hr.hp.below hb).addZ hnew hz hF (fun i bk g h1 h2 h0 => Nat.ne_of_lt (hr.hp.lt h1 h2 h0))
  have hle := updZ_le (o := .cells (Lib.bytesCells w e s) e ((Lib.bytesCells w e s).size, (Lib.bytesCells w e s).size + 1)) hz
  have hcap : s.size ≤ grownCap w s.size 0 e := by have := grownCap_ge w s.size 0 e; omega
  unfold Oper.wp
  rw [hrun]
  have hst : StRel N ρ (updZ Z w.heap.size (.cells (Lib.bytesCells w e s) e ((Lib.bytesCells w e s).size, (Lib.bytesCells w e s).size + 1))) F ⟨env, dfs, hp⟩ a (Lib.bytesWorld w e s) := hr.mono (.refl _) hle hhp
  refine hn _ _ ρ _ _ ⟨hle, rfl, rfl, rfl, by rw [Lib.bytesWorld_size]; omega⟩ (hst.put (d := some t) (v := .vsl (byts (ints s)) 1 0 s.size) (by rintro _ ⟨⟩; rwa [Nat.blt_eq] at hd) ⟨_, _, rfl, hcap, by simp [byts, ints], fun _ => ⟨w.heap.size, 0, _, _, _, rfl, by unfold updZ; rw [if_pos rfl], ?_⟩⟩) hk
  have : (Lib.bytesCells w e s).toList = (s.data.toList.map fun b => Value.int .u8 b.toNat) ++ List.replicate (grownCap w s.size 0 e - s.size) (.int .u8 0) := by simp [Lib.bytesCells]
  rw [List.drop_zero, this]
  refine RelP.more ?_
  have := RelP_sc (fun _ => none) (updZ Z w.heap.size (.cells (Lib.bytesCells w e s) e ((Lib.bytesCells w e s).size, (Lib.bytesCells w e s).size + 1))) (s.data.toList.map fun b => Value.int .u8 b.toNat)
  have e2 : byts (ints s) = (s.data.toList.map fun b => Value.int .u8 b.toNat).map AV.sc := by simp [byts, ints]
  rw [e2]
  exact this

/-! ### What nobody writes any more -/
theorem HpRel.frz {ρ : Nat → Option Geo} {Z : Nat → Option Obj} {F : Ctx} {S : Hp} {w : World} (h : HpRel ρ Z F S w) {id : Nat} {b : Blk} {g : Geo} (hi : S.get id = some b) (hg : ρ id = some g) (h0 : 0 < g.cap) (hf : b.cells.all AV.flat = true) :
    ∃ cur Z', w.heap[g.blk]? = some (.cells cur b.ety (0, 0)) ∧ Z' g.blk = some (.cells cur b.ety (0, 0)) ∧ g.esz = b.esz ∧ Le Z Z' ∧ RelP (fun _ => none) Z' b.cells cur.toList ∧ HpRel ρ Z' F (S.kill id) w := by
  obtain ⟨cur, h1, h2, h3, h4⟩ := h.liveAt hi hg h0
  have hz := h.offZ id b g hi hg (.inl h0)
  have hle := updZ_le (o := .cells cur b.ety (0, 0)) hz
  refine ⟨cur, updZ Z g.blk (.cells cur b.ety (0, 0)), h1, by unfold updZ; rw [if_pos rfl], h3, hle, flat_relP hle hf h4, (h.kill id).addZ h1 hz (h.offF id b g hi hg (.inl h0)) fun i bk g' hi' hg' h0' e => ?_⟩
  rw [Hp.get_kill] at hi'
  split at hi'
  · cases hi'
  · rename_i hne
    exact hne (h.inj id i b bk g g' hi hi' hg hg' (.inl h0) h0' e.symm)
theorem CQ.le {N : Sg} {Z Z' : Nat → Option Obj} {F : Ctx} {w : World} {Q : Exit → St → Prop} (hle : Le Z Z') {e : Exit} {a' : Act} {w' : World} (c : CQ N Z' F w Q e a' w') : CQ N Z F w Q e a' w' := c.ext ⟨hle, rfl, rfl, rfl, Nat.le_refl _⟩
theorem iwp_imp {is : List Item} {Q Q' : Exit → Act → World → Prop} {a : Act} {w : World} (h : IWp P is Q a w) (hq : ∀ e a w, Q e a w → Q' e a w) : IWp P is Q' a w := fun b k cs =>
  let ⟨e, a', w', q, r⟩ := h b k cs; ⟨e, a', w', hq _ _ _ q, r⟩
/-- A slot that points into an own block: the block is a view from now on. -/
theorem iw_frzP {is : List Item} (t : Tmp) (id : Nat) {off ez et : Nat} {cs : List AV} (ht : look t env = .ptr id off) (hb : find id bs = some ⟨cs, ez, et⟩) (hf : cs.all AV.flat = true)
    (hk : IW P N is Q ⟨(t, .vptr cs off) :: env, dfs, ⟨n, (id, none) :: bs⟩⟩) : IW P N is Q ⟨env, dfs, ⟨n, bs⟩⟩ := fun ρ Z F a w hr => by
  have hv := hr.env t
  have ht' : St.get ⟨env, dfs, ⟨n, bs⟩⟩ t = .ptr id off := ht
  rw [ht'] at hv
  obtain ⟨g, hg, g0, e⟩ := hv
  obtain ⟨cur, Z', h1, h2, h3, h4, h5, h6⟩ := hr.hp.frz (S := ⟨n, bs⟩) (b := ⟨cs, ez, et⟩) hb hg g0 hf
  have hst : StRel N ρ Z' F ⟨(t, .vptr cs off) :: env, dfs, ⟨n, (id, none) :: bs⟩⟩ a w := ⟨hr.size, fun i => by
    show Rel ρ Z' (look i ((t, .vptr cs off) :: env)) _
    rw [look_cons]
    split
    · rename_i hti; subst hti
      exact ⟨g.blk, 0, cur, et, (0, 0), by rw [e]; simp, h2, by simpa using h5⟩
    · exact (hr.env i).mono (.refl _) h4, hr.dfs.mono (.refl _) h4, h6, hr.kk⟩
  exact iwp_imp (hk ρ Z' F a w hst) fun _ _ _ q => q.le h4
/-- A slice that lies in a block's cell: what it shows is a view from now on. -/
theorem iw_frzH {is : List Item} (j off id : Nat) {o len ez et jz jt : Nat} {cs ds : List AV} (hj : find j bs = some ⟨cs, jz, jt⟩) (hc : cs[off]? = some (.sl id o len)) (hb : find id bs = some ⟨ds, ez, et⟩) (hf : ds.all AV.flat = true) (hl : o * ez + len * ez ≤ ds.length) (hne : Nat.beq j id = false)
    (hk : IW P N is Q ⟨env, dfs, ⟨n, (j, some ⟨cs.set off (.vsl ds ez o len), jz, jt⟩) :: (id, none) :: bs⟩⟩) : IW P N is Q ⟨env, dfs, ⟨n, bs⟩⟩ := fun ρ Z F a w hr => by
  obtain ⟨gj, hgj, hbl⟩ := hr.hp.live (S := ⟨n, bs⟩) j ⟨cs, jz, jt⟩ hj
  have hj0 : 0 < gj.cap := hbl.room hc fun _ _ ⟨_, _, _, h, _⟩ => by cases h
  obtain ⟨curj, k1, k2, k3, k4⟩ := hbl.1 hj0
  obtain ⟨v, hv, g, A, hg, ev, hcap, hA⟩ := k4.get hc
  have hsetv : curj.toList.set off v = curj.toList := by
    apply List.ext_getElem?
    intro i
    rw [List.getElem?_set]
    split
    · rename_i e; subst e
      rw [hv]; split
      · rfl
      · rename_i hlt; rw [List.getElem?_eq_none (by omega)] at hv; cases hv
    · rfl
  obtain ⟨Z', hle, hrel, hhp⟩ : ∃ Z', Le Z Z' ∧ Rel ρ Z' (.vsl ds ez o len) v ∧ HpRel ρ Z' F (Hp.kill ⟨n, bs⟩ id) w := by
    rcases Nat.eq_zero_or_pos g.cap with h0 | h0
    · exact ⟨Z, .refl _, ⟨A, _, ev, by omega, hl, fun h => by omega⟩, hr.hp.kill id⟩
    · obtain ⟨cur, Z', h1, h2, h3, h4, h5, h6⟩ := hr.hp.frz (S := ⟨n, bs⟩) (b := ⟨ds, ez, et⟩) hb hg h0 hf
      refine ⟨Z', h4, ⟨A, _, ev, by omega, hl, fun h => ⟨g.blk, 0, cur, et, (0, 0), ?_, h2, by simpa using h5⟩⟩, h6⟩
      rw [hA (by omega), h3]; simp
  have hj' : find j ((id, none) :: bs) = some ⟨cs, jz, jt⟩ := by
    rw [find_cons, if_neg (Nat.ne_of_beq_eq_false hne ∘ Eq.symm)]; exact hj
  have hfin : HpRel ρ Z' F (Hp.put ⟨n, (id, none) :: bs⟩ j ⟨cs.set off (.vsl ds ez o len), jz, jt⟩) w := by
    refine hhp.set (b := ⟨cs, jz, jt⟩) hj' hgj (.of hj0 ⟨curj, k1, k2, k3, ?_⟩) (.inl hj0) (fun _ _ => rfl)
    have := (k4.mono (.refl _) hle).set (i := off) hrel
    rwa [hsetv] at this
  have hst : StRel N ρ Z' F ⟨env, dfs, ⟨n, (j, some ⟨cs.set off (.vsl ds ez o len), jz, jt⟩) :: (id, none) :: bs⟩⟩ a w := ⟨hr.size, fun i => (hr.env i).mono (.refl _) hle, hr.dfs.mono (.refl _) hle, hfin, hr.kk⟩
  exact iwp_imp (hk ρ Z' F a w hst) fun _ _ _ q => q.le hle

/-! ### Closures, whatever they hand back -/
theorem x_callV {x : Operand} {f : FuncId} {cap : List AV} {xs : List Operand} {ts : Array TypeId} {R : AV → Hp → Prop} [hc : Callable P f] (m : List Nat) (hx : σ.ev x = .fn f cap) (hn : m.Nodup) (hm : allLive σ.hp m = true) (hd : okDst N d = true)
    (spec : ACalls P f (renL (idx m) (xs.map σ.ev ++ cap)) (σ.hp.sub m) R)
    (hk : ∀ r S', R r S' → K (St.put ⟨σ.env, σ.dfs, σ.hp.back m S'⟩ d (r.ren (rOut m σ.hp.nxt)))) : AExec P N ⟨d, .call ⟨.value x, xs.toArray, ts⟩, ty, pos, af, gd⟩ K σ := fun ρ Z F a w hr next Qc hnx => by
  have hx' := hr.ev x
  rw [hx] at hx'
  obtain ⟨vs, e, hs, hp'⟩ := hx'
  have hrun : (execOp a.eval ⟨d, .call ⟨.value x, xs.toArray, ts⟩, ty, pos, af, gd⟩).run P w = .ok (.enter f ((xs.map a.eval).toArray ++ vs)) w := by
    simp [execOp, resolve, Deferred.ofValue, e, invoke, hc.out]
  unfold Oper.wp
  rw [hrun]
  show Calls P f _ w _
  have hp := callee_hp hr.hp hn
  refine (spec (subρ ρ m) Z _ w _ hp (fun i hi => subρ_out hi) (by simp [renL_length, hs]) ?_).mono ?_
  · have h1 : RelP ρ Z (xs.map σ.ev ++ cap) ((xs.map a.eval).toArray ++ vs).toList := by
      simpa using RelP.append (by simp) (map_ev hr xs) hp'
    exact h1.ren (subρ_spec ρ m)
  · rintro e w' ⟨u, ρ', Z', r, S', rfl, hx, h', hrel, hq⟩
    obtain ⟨hb, hren⟩ := caller_back hr.hp hn hm hx.Z_le h'
    have hle := backρ_le hr.hp ρ' m.length
    refine hnx _ w' _ Z' _ hx (StRel.put (σ := ⟨σ.env, σ.dfs, σ.hp.back m S'⟩) ⟨hr.size, fun t => (hr.env t).mono hle hx.Z_le, hr.dfs.mono hle hx.Z_le, hb, hr.kk⟩ (okDst_spec hd) (hrel.ren hren)) (hk r S' hq)
theorem v_func3 {f : FuncId} {x y z : Operand} {a b c : AV} (hx : σ.ev x = a) (hy : σ.ev y = b) (hz : σ.ev z = c) : Yld P N ⟨d, .makeFunc (.func f) #[] #[x, y, z], ty, pos, af, gd⟩ σ (.fn f [a, b, c]) := hx ▸ hy ▸ hz ▸ y_func (xs := [x, y, z])

/-! ### Values that are wholly known -/
def exL : List AV → Option (List Value)
  | [] => some []
  | .sc v :: r => match exL r with | some l => some (v :: l) | none => none
  | _ => none
def AV.exact : AV → Option Value
  | .sc v => some v
  | .agg cs => match exL cs with | some l => some (.agg l.toArray) | none => none
  | _ => none
theorem exL_rel {ρ : Nat → Option Geo} {Z : Nat → Option Obj} : ∀ {cs : List AV} {l : List Value}, exL cs = some l → RelP ρ Z cs l ∧ l.length = cs.length ∧ ∀ us : List Value, us.length = cs.length → RelP ρ Z cs us → us = l
  | [], l, h => by
    cases h
    exact ⟨trivial, rfl, fun us hu _ => List.eq_nil_of_length_eq_zero (by simpa using hu)⟩
  | a :: r, l, h => by
    cases a <;> simp only [exL, reduceCtorEq] at h
    cases hr : exL r with
    | none => rw [hr] at h; cases h
    | some l' =>
      rw [hr] at h
      cases h
      obtain ⟨h1, h2, h3⟩ := exL_rel (ρ := ρ) (Z := Z) hr
      refine ⟨⟨rfl, h1⟩, by simp [h2], fun us hu hp => ?_⟩
      cases us with
      | nil => simp at hu
      | cons u us =>
        obtain ⟨e1, e2⟩ := hp
        have e1' : u = _ := e1
        rw [e1', h3 us (by simpa using hu) e2]
theorem exact_rel {ρ : Nat → Option Geo} {Z : Nat → Option Obj} {v : AV} {u : Value} (h : v.exact = some u) : Rel ρ Z v u ∧ ∀ u', Rel ρ Z v u' → u' = u := by
  cases v <;> simp only [AV.exact, reduceCtorEq] at h
  · cases h; exact ⟨rfl, fun u' h => h⟩
  · rename_i cs
    cases hc : exL cs with
    | none => rw [hc] at h; cases h
    | some l =>
      rw [hc] at h
      cases h
      obtain ⟨h1, h2, h3⟩ := exL_rel (ρ := ρ) (Z := Z) hc
      refine ⟨⟨_, rfl, by simpa using h2, by simpa using h1⟩, fun u' ⟨vs, e, hs, hp⟩ => ?_⟩
      rw [e]
      obtain ⟨vl⟩ := vs
      have := h3 vl (by simpa using hs) hp
      rw [this]
theorem q_callE {f : FuncId} {xs : List Operand} {ts : Array TypeId} {v : AV} {u : Value} [hc : Callable P f] (spec : ACalls P f (renL (fun _ => none) (xs.map σ.ev)) ⟨0, []⟩ (fun r _ => r = v)) (hv : v.exact = some u) :
    QY P N ⟨d, .call ⟨.value (.func f), xs.toArray, ts⟩, ty, pos, af, gd⟩ σ v := fun ρ Z F a w hr => by
  refine ⟨u, (exact_rel hv).1, fun w' hb => ?_⟩
  have hrun : (execOp a.eval ⟨d, .call ⟨.value (.func f), xs.toArray, ts⟩, ty, pos, af, gd⟩).run P w' = .ok (.enter f (xs.map a.eval).toArray) w' := by
    simp [execOp, resolve, Deferred.ofValue, Act.eval, invoke, hc.out]
  unfold Oper.quietAt
  rw [hrun]
  refine ⟨rfl, ?_⟩
  have hr' := hr.below hb
  have hp := callee_hp hr'.hp (m := []) List.nodup_nil
  refine (spec (subρ ρ []) Z _ w' _ hp (fun i hi => by exact subρ_out (ρ := ρ) (m := []) (Nat.zero_le i)) (by simp [renL_length]) ?_).mono ?_
  · simpa using (map_ev hr xs).ren (ρ' := subρ ρ []) (r := fun _ => none) (fun _ _ _ h => by cases h)
  · rintro e w'' ⟨u', ρ', Z', r, S', rfl, hx, h', hrel, rfl⟩
    have hu : u' = u := (exact_rel hv).2 u' hrel
    subst hu
    refine ⟨rfl, hx.os.trans hb.os, hx.tape.trans hb.tape, hx.output.trans hb.output, Nat.le_trans hb.size hx.size, fun k hk => ?_⟩
    refine Eq.trans ?_ (hb.block k hk)
    have hk' : k < w'.heap.size := Nat.lt_of_lt_of_le hk hb.size
    have ho : w'.heap[k]? = some w'.heap[k] := by simp [hk']
    rw [ho]
    cases hz : Z k with
    | some o =>
      have h1 := hr'.hp.fixZ k o hz
      rw [ho] at h1; cases h1
      exact h'.fixZ k _ (hx.Z_le k _ hz)
    | none => exact h'.fixF k _ (frame_of ho hz fun i _ _ hi => by cases hi)

/-! ### More that only computes -/
theorem p_sliceS {t : TypeId} {x lo hi : Operand} {s : ByteArray} {k k' : IntKind} {l h : Int} [ht : Und P t .string] (hx : σ.ev x = .sc (.string s)) (hl : σ.ev lo = .sc (.int k l)) (hh : σ.ev hi = .sc (.int k' h)) (h0 : 0 ≤ l) (h1 : l ≤ h) (h2 : h ≤ s.size) :
    Pur P N ⟨d, .slice t x (some lo) (some hi) none, ty, pos, af, gd⟩ σ (.sc (.string (s.extract l.toNat h.toNat))) :=
  fun ρ Z F a w hr => ⟨_, rfl, fun w' => by
    have hb : (Instr.sliceBounds false s.size s.size (some (.int k l)) (some (.int k' h)) none).run P w' = .ok (l.toNat, h.toNat, s.size) w' := by
      simp [Instr.sliceBounds, run_sliceBound, show 0 ≤ h by omega, h0, h2, show l ≤ max h 0 by omega]
    simp [execOp, ev_sc hr hx, ev_sc hr hl, ev_sc hr hh, run_sliceAt_str t ht.out s _ _ w' _ _ hb]⟩
theorem p_sliceS_h {t : TypeId} {x hi : Operand} {s : ByteArray} {k : IntKind} {h : Int} [ht : Und P t .string] (hx : σ.ev x = .sc (.string s)) (hh : σ.ev hi = .sc (.int k h)) (h0 : 0 ≤ h) (h1 : h ≤ s.size) :
    Pur P N ⟨d, .slice t x none (some hi) none, ty, pos, af, gd⟩ σ (.sc (.string (s.extract 0 h.toNat))) :=
  fun ρ Z F a w hr => ⟨_, rfl, fun w' => by
    have hb : (Instr.sliceBounds false s.size s.size none (some (.int k h)) none).run P w' = .ok (0, h.toNat, s.size) w' := by
      simp [Instr.sliceBounds, run_sliceBound, h0, h1]
    simp [execOp, ev_sc hr hx, ev_sc hr hh, run_sliceAt_str t ht.out s _ _ w' _ _ hb]⟩
theorem p_lenS {x : Operand} {t : TypeId} {s : ByteArray} [ht : Und P t .string] (hx : σ.ev x = .sc (.string s)) : Pur P N ⟨d, .call ⟨.builtin .len, #[x], #[t]⟩, ty, pos, af, gd⟩ σ (.sc (.int .i64 s.size)) :=
  fun ρ Z F a w hr => ⟨_, rfl, fun w' => by simp [execOp, resolve, invoke, builtin, Builtin.len_, ev_sc hr hx, run_underlying ht.out, goInt]⟩
theorem y_toStrN {src dst e : TypeId} {x : Operand} [hs : Und P src (.slice e)] [he : Und P e (.int .u8)] [hd : Und P dst .string] (hx : σ.ev x = .sc (.slice none 0 0)) : Yld P N ⟨d, .convert src dst x, ty, pos, af, gd⟩ σ (.sc (.string (strOf []))) :=
  yld_pure fun ρ Z F a w hr => ⟨_, rfl, fun w' => by
    have hrun := run_toStr (P := P) (src := src) (dst := dst) (e := e) (w := w') (A := none) (cap := 0) (l := []) (fun h0 => absurd h0 (Nat.lt_irrefl _))
    simp only [List.length_nil] at hrun
    simp only [execOp, ev_sc hr hx, Sem.run_bind, hrun, Result.andThen_ok, Sem.run_pure]⟩
theorem clr2 (m : Int) (h0 : 0 ≤ m) (h1 : m ≤ 511) : IntKind.i64.wrap ((BitVec.ofInt IntKind.i64.bits m &&& ~~~(BitVec.ofInt IntKind.i64.bits 3)).toNat) = m / 4 * 4 := by
  have : ∀ k : Nat, k < 512 → IntKind.i64.wrap ((BitVec.ofInt IntKind.i64.bits (k : Int) &&& ~~~(BitVec.ofInt IntKind.i64.bits 3)).toNat) = (k : Int) / 4 * 4 := by decide +kernel
  have := this m.toNat (by omega)
  rwa [show ((m.toNat : Nat) : Int) = m by omega] at this
theorem z_clr2 {xt yt : TypeId} {x y : Operand} {m : Int} (hx : σ.ev x = .sc (.int .i64 m)) (hy : σ.ev y = .sc (.int .i64 3)) (h0 : 0 ≤ m) (h1 : m ≤ 511) : Yld P N ⟨d, .binOp .andNot xt x y yt, ty, pos, af, gd⟩ σ (.sc (.int .i64 (m / 4 * 4))) := by
  have := y_bin (P := P) (N := N) (d := d) (op := .andNot) (xt := xt) (yt := yt) (ty := ty) (pos := pos) (af := af) (gd := gd) hx hy rfl
  rwa [clr2 m h0 h1] at this
theorem z_shl256 {xt yt : TypeId} {x y : Operand} {k : IntKind} {m : Int} (hx : σ.ev x = .sc (.int .i64 m)) (hy : σ.ev y = .sc (.int k 8)) (h0 : -32768 ≤ m) (h1 : m ≤ 32767) : Yld P N ⟨d, .binOp .shl xt x y yt, ty, pos, af, gd⟩ σ (.sc (.int .i64 (m * 256))) := by
  have := y_shl (P := P) (N := N) (d := d) (xt := xt) (yt := yt) (ty := ty) (pos := pos) (af := af) (gd := gd) hx hy (by decide)
  rwa [show (2 : Int) ^ min (Int.toNat 8) IntKind.i64.bits = 256 by decide, wrap_i64 (by omega) (by omega)] at this
end
section
variable {P : Program} {fn : Func} {c : Code} {f : FuncId} {S : Hp} {R : AV → Hp → Prop}
theorem enter5 {a0 a1 a2 a3 a4 : AV} (hf : P.funcs[f]? = some fn) (hb : fn.body = some c) (n k : Nat) (rs : List ResultVar) (hn : 5 + (fn.ntmps - 5) = n) (hk : S.nxt = k) (hr : fn.results.toList = rs)
    (h : AWP P ⟨n, k⟩ c (retQ P k rs R) ⟨[(0, a0), (1, a1), (2, a2), (3, a3), (4, a4)], [], S⟩) : ACalls P f [a0, a1, a2, a3, a4] S R := by subst hk; subst hr; exact acalls_of hf hb n hn h
end
end Go.Proofs.YtdcnpkbflelpfaaDoor.Sx
