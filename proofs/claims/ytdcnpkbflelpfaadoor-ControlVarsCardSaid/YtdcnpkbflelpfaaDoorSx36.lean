/- strings.Builder: unsafe pointers there and back, the string of a row of bytes, a pointer against itself; nothing appended to nil. -/
import Derived.Test.YtdcnpkbflelpfaaDoorSx35
import Derived.Lib.Builder
import Derived.Lib.UnsafeStr
namespace Go.Proofs.YtdcnpkbflelpfaaDoor.Sx
open Go Go.RowKit
section
variable {P : Program} {N : Sg} {σ : St} {d : Option Tmp} {ty : TypeId} {pos : String} {af : Array Edge} {gd : Option (Nat × Bool)}
theorem liesAt_head {P : Program} {e : TypeId} (count : Nat) (hc : P.cellsOf e ≠ 0) (hn : 1 ≤ count) : liesAt P P.depth e count 0 e 1 = true := by
  have hd : P.depth = (2 * (P.types.size + Made.depth) + 1) + 1 := rfl
  rw [hd]
  simp only [liesAt, Bool.or_eq_true]
  left
  rw [hd]
  simp [rowAt, hn, hc, sameLayout]
theorem HpRel.shapeAt {ρ : Nat → Option Geo} {Z : Nat → Option Obj} {F : Ctx} {S : Hp} {w : World} (h : HpRel ρ Z F S w) {i : Nat} {b : Blk} {g : Geo} (hb : S.get i = some b) (hg : ρ i = some g) (h0 : 0 < g.cap) : ∃ n, b.cells.length ≤ n ∧ ∀ w' : World, w'.heap[g.blk]? = w.heap[g.blk]? → w'.shape? g.blk = some (b.ety, n) := by
  obtain ⟨cur, h1, h2, h3, h4⟩ := h.liveAt hb hg h0
  exact ⟨cur.size, by simpa using h4.length, fun w' hw => by simp [World.shape?, hw, h1]⟩
/-- A pointer to a block of the call's own, as an unsafe one. -/
theorem y_toUns {src dst t : TypeId} {x : Operand} {id size bytes ez : Nat} {cs : List AV} {zero : Value} [hs : Und P src (.pointer t)] [hd : Und P dst .unsafePointer] [hi : Inf P t size bytes zero] (hx : σ.ev x = .ptr id 0) (hb : σ.hp.get id = some ⟨cs, ez, t⟩) (h0 : Nat.blt 0 size = true) (hl : Nat.ble size cs.length = true) :
    Yld P N ⟨d, .convert src dst x, ty, pos, af, gd⟩ σ (.ptr id 0) := fun ρ Z F a w hr => by
  have := hr.ev x
  rw [hx] at this
  obtain ⟨g, hg, g0, e⟩ := this
  obtain ⟨n, hn, hsh⟩ := hr.hp.shapeAt hb hg g0
  obtain ⟨I, hI, hIs, _, _⟩ := hi.get
  have h0' : 0 < size := by rwa [Nat.blt_eq] at h0
  have hl' : size ≤ cs.length := Nat.le_of_ble_eq_true hl
  obtain ⟨cur, k1, _⟩ := hr.hp.liveAt hb hg g0
  have key : ∀ w', w'.heap[g.blk]? = w.heap[g.blk]? → (execOp a.eval ⟨d, .convert src dst x, ty, pos, af, gd⟩).run P w' = .ok (.value (.pointer (some ⟨g.blk, 0, none⟩))) w' := fun w' hw => by
    have hn' : cs.length ≤ n := hn
    have := Lib.run_to_unsafe (P := P) w' (src := src) (dst := dst) (t := t) (e := t) (j := I) (cells := n) ⟨g.blk, 0, none⟩ hs.out hd.out hI (by omega) (hsh w' hw) (show 0 < n by omega)
    simp only [execOp, e, Sem.run_bind, this, Result.andThen_ok, Sem.run_pure]
  exact ⟨_, ⟨g, hg, g0, rfl⟩, key w rfl, fun w' hw => key w' (hw.block _ (Array.getElem?_eq_some_iff.1 k1).1)⟩
theorem y_ofUns {src dst t : TypeId} {x : Operand} {id size bytes ez : Nat} {cs : List AV} {zero : Value} [hs : Und P src .unsafePointer] [hd : Und P dst (.pointer t)] [hi : Inf P t size bytes zero] (hx : σ.ev x = .ptr id 0) (hb : σ.hp.get id = some ⟨cs, ez, t⟩) (h0 : Nat.blt 0 size = true) (hl : Nat.ble size cs.length = true) (hc : P.cellsOf t = size) :
    Yld P N ⟨d, .convert src dst x, ty, pos, af, gd⟩ σ (.ptr id 0) := fun ρ Z F a w hr => by
  have := hr.ev x
  rw [hx] at this
  obtain ⟨g, hg, g0, e⟩ := this
  obtain ⟨n, hn, hsh⟩ := hr.hp.shapeAt hb hg g0
  obtain ⟨I, hI, hIs, _, _⟩ := hi.get
  have h0' : 0 < size := by rwa [Nat.blt_eq] at h0
  have hl' : size ≤ cs.length := Nat.le_of_ble_eq_true hl
  obtain ⟨cur, k1, _⟩ := hr.hp.liveAt hb hg g0
  have hn' : cs.length ≤ n := hn
  have key : ∀ w', w'.heap[g.blk]? = w.heap[g.blk]? → (execOp a.eval ⟨d, .convert src dst x, ty, pos, af, gd⟩).run P w' = .ok (.value (.pointer (some ⟨g.blk, 0, none⟩))) w' := fun w' hw => by
    have := Lib.run_from_unsafe (P := P) w' (src := src) (dst := dst) (u := t) (e := t) (j := I) (cells := n) ⟨g.blk, 0, none⟩ hs.out hd.out hI (hsh w' hw) (liesAt_head _ (by omega) (by rw [hc]; exact (Nat.one_le_div_iff h0').2 (by omega)))
    simp only [execOp, e, Sem.run_bind, this, Result.andThen_ok, Sem.run_pure]
  exact ⟨_, ⟨g, hg, g0, rfl⟩, key w rfl, fun w' hw => key w' (hw.block _ (Array.getElem?_eq_some_iff.1 k1).1)⟩
/-- internal/abi.NoEscape. -/
theorem y_noEsc {f : FuncId} {x : Operand} {ts : Array TypeId} {v : AV} [he : Extn P f Extern.AbiNoEscape.same] (hx : σ.ev x = v) : Yld P N ⟨d, .call ⟨.value (.func f), #[x], ts⟩, ty, pos, af, gd⟩ σ v :=
  yld_pure fun ρ Z F a w hr => ⟨a.eval x, by have := hr.ev x; rwa [hx] at this, fun w' => by
    have hrun : (execOp a.eval ⟨d, .call ⟨.value (.func f), #[x], ts⟩, ty, pos, af, gd⟩).run P w' = (callFunc f #[a.eval x]).run P w' := by
      simp [execOp, resolve, Deferred.ofValue, Act.eval, invoke]
    rw [hrun, he.out, Lib.run_noEscape]
    rfl⟩
/-- A pointer against itself. -/
theorem y_neSelf {x y : Operand} {t e t' : TypeId} {id off size bytes : Nat} {zero : Value} [ht : Und P t (.pointer e)] [hi : Inf P e size bytes zero] (hx : σ.ev x = .ptr id off) (hy : σ.ev y = .ptr id off) : Yld P N ⟨d, .binOp .neq t x y t', ty, pos, af, gd⟩ σ (.sc (.bool false)) :=
  yld_pure fun ρ Z F a w hr => ⟨_, rfl, fun w' => by
    have h1 := hr.ev x
    have h2 := hr.ev y
    rw [hx] at h1
    rw [hy] at h2
    obtain ⟨g, hg, _, hu⟩ := h1
    obtain ⟨g', hg', _, hu'⟩ := h2
    rw [hg] at hg'
    cases hg'
    obtain ⟨I, hI, _⟩ := hi.get
    simp [execOp, hu, hu', run_eqGuardPtr, Lib.run_neq_ptr_same w' ⟨g.blk, off, none⟩ ht.out hI]⟩
theorem y_sdata {x : Operand} {ts : Array TypeId} {id len : Nat} (hx : σ.ev x = .sl id 0 len) (h0 : 0 < len) : Yld P N ⟨d, .call ⟨.builtin .unsafeSliceData, #[x], ts⟩, ty, pos, af, gd⟩ σ (.ptr id 0) :=
  yld_pure fun ρ Z F a w hr => by
    have h1 := hr.ev x
    rw [hx] at h1
    obtain ⟨g, A, hg, hu, hle, hA⟩ := h1
    have hc : 0 < g.cap := by omega
    have hA' := hA hc
    rw [Nat.zero_mul] at hA'
    subst hA'
    refine ⟨_, ⟨g, hg, hc, rfl⟩, fun w' => ?_⟩
    have := Lib.run_unsafeSliceData_row (P := P) w' ts ty ⟨g.blk, 0, none⟩ len (g.cap - 0) (by omega)
    rw [Nat.sub_zero] at this
    simp [execOp, resolve, invoke, builtin, hu, this]
theorem y_sdata0 {x : Operand} {ts : Array TypeId} (hx : σ.ev x = .sc (.slice none 0 0)) : Yld P N ⟨d, .call ⟨.builtin .unsafeSliceData, #[x], ts⟩, ty, pos, af, gd⟩ σ (.sc (.pointer none)) :=
  yld_pure fun ρ Z F a w hr => ⟨_, rfl, fun w' => by
    simp [execOp, resolve, invoke, builtin, ev_sc hr hx, Lib.run_unsafeSliceData_nil]⟩
theorem y_ustr0 {x y : Operand} {pt it : TypeId} (hx : σ.ev x = .sc (.pointer none)) (hy : σ.ev y = .sc (.int .i64 0)) : Yld P N ⟨d, .call ⟨.builtin .unsafeString, #[x, y], #[pt, it]⟩, ty, pos, af, gd⟩ σ (.sc (.string .empty)) :=
  yld_pure fun ρ Z F a w hr => ⟨_, rfl, fun w' => by
    simp [execOp, resolve, invoke, builtin, ev_sc hr hx, ev_sc hr hy, Lib.run_unsafeString_none]⟩
theorem y_append0 {s x : Operand} {t u e : TypeId} {size bytes : Nat} {zero : Value} {X : AV} [ht : Und P t (.slice e)] [hi : Inf P e size bytes zero] (hs : σ.ev s = .sc (.slice none 0 0)) (hx : σ.ev x = X) (src : Src P σ u size X 0 []) :
    Yld P N ⟨d, .call ⟨.builtin .append, #[s, x], #[t, u]⟩, ty, pos, af, gd⟩ σ (.sc (.slice none 0 0)) := fun ρ Z F a w hr => by
  obtain ⟨I, hI, hIs, _, _⟩ := hi.get
  have hx' := hr.ev x
  rw [hx] at hx'
  have key : ∀ w', StRel N ρ Z F σ a w' → (execOp a.eval ⟨d, .call ⟨.builtin .append, #[s, x], #[t, u]⟩, ty, pos, af, gd⟩).run P w' = .ok (.value (.slice none 0 0)) w' := fun w' hr' => by
    obtain ⟨vs, hf, hvl, hvn, hvr, hv1⟩ := src.out ρ Z F w' _ N a hr' hx'
    have hv0 : vs = [] := List.eq_nil_of_length_eq_zero (by simpa using hvl)
    subst hv0
    subst hIs
    simp [execOp, resolve, invoke, builtin, ev_sc hr hs, run_append_zero' (w := w') (A := none) ht.out src.und hI hf]
  exact ⟨_, rfl, key w hr, fun w' hw => key w' (hr.below hw)⟩
end
section
variable {P : Program} {N : Sg} {d : Option Tmp} {ty : TypeId} {pos : String} {af : Array Edge} {gd : Option (Nat × Bool)} {K : St → Prop}
  {env : List (Nat × AV)} {dfs : List (FuncId × List AV)} {n : Nat} {bs : List (Nat × Option Blk)} {tt : Tmp}
theorem HpRel.off {ρ Z F S w w'} (h : HpRel ρ Z F S w) {i : Nat} {b : Blk} {g : Geo} (hi : S.get i = some b) (hg : ρ i = some g) (h0 : g.sol) (ho : ∀ k, k ≠ g.blk → w'.heap[k]? = w.heap[k]?) : HpRel ρ Z F (S.kill i) w' := by
  have hk := h.kill i
  have was : ∀ j c, (S.kill i).get j = some c → j ≠ i ∧ S.get j = some c := fun j c hc => by
    rw [Hp.get_kill] at hc
    split at hc
    · cases hc
    · rename_i hne; exact ⟨fun e => hne e.symm, hc⟩
  refine ⟨fun j c hc => ?_, hk.inj, hk.offZ, hk.offF, fun b o hz => ?_, fun b o hz => ?_, hk.fresh, hk.disj, hk.anch, hk.pin⟩
  · obtain ⟨gj, e1, e2⟩ := hk.live j c hc
    obtain ⟨hne, hcj⟩ := was j c hc
    refine ⟨gj, e1, e2.imp (fun o hs ho' => ?_) (.refl _) (.refl _)⟩
    rw [ho gj.blk fun e => hne (h.inj j i c b gj g hcj hi e1 hg hs h0 e)]
    exact ho'
  · rw [ho b fun e => by have := h.offZ i _ g hi hg h0; rw [← e, hz] at this; cases this]
    exact h.fixZ b o hz
  · rw [ho b fun e => by have := h.offF i _ g hi hg h0; rw [← e, hz] at this; cases this]
    exact h.fixF b o hz
/-- A row of bytes becomes a string; nobody writes there any more. -/
theorem x_ustr {x y : Operand} {pt it e : TypeId} {id ez bytes : Nat} {zero : Value} {l : List Int} {m : Int} [hp : Und P pt (.pointer e)] [hi : Inf P e 1 bytes zero] (hc : P.cellsOf e = 1) (hx : St.ev ⟨env, dfs, ⟨n, bs⟩⟩ x = .ptr id 0) (hy : St.ev ⟨env, dfs, ⟨n, bs⟩⟩ y = .sc (.int .i64 m)) (hb : find id bs = some ⟨byts l, ez, e⟩) (hm : m = l.length) (h0 : l ≠ []) (hl : l.length ≤ 9223372036854775807)
    (hr8 : ∀ z ∈ l, 0 ≤ z ∧ z ≤ 255) (hd : Nat.blt tt N.n = true) (hk : K ⟨(tt, .sc (.string (strOf l))) :: env, dfs, ⟨n, (id, none) :: bs⟩⟩) :
    AExec P N ⟨some tt, .call ⟨.builtin .unsafeString, #[x, y], #[pt, it]⟩, ty, pos, af, gd⟩ K ⟨env, dfs, ⟨n, bs⟩⟩ := fun ρ Z F a w hr next Qc hn => by
  have hx' := hr.ev x
  rw [hx] at hx'
  obtain ⟨g, hg, g0, e1⟩ := hx'
  obtain ⟨cur, k1, k2, k3, k4⟩ := hr.hp.liveAt (S := ⟨n, bs⟩) (b := ⟨byts l, ez, e⟩) hb hg g0
  have hlen : l.length ≤ cur.size := by simpa [byts] using k4.length
  let l8 : List UInt8 := l.map fun z => z.toNat.toUInt8
  have hl8 : l8.length = l.length := by simp [l8]
  have hcell : ∀ j (x : UInt8), l8[j]? = some x → w.cell? ((⟨g.blk, 0, none⟩ : Addr).add j) = some (.int .u8 x.toNat) := fun j z hz => by
    have hj : l[j]?.map (fun z : Int => z.toNat.toUInt8) = some z := by simpa [l8] using hz
    cases hlj : l[j]? with
    | none => rw [hlj] at hj; cases hj
    | some q =>
      rw [hlj] at hj
      simp at hj
      have hq := hr8 q (List.mem_of_getElem? hlj)
      obtain ⟨u, hu, hrel⟩ := k4.get (i := j) (a := .sc (.int .u8 q)) (by simp [byts, hlj])
      have hu' : cur[j]? = some u := by simpa using hu
      have : u = .int .u8 q := hrel
      subst this
      have hzq : (z.toNat : Int) = q := by
        rw [← hj]
        simp [Nat.toUInt8]
        omega
      rw [add_off, hzq]
      simp [World.cell?, k1, hu']
  have hrun := Lib.run_unsafeString_row (P := P) w pt it ty e hp.out hc g.blk cur.size (by simp [World.shape?, k1]) l8 (by intro h; exact h0 (by rw [← List.length_eq_zero_iff, ← hl8, h]; rfl)) (by omega) (by omega) hcell
  rw [hl8] at hrun
  unfold Oper.wp execOp
  simp only [resolve, invoke, builtin, Sem.run_bind, Sem.run_pure, Result.andThen_ok, List.map_toArray, List.map_cons, List.map_nil, e1, ev_sc hr hy, hm, hrun]
  have hstr : (⟨l8.toArray⟩ : ByteArray) = strOf l := rfl
  rw [hstr]
  refine hn _ _ ρ Z ⟨(tt, .sc (.string (strOf l))) :: env, dfs, ⟨n, (id, none) :: bs⟩⟩ ⟨.refl _, ?_, ?_, ?_, ?_⟩ ?_ hk
  · unfold World.freeze; split <;> rfl
  · unfold World.freeze; split <;> rfl
  · unfold World.freeze; split <;> rfl
  · unfold World.freeze; split <;> simp
  · refine StRel.put (σ := ⟨env, dfs, ⟨n, (id, none) :: bs⟩⟩) (d := some tt) (v := .sc (.string (strOf l))) ⟨hr.size, hr.env, hr.dfs, ?_, hr.kk⟩ (by rintro _ ⟨⟩; rwa [Nat.blt_eq] at hd) rfl
    refine hr.hp.off (S := ⟨n, bs⟩) hb hg (.inl g0) fun k hk => ?_
    unfold World.freeze
    split
    · rfl
    · simp [Array.getElem?_modify, Ne.symm hk]
end
/-- A loop that is walked on, from its second round. -/
theorem iw_inv {P : Program} {N : Sg} {Q : Exit → St → Prop} {σ : St} {c : Code} {α : Type} (inv : α → Prop) (m : α → Nat) (e : α → List (Nat × AV)) (k : Nat) (h : α → List (Nat × Option Blk)) (a : α) (l : List Nat) (hn : l.Nodup) (hl : Keeps N.k l = true) (hd : σ.dfs = []) (hlen : l.length = k) (hi : inv a) (he : SubEnv (e a) (σ.sub l)) (hh : HpIs σ.hp (idx l) l 0 (h a))
    (step : ∀ a, inv a → (∀ b, inv b → m b < m a → IW P N [.inLoop c] Q ⟨e b, [], ⟨k, h b⟩⟩) → AWP P N c (thenQ (IW P N [.inLoop c] Q) Q) ⟨e a, [], ⟨k, h a⟩⟩) : IW P N [.inLoop c] Q σ := by
  have key : ∀ n a, m a ≤ n → inv a → AWP P N c (thenQ (IW P N [.inLoop c] Q) Q) ⟨e a, [], ⟨k, h a⟩⟩ := fun n => by
    induction n with
    | zero => exact fun a h1 h2 => step a h2 fun b _ h4 => by omega
    | succ n ih => exact fun a h1 h2 => step a h2 fun b h3 h4 => iw_inLoop (ih b (by omega) h3)
  exact iw_at l (iw_inLoop (key _ a (Nat.le_refl _) hi)) hn hl hd hlen he hh
end Go.Proofs.YtdcnpkbflelpfaaDoor.Sx
