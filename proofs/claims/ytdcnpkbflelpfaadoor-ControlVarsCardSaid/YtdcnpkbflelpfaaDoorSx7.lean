/- A caller meets a contract: with blocks of its own handed over; or with none, in whatever order. -/
import Derived.Test.YtdcnpkbflelpfaaDoorSx6
namespace Go.Proofs.YtdcnpkbflelpfaaDoor.Sx
open Go Go.RowKit

section
variable {P : Program} {N : Sg} {σ : St} {d : Option Tmp} {ty : TypeId} {pos : String} {af : Array Edge} {gd : Option (Nat × Bool)} {K : St → Prop}

/-- What a call finds frozen: all that lies there but what it is handed, and what may be looked at. -/
noncomputable def frameOf (ρ : Nat → Option Geo) (Z : Nat → Option Obj) (S : Hp) (m : List Nat) (w : World) : Nat → Option Obj := fun b =>
  open Classical in if (∃ o, Z b = some o) ∨ (∃ i c g, i ∈ m ∧ S.get i = some c ∧ ρ i = some g ∧ g.sol ∧ g.blk = b) then none else w.heap[b]?
theorem frame_some {ρ Z S m w b o} (h : frameOf ρ Z S m w b = some o) : w.heap[b]? = some o := by
  unfold frameOf at h
  split at h
  · cases h
  · exact h
theorem frame_of {ρ Z S m w b o} (h : w.heap[b]? = some o) (hz : Z b = none) (hm : ∀ i c g, i ∈ m → S.get i = some c → ρ i = some g → g.sol → g.blk ≠ b) : frameOf ρ Z S m w b = some o := by
  unfold frameOf
  rw [if_neg]
  · exact h
  · rintro (⟨x, hx⟩ | ⟨i, c, g, h1, h2, h3, h4, h5⟩)
    · rw [hz] at hx; cases hx
    · exact hm i c g h1 h2 h3 h4 h5
theorem frame_Z {ρ Z S m w b o} (h : Z b = some o) : frameOf ρ Z S m w b = none := by
  unfold frameOf
  rw [if_pos (.inl ⟨o, h⟩)]

/-- The callee's heap: what it is handed. -/
theorem callee_hp {ρ Z F S w} (h : HpRel ρ Z F S w) {m : List Nat} (hn : m.Nodup) : HpRel (subρ ρ m) Z ⟨frameOf ρ Z S m w, subρ ρ m⟩ (S.sub m) w :=
  h.subWith hn _ (fun _ _ h => frame_some h) (fun _ _ h => frame_Z h) (fun i b g hi hb hg p0 => by
    show frameOf ρ Z S m w g.blk = none
    unfold frameOf
    rw [if_pos (.inr ⟨i, b, g, hi, hb, hg, p0, rfl⟩)]) (.refl _)
theorem subρ_out {ρ : Nat → Option Geo} {m : List Nat} {i : Nat} (h : m.length ≤ i) : subρ ρ m i = none := by
  unfold subρ
  rw [List.getElem?_eq_none h]

/-- The caller's numbers behind the call. -/
def backρ (ρ ρ' : Nat → Option Geo) (nxt k : Nat) : Nat → Option Geo := fun i => if i < nxt then ρ i else ρ' (i - nxt + k)
theorem backρ_le {ρ Z F S w} (h : HpRel ρ Z F S w) (ρ' : Nat → Option Geo) (k : Nat) : Le ρ (backρ ρ ρ' S.nxt k) := fun i x e => by
  unfold backρ
  rw [if_pos]
  · exact e
  · rcases Nat.lt_or_ge i S.nxt with h' | h'
    · exact h'
    · rw [h.fresh i h'] at e; cases e
theorem caller_back {ρ Z F S w} (h : HpRel ρ Z F S w) {m : List Nat} (hn : m.Nodup) (hm : allLive S m = true) {ρ' : Nat → Option Geo} {Z' : Nat → Option Obj} {S' : Hp} {w' : World} (hZ : Le Z Z')
    (h' : HpRel ρ' Z' ⟨frameOf ρ Z S m w, subρ ρ m⟩ S' w') :
    HpRel (backρ ρ ρ' S.nxt m.length) Z' F (S.back m S') w' ∧ (∀ j i g, rOut m S.nxt j = some i → ρ' j = some g → backρ ρ ρ' S.nxt m.length i = some g) := by
  have live : ∀ i, i ∈ m → ∃ b, S.get i = some b := fun i hi => by
    have := List.all_eq_true.1 hm i hi
    cases hb : S.get i with
    | none => simp [hb] at this
    | some b => exact ⟨b, rfl⟩
  have hlt : ∀ i ∈ m, i < S.nxt := fun i hi => let ⟨b, hb⟩ := live i hi; h.lt_nxt hb
  have hle := backρ_le h ρ' m.length
  have hren : ∀ j i g, rOut m S.nxt j = some i → ρ' j = some g → backρ ρ ρ' S.nxt m.length i = some g := fun j i g hj hg => by
    rcases Nat.lt_or_ge j m.length with a | a
    · rw [rOut_lt a] at hj
      obtain ⟨b, hb⟩ := live i (List.mem_of_getElem? hj)
      obtain ⟨g0, hg0, _⟩ := h.live i b hb
      have h1 : subρ ρ m j = some g0 := by unfold subρ; rw [hj]; exact hg0
      have h2 := h'.anch j g0 h1
      rw [hg] at h2; cases h2
      exact hle i g hg0
    · rw [rOut_ge a] at hj
      simp only [Option.some.injEq] at hj
      subst hj
      unfold backρ
      rw [if_neg (by omega), show S.nxt + (j - m.length) - S.nxt + m.length = j by omega]
      exact hg
  have old : ∀ i, i ∉ m → ∀ b g, S.get i = some b → ρ i = some g → g.sol → ∃ o, w.heap[g.blk]? = some o ∧ frameOf ρ Z S m w g.blk = some o := fun i hi b g hb hg p0 => by
    obtain ⟨o, h1⟩ := h.objAt hb hg p0
    exact ⟨_, h1, frame_of h1 (h.offZ i b g hb hg p0) fun i' c g' hi' hc hg' p1 e => hi (by rw [← h.inj i' i c b g' g hc hb hg' hg p1 p0 e]; exact hi')⟩
  have hF : ∀ b o, F.F b = some o → frameOf ρ Z S m w b = some o := fun b o hb =>
    frame_of (h.fixF b o hb) (by
      cases hz : Z b with
      | none => rfl
      | some x => have := h.disj b x hz; rw [hb] at this; cases this) fun i c g _ hc hg p0 e => by
        have := h.offF i c g hc hg p0
        rw [e, hb] at this; cases this
  have ρlt : ∀ i g, i < S.nxt → backρ ρ ρ' S.nxt m.length i = some g → ρ i = some g := fun i g hi hg => by unfold backρ at hg; rwa [if_pos hi] at hg
  -- where a block of the new heap comes from
  have src : ∀ i b, (S.back m S').get i = some b → (∃ j b', rOut m S.nxt j = some i ∧ S'.get j = some b' ∧ b = b'.ren (rOut m S.nxt)) ∨ (i ∉ m ∧ S.get i = some b) := fun i b hb => Hp.get_back hn hlt hb
  have rho : ∀ i j b' g, rOut m S.nxt j = some i → S'.get j = some b' → backρ ρ ρ' S.nxt m.length i = some g → ρ' j = some g := fun i j b' g hj hb hg => by
    obtain ⟨g', hg', _⟩ := h'.live j b' hb
    have := hren j i g' hj hg'
    rw [hg] at this; cases this
    exact hg'
  refine ⟨⟨fun i b hb => ?_, fun i k bi bk gi gk hi hk hgi hgk p0 p1 e => ?_, fun i b g hb hg p0 => ?_, fun i b g hb hg p0 => ?_, h'.fixZ, fun b o hb => h'.fixF b o (hF b o hb), fun i hi => ?_, fun b o hz => ?_, fun i x e => hle i x (h.anch i x e), h'.pin⟩, hren⟩
  · rcases src i b hb with ⟨j, b', hj, hb', rfl⟩ | ⟨hi, hb'⟩
    · obtain ⟨g, hg, hr⟩ := h'.live j b' hb'
      exact ⟨g, hren j i g hj hg, hr.ren hren⟩
    · obtain ⟨g, hg, h1⟩ := h.live i b hb'
      exact ⟨g, hle i g hg, h1.imp (fun cur p0 h1 => by
        obtain ⟨o, ho, hf⟩ := old i hi b g hb' hg p0
        rw [h1] at ho; cases ho
        exact h'.fixF _ _ hf) hle hZ⟩
  · rcases src i bi hi with ⟨j, b1, hj, hb1, _⟩ | ⟨hni, hb1⟩ <;> rcases src k bk hk with ⟨j', b2, hj', hb2, _⟩ | ⟨hnk, hb2⟩
    · have := h'.inj j j' b1 b2 gi gk hb1 hb2 (rho i j b1 gi hj hb1 hgi) (rho k j' b2 gk hj' hb2 hgk) p0 p1 e
      subst this
      rw [hj] at hj'
      exact Option.some.inj hj'
    · have h1 := h'.offF j b1 gi hb1 (rho i j b1 gi hj hb1 hgi) p0
      obtain ⟨o, _, hf⟩ := old k hnk bk gk hb2 (ρlt k gk (h.lt_nxt hb2) hgk) p1
      rw [e] at h1
      have h1' : frameOf ρ Z S m w gk.blk = none := h1
      rw [hf] at h1'; cases h1'
    · have h1 := h'.offF j' b2 gk hb2 (rho k j' b2 gk hj' hb2 hgk) p1
      obtain ⟨o, _, hf⟩ := old i hni bi gi hb1 (ρlt i gi (h.lt_nxt hb1) hgi) p0
      rw [← e] at h1
      have h1' : frameOf ρ Z S m w gi.blk = none := h1
      rw [hf] at h1'; cases h1'
    · exact h.inj i k bi bk gi gk hb1 hb2 (ρlt i gi (h.lt_nxt hb1) hgi) (ρlt k gk (h.lt_nxt hb2) hgk) p0 p1 e
  · rcases src i b hb with ⟨j, b', hj, hb', _⟩ | ⟨hi, hb'⟩
    · exact h'.offZ j b' g hb' (rho i j b' g hj hb' hg) p0
    · obtain ⟨o, _, hf⟩ := old i hi b g hb' (ρlt i g (h.lt_nxt hb') hg) p0
      cases hz : Z' g.blk with
      | none => rfl
      | some x =>
        have h1 := h'.disj g.blk x hz
        have h1' : frameOf ρ Z S m w g.blk = none := h1
        rw [hf] at h1'; cases h1'
  · rcases src i b hb with ⟨j, b', hj, hb', _⟩ | ⟨hi, hb'⟩
    · cases hf : F.F g.blk with
      | none => rfl
      | some o =>
        have h1 := h'.offF j b' g hb' (rho i j b' g hj hb' hg) p0
        have h1' : frameOf ρ Z S m w g.blk = none := h1
        rw [hF _ _ hf] at h1'; cases h1'
    · exact h.offF i b g hb' (ρlt i g (h.lt_nxt hb') hg) p0
  · have hi' : S.nxt + (S'.nxt - m.length) ≤ i := hi
    unfold backρ
    rw [if_neg (by omega)]
    exact h'.fresh _ (by omega)
  · cases hf : F.F b with
    | none => rfl
    | some o' =>
      have h1 := h'.disj b o hz
      have h1' : frameOf ρ Z S m w b = none := h1
      rw [hF _ _ hf] at h1'; cases h1'

theorem map_ev {ρ Z F a w} (hr : StRel N ρ Z F σ a w) : ∀ xs : List Operand, RelP ρ Z (xs.map σ.ev) (xs.map a.eval)
  | [] => trivial
  | x :: xs => ⟨hr.ev x, map_ev hr xs⟩
/-- A call, with the blocks of the numbers in m handed over. -/
theorem x_call {f : FuncId} {xs : List Operand} {ts : Array TypeId} {Q : AV → Hp → Prop} [hc : Callable P f] (m : List Nat) (hn : m.Nodup) (hm : allLive σ.hp m = true) (hd : okDst N d = true)
    (spec : ACalls P f (renL (idx m) (xs.map σ.ev)) (σ.hp.sub m) Q)
    (hk : ∀ r S', Q r S' → K (St.put ⟨σ.env, σ.dfs, σ.hp.back m S'⟩ d (r.ren (rOut m σ.hp.nxt)))) : AExec P N ⟨d, .call ⟨.value (.func f), xs.toArray, ts⟩, ty, pos, af, gd⟩ K σ := fun ρ Z F a w hr next Qc hnx => by
  have hrun : (execOp a.eval ⟨d, .call ⟨.value (.func f), xs.toArray, ts⟩, ty, pos, af, gd⟩).run P w = .ok (.enter f (xs.map a.eval).toArray) w := by
    simp [execOp, resolve, Deferred.ofValue, Act.eval, invoke, hc.out]
  unfold Oper.wp
  rw [hrun]
  show Calls P f _ w _
  have hp := callee_hp hr.hp hn
  refine (spec (subρ ρ m) Z _ w _ hp (fun i hi => subρ_out hi) (by simp [renL_length]) ?_).mono ?_
  · simpa using (map_ev hr xs).ren (subρ_spec ρ m)
  · rintro e w' ⟨u, ρ', Z', r, S', rfl, hx, h', hrel, hq⟩
    obtain ⟨hb, hren⟩ := caller_back hr.hp hn hm hx.Z_le h'
    have hle := backρ_le hr.hp ρ' m.length
    refine hnx _ w' _ Z' _ hx (StRel.put (σ := ⟨σ.env, σ.dfs, σ.hp.back m S'⟩) ⟨hr.size, fun t => (hr.env t).mono hle hx.Z_le, hr.dfs.mono hle hx.Z_le, hb, hr.kk⟩ (okDst_spec hd) (hrel.ren hren)) (hk r S' hq)
/-- A call that is handed none of the caller's blocks, and hands back a plain value: it leaves memory alone, in whatever order it comes. -/
theorem q_call {f : FuncId} {xs : List Operand} {ts : Array TypeId} {v : Value} [hc : Callable P f] (spec : ACalls P f (renL (fun _ => none) (xs.map σ.ev)) ⟨0, []⟩ (fun r _ => r = .sc v)) :
    QY P N ⟨d, .call ⟨.value (.func f), xs.toArray, ts⟩, ty, pos, af, gd⟩ σ (.sc v) := fun ρ Z F a w hr => by
  refine ⟨v, rfl, fun w' hb => ?_⟩
  have hrun : (execOp a.eval ⟨d, .call ⟨.value (.func f), xs.toArray, ts⟩, ty, pos, af, gd⟩).run P w' = .ok (.enter f (xs.map a.eval).toArray) w' := by
    simp [execOp, resolve, Deferred.ofValue, Act.eval, invoke, hc.out]
  unfold Oper.quietAt
  rw [hrun]
  refine ⟨rfl, ?_⟩
  have hr' := hr.below hb
  have hp := callee_hp hr'.hp (m := []) List.nodup_nil
  refine (spec (subρ ρ []) Z _ w' _ hp (fun i hi => by exact subρ_out (ρ := ρ) (m := []) (Nat.zero_le i)) (by simp [renL_length]) ?_).mono ?_
  · simpa using (map_ev hr xs).ren (ρ' := subρ ρ []) (r := fun _ => none) (fun _ _ _ h => by cases h)
  · rintro e w'' ⟨u, ρ', Z', r, S', rfl, hx, h', hrel, rfl⟩
    have hu : u = v := hrel
    subst hu
    refine ⟨rfl, hx.os.trans hb.os, hx.tape.trans hb.tape, hx.output.trans hb.output, Nat.le_trans hb.size hx.size, fun k hk => ?_⟩
    refine Eq.trans ?_ (hb.block k hk)
    have hk' : k < w'.heap.size := Nat.lt_of_lt_of_le hk hb.size
    have ho : w'.heap[k]? = some w'.heap[k] := by simp [hk']
    rw [ho]
    cases hz : Z k with
    | some o =>
      have h1 := hr'.hp.fixZ k o hz
      rw [ho] at h1; cases h1
      exact h'.fixZ k _ (hx.Z_le k _ hz)
    | none => exact h'.fixF k _ (frame_of ho hz fun i _ _ hi => by cases hi)
end
end Go.Proofs.YtdcnpkbflelpfaaDoor.Sx
