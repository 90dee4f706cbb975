/- Appending to a slice of the call's own. -/
import Derived.Test.YtdcnpkbflelpfaaDoorSx17
import Derived.Maps.AppendAt
namespace Go.Proofs.YtdcnpkbflelpfaaDoor.Sx
open Go Go.RowKit
theorem HpRel.regrow {ρ Z F S w w'} (h : HpRel ρ Z F S w) {i : Nat} {b0 : Blk} {g0 : Geo} (hi : S.get i = some b0) (hg0 : ρ i = some g0) {b : Blk} {g : Geo} (hg : g.sol → (g.blk = g0.blk ∧ g0.sol) ∨ w.heap.size ≤ g.blk) (hb : BlkRel (upd ρ S.nxt g) Z g b w')
    (ho : ∀ k, k < w.heap.size → (g0.sol → k ≠ g0.blk) → w'.heap[k]? = w.heap[k]?) : HpRel (upd ρ S.nxt g) Z F ((S.kill i).new b) w' := by
  have hf : ρ S.nxt = none := h.fresh _ (Nat.le_refl _)
  have old : ∀ j c, ((S.kill i).new b).get j = some c → (S.nxt = j ∧ c = b) ∨ (S.nxt ≠ j ∧ i ≠ j ∧ S.get j = some c) := fun j c hc => by
    rw [Hp.get_new] at hc
    split at hc
    · rename_i e; exact .inl ⟨e, (Option.some.inj hc).symm⟩
    · rename_i e
      rw [Hp.get_kill] at hc
      split at hc
      · cases hc
      · rename_i e'; exact .inr ⟨e, e', hc⟩
  have up : ∀ j, S.nxt ≠ j → upd ρ S.nxt g j = ρ j := fun j hj => by unfold upd; rw [if_neg hj]
  have same : upd ρ S.nxt g S.nxt = some g := by unfold upd; rw [if_pos rfl]
  have lt : ∀ k (o : Obj), w.heap[k]? = some o → k < w.heap.size := fun k o h => (Array.getElem?_eq_some_iff.1 h).1
  have apart : ∀ j c gj, i ≠ j → S.get j = some c → ρ j = some gj → gj.sol → g0.sol → gj.blk ≠ g0.blk := fun j c gj hij hc hgj p0 p1 e => hij (h.inj i j b0 c g0 gj hi hc hg0 hgj p1 p0 e.symm)
  have blkne : ∀ j c gj, i ≠ j → S.get j = some c → ρ j = some gj → gj.sol → g.sol → gj.blk ≠ g.blk := fun j c gj hij hc hgj p0 p1 e => by
    rcases hg p1 with ⟨hg, p2⟩ | hg
    · exact apart j c gj hij hc hgj p0 p2 (e.trans hg)
    · obtain ⟨o, h1⟩ := h.objAt hc hgj p0
      have := lt _ _ h1
      omega
  have zne : ∀ bb o, Z bb = some o → g0.sol → bb ≠ g0.blk := fun bb o hz p0 e => by
    have := h.offZ i b0 g0 hi hg0 p0
    rw [← e, hz] at this; cases this
  have fne : ∀ bb o, F.F bb = some o → g0.sol → bb ≠ g0.blk := fun bb o hz p0 e => by
    have := h.offF i b0 g0 hi hg0 p0
    rw [← e, hz] at this; cases this
  refine ⟨fun j c hc => ?_, fun j k cj ck gj gk hj hk hgj hgk p0 p1 e => ?_, fun j c gj hj hgj p0 => ?_, fun j c gj hj hgj p0 => ?_, fun bb o hz => ?_, fun bb o hz => ?_, fun k hk => ?_, h.disj, fun k x e => upd_le hf k x (h.anch k x e), h.pin⟩
  · rcases old j c hc with ⟨rfl, rfl⟩ | ⟨hne, hij, hc'⟩
    · exact ⟨g, same, hb⟩
    · obtain ⟨gj, hgj, h1⟩ := h.live j c hc'
      exact ⟨gj, (up j hne).trans hgj, h1.imp (fun cur p0 h1 => (ho _ (lt _ _ h1) (apart j c gj hij hc' hgj p0)).trans h1) (upd_le hf) (.refl _)⟩
  · rcases old j cj hj with ⟨rfl, rfl⟩ | ⟨hne, hij, hc'⟩ <;> rcases old k ck hk with ⟨rfl, rfl⟩ | ⟨hne', hik, hc''⟩
    · rfl
    · rw [same] at hgj; cases hgj
      exact absurd e.symm (blkne k ck gk hik hc'' ((up k hne').symm.trans hgk) p1 p0)
    · rw [same] at hgk; cases hgk
      exact absurd e (blkne j cj gj hij hc' ((up j hne).symm.trans hgj) p0 p1)
    · exact h.inj j k cj ck gj gk hc' hc'' ((up j hne).symm.trans hgj) ((up k hne').symm.trans hgk) p0 p1 e
  · rcases old j c hj with ⟨rfl, rfl⟩ | ⟨hne, hij, hc'⟩
    · rw [same] at hgj; cases hgj
      rcases hg p0 with ⟨hg, p2⟩ | hg
      · rw [hg]; exact h.offZ i b0 g0 hi hg0 p2
      · cases hz : Z g.blk with
        | none => rfl
        | some o => have := lt _ _ (h.fixZ _ _ hz); omega
    · exact h.offZ j c gj hc' ((up j hne).symm.trans hgj) p0
  · rcases old j c hj with ⟨rfl, rfl⟩ | ⟨hne, hij, hc'⟩
    · rw [same] at hgj; cases hgj
      rcases hg p0 with ⟨hg, p2⟩ | hg
      · rw [hg]; exact h.offF i b0 g0 hi hg0 p2
      · cases hz : F.F g.blk with
        | none => rfl
        | some o => have := lt _ _ (h.fixF _ _ hz); omega
    · exact h.offF j c gj hc' ((up j hne).symm.trans hgj) p0
  · have h1 := h.fixZ bb o hz
    exact (ho bb (lt _ _ h1) (zne bb o hz)).trans h1
  · have h1 := h.fixF bb o hz
    exact (ho bb (lt _ _ h1) (fne bb o hz)).trans h1
  · have hk' : S.nxt + 1 ≤ k := hk
    rw [up k (by omega)]
    exact h.fresh k (by omega)
section
variable {P : Program} {N : Sg} {Q : Exit → St → Prop} {σ : St}
/-- A state has this shape, up to the numbers of its blocks. -/
def Like (N : Sg) (e : List (Nat × AV)) (h : Hp) (σ : St) : Prop := ∃ l : List Nat, l.Nodup ∧ Keeps N.k l = true ∧ σ.dfs = [] ∧ SubEnv e (σ.sub l) ∧ σ.hp.sub l = h
/-- A cut: what comes behind is walked once, for every state of one shape. -/
theorem awp_cut {x y : Code} {α : Type} (inv : α → Prop) (e : α → List (Nat × AV)) (h : α → Hp) (hx : ∀ K : St → Prop, (∀ a, inv a → ∀ σ', Like N (e a) (h a) σ' → K σ') → AWP P N x (thenQ K Q) σ)
    (hy : ∀ a, inv a → AWP P N y Q ⟨e a, [], h a⟩) : AWP P N (.seq x y) Q σ :=
  awp_seq (hx _ fun a ha _ ⟨l, hn, hl, hd, he, hh⟩ => iw_to l (hy a ha) hn hl hd he hh)
end
end Go.Proofs.YtdcnpkbflelpfaaDoor.Sx
