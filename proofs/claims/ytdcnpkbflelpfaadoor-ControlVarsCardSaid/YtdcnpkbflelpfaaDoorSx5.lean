/- Numbers of blocks given anew; calls, and what a call hands back. -/
import Derived.Test.YtdcnpkbflelpfaaDoorSx4
namespace Go.Proofs.YtdcnpkbflelpfaaDoor.Sx
open Go Go.RowKit

/-! ### New numbers -/
mutual
def AV.ren (r : Nat → Option Nat) : AV → AV
  | .ptr i off => match r i with | some j => .ptr j off | none => .junk
  | .sl i o len => match r i with | some j => .sl j o len | none => .junk
  | .agg cs => .agg (renL r cs)
  | .tup cs => .tup (renL r cs)
  | .fn f cap => .fn f (renL r cap)
  | .ifc t v => .ifc t (AV.ren r v)
  | .sc v => .sc v
  | .vptr cs off => .vptr cs off
  | .vsl cs e o len => .vsl cs e o len
  | .junk => .junk
  | .opq => .opq
  | .mp i => match r i with | some j => .mp j | none => .junk
  | .it i => match r i with | some j => .it j | none => .junk
def renL (r : Nat → Option Nat) : List AV → List AV
  | [] => []
  | a :: as => AV.ren r a :: renL r as
end
theorem renL_length (r : Nat → Option Nat) : ∀ l : List AV, (renL r l).length = l.length
  | [] => rfl
  | _ :: l => by simp [renL, renL_length r l]
theorem renL_map (r : Nat → Option Nat) : ∀ l : List AV, renL r l = l.map (AV.ren r)
  | [] => rfl
  | _ :: l => by simp [renL, renL_map r l]
mutual
theorem Rel.ren {ρ ρ' : Nat → Option Geo} {Z : Nat → Option Obj} {r : Nat → Option Nat} (h : ∀ i j g, r i = some j → ρ i = some g → ρ' j = some g) : ∀ (a : AV) (u : Value), Rel ρ Z a u → Rel ρ' Z (a.ren r) u
  | .sc _, _, e => e
  | .ptr i _, _, ⟨g, hg, e⟩ => by
    unfold AV.ren
    cases hr : r i with
    | none => trivial
    | some j => exact ⟨g, h i j g hr hg, e⟩
  | .sl i _ _, _, ⟨g, A, hg, e⟩ => by
    unfold AV.ren
    cases hr : r i with
    | none => trivial
    | some j => exact ⟨g, A, h i j g hr hg, e⟩
  | .vptr _ _, _, e => e
  | .vsl _ _ _ _, _, e => e
  | .agg cs, _, ⟨vs, h1, h2, h3⟩ => by unfold AV.ren; exact ⟨vs, h1, by rw [h2, renL_length], RelP.ren h cs _ h3⟩
  | .tup cs, _, ⟨vs, h1, h2, h3⟩ => by unfold AV.ren; exact ⟨vs, h1, by rw [h2, renL_length], RelP.ren h cs _ h3⟩
  | .fn _ cs, _, ⟨vs, h1, h2, h3⟩ => by unfold AV.ren; exact ⟨vs, h1, by rw [h2, renL_length], RelP.ren h cs _ h3⟩
  | .ifc _ v, _, ⟨x, h1, h2⟩ => by unfold AV.ren; exact ⟨x, h1, Rel.ren h v _ h2⟩
  | .junk, _, _ => trivial
  | .opq, _, h => h
  | .mp i, _, ⟨g, hg, e⟩ => by
    unfold AV.ren
    cases hr : r i with
    | none => trivial
    | some j => exact ⟨g, h i j g hr hg, e⟩
  | .it i, _, ⟨g, hg, e⟩ => by
    unfold AV.ren
    cases hr : r i with
    | none => trivial
    | some j => exact ⟨g, h i j g hr hg, e⟩
theorem RelP.ren {ρ ρ' : Nat → Option Geo} {Z : Nat → Option Obj} {r : Nat → Option Nat} (h : ∀ i j g, r i = some j → ρ i = some g → ρ' j = some g) : ∀ (as : List AV) (us : List Value), RelP ρ Z as us → RelP ρ' Z (renL r as) us
  | [], _, _ => trivial
  | a :: as, u :: us, ⟨h1, h2⟩ => ⟨Rel.ren h a u h1, RelP.ren h as us h2⟩
  | _ :: _, [], h => h.elim
end
theorem DfRel.ren {ρ ρ' : Nat → Option Geo} {Z : Nat → Option Obj} {r : Nat → Option Nat} (h : ∀ i j g, r i = some j → ρ i = some g → ρ' j = some g) : ∀ (l : List (FuncId × List AV)) (ds : List Deferred), DfRel ρ Z l ds → DfRel ρ' Z (l.map fun p => (p.1, renL r p.2)) ds
  | [], [], _ => trivial
  | (_, cs) :: l, _ :: ds, ⟨⟨cap, args, h1, h2, h3⟩, h4⟩ => ⟨⟨cap, args, h1, by rw [h2, renL_length], h3.ren h⟩, DfRel.ren h l ds h4⟩
  | [], _ :: _, h => h.elim
  | _ :: _, [], h => h.elim

/-- The place of a number in a list. -/
def idx (l : List Nat) (i : Nat) : Option Nat := go l 0
where go : List Nat → Nat → Option Nat
  | [], _ => none
  | x :: l, k => match Nat.beq x i with | true => some k | false => go l (k + 1)
theorem idx_go (i : Nat) : ∀ (l : List Nat) (k j : Nat), idx.go i l k = some j → k ≤ j ∧ l[j - k]? = some i
  | [], _, _, h => by cases h
  | x :: l, k, j, h => by
    unfold idx.go at h
    cases hb : Nat.beq x i with
    | true => rw [hb] at h; cases h; exact ⟨Nat.le_refl _, by simp [Nat.eq_of_beq_eq_true hb]⟩
    | false =>
      rw [hb] at h
      obtain ⟨h1, h2⟩ := idx_go i l (k + 1) j h
      refine ⟨by omega, ?_⟩
      rw [show j - k = (j - (k + 1)) + 1 by omega]
      simpa using h2
theorem idx_spec {l : List Nat} {i j : Nat} (h : idx l i = some j) : l[j]? = some i := by
  have := (idx_go i l 0 j h).2
  simpa using this
def Blk.ren (r : Nat → Option Nat) (b : Blk) : Blk := ⟨renL r b.cells, b.esz, b.ety⟩
def subL (S : Hp) (r : Nat → Option Nat) : List Nat → Nat → List (Nat × Option Blk)
  | [], _ => []
  | i :: l, k => (k, (S.get i).map (Blk.ren r)) :: subL S r l (k + 1)
/-- The blocks of a list of numbers, in its order. -/
def Hp.sub (S : Hp) (l : List Nat) : Hp := ⟨l.length, subL S (idx l) l 0⟩
theorem subL_find (S : Hp) (r : Nat → Option Nat) : ∀ (l : List Nat) (k j : Nat), find j (subL S r l k) = if k ≤ j then (match l[j - k]? with | some i => (S.get i).map (Blk.ren r) | none => none) else none
  | [], k, j => by simp [subL, find]
  | i :: l, k, j => by
    unfold subL
    rw [find_cons, subL_find S r l (k + 1) j]
    by_cases e : k = j
    · subst e; simp
    · rw [if_neg e]
      by_cases h : k + 1 ≤ j
      · rw [if_pos h, if_pos (by omega), show j - k = (j - (k + 1)) + 1 by omega]; simp
      · rw [if_neg h, if_neg (by omega)]
theorem Hp.get_sub (S : Hp) (l : List Nat) (j : Nat) : (S.sub l).get j = match l[j]? with | some i => (S.get i).map (Blk.ren (idx l)) | none => none := by
  have := subL_find S (idx l) l 0 j
  show find j (subL S (idx l) l 0) = _
  rw [this]
  simp

/-- Numbers given anew: ids of a list get their places in it. -/
theorem BlkRel.ren {ρ ρ' : Nat → Option Geo} {Z : Nat → Option Obj} {r : Nat → Option Nat} (h : ∀ i j g, r i = some j → ρ i = some g → ρ' j = some g) {g : Geo} {b : Blk} {w : World} (hb : BlkRel ρ Z g b w) : BlkRel ρ' Z g (b.ren r) w :=
  ⟨fun h0 => let ⟨cur, h1, h2, h3, h4⟩ := hb.1 h0; ⟨cur, h1, h2, h3, h4.ren h⟩, fun h0 => let ⟨h1, h2, h3⟩ := hb.2 h0; ⟨h1, fun hm => by show renL r b.cells = []; rw [h2 hm]; rfl, fun hm => let ⟨o, l, k1, ke, k2, k3⟩ := h3 hm; ⟨o, l, k1, ke, by rw [k2]; exact (renL_length r _).symm, k3.ren h⟩⟩⟩
def subρ (ρ : Nat → Option Geo) (l : List Nat) : Nat → Option Geo := fun j => match l[j]? with | some i => ρ i | none => none
theorem subρ_spec (ρ : Nat → Option Geo) (l : List Nat) : ∀ i j g, idx l i = some j → ρ i = some g → subρ ρ l j = some g := fun i j g h e => by
  unfold subρ; rw [idx_spec h]; exact e
theorem nodup_get {l : List Nat} (hn : l.Nodup) {i j x : Nat} (h1 : l[i]? = some x) (h2 : l[j]? = some x) : i = j := by
  obtain ⟨hi, ei⟩ := List.getElem?_eq_some_iff.1 h1
  obtain ⟨hj, ej⟩ := List.getElem?_eq_some_iff.1 h2
  have hp := List.pairwise_iff_getElem.1 hn
  rcases Nat.lt_trichotomy i j with h | h | h
  · exact absurd (ei.trans ej.symm) (hp i j hi hj h)
  · exact h
  · exact absurd (ej.trans ei.symm) (hp j i hj hi h)
/-- The sub-heap, whatever is left alone besides. -/
theorem HpRel.subWith {ρ Z F S w} (h : HpRel ρ Z F S w) {l : List Nat} (hn : l.Nodup) (F' : Ctx) (hF : ∀ b o, F'.F b = some o → w.heap[b]? = some o) (hd : ∀ b o, Z b = some o → F'.F b = none)
    (hl : ∀ i b g, i ∈ l → S.get i = some b → ρ i = some g → g.sol → F'.F g.blk = none) (ha : Le F'.β (subρ ρ l)) : HpRel (subρ ρ l) Z F' (S.sub l) w := by
  have get : ∀ j c, (S.sub l).get j = some c → ∃ i b, l[j]? = some i ∧ S.get i = some b ∧ c = b.ren (idx l) := fun j c hc => by
    rw [Hp.get_sub] at hc
    cases hj : l[j]? with
    | none => rw [hj] at hc; cases hc
    | some i =>
      rw [hj] at hc
      cases hb : S.get i with
      | none => simp [hb] at hc
      | some b => simp [hb] at hc; exact ⟨i, b, rfl, hb, hc.symm⟩
  have sub : ∀ {j i : Nat}, l[j]? = some i → subρ ρ l j = ρ i := fun hj => by unfold subρ; rw [hj]
  refine ⟨fun j c hc => ?_, fun j k cj ck gj gk hj hk hgj hgk p0 p1 e => ?_, fun j c g hj hg p0 => ?_, fun j c g hj hg p0 => ?_, h.fixZ, hF, fun i hi => ?_, hd, ha, h.pin⟩
  · obtain ⟨i, b, hj, hb, rfl⟩ := get j c hc
    obtain ⟨g, hg, hr⟩ := h.live i b hb
    exact ⟨g, (sub hj).trans hg, hr.ren (subρ_spec ρ l)⟩
  · obtain ⟨i, b, h1, hb, _⟩ := get j cj hj
    obtain ⟨i', b', h2, hb', _⟩ := get k ck hk
    rw [sub h1] at hgj
    rw [sub h2] at hgk
    have := h.inj i i' b b' gj gk hb hb' hgj hgk p0 p1 e
    subst this
    exact nodup_get hn h1 h2
  · obtain ⟨i, b, h1, hb, _⟩ := get j c hj
    rw [sub h1] at hg
    exact h.offZ i b g hb hg p0
  · obtain ⟨i, b, h1, hb, _⟩ := get j c hj
    rw [sub h1] at hg
    exact hl i b g (List.mem_of_getElem? h1) hb hg p0
  · have : l[i]? = none := List.getElem?_eq_none hi
    unfold subρ; rw [this]

def St.sub (σ : St) (l : List Nat) : St := ⟨σ.env.map fun p => (p.1, p.2.ren (idx l)), σ.dfs.map fun p => (p.1, renL (idx l) p.2), σ.hp.sub l⟩
theorem look_map (r : Nat → Option Nat) (t : Nat) : ∀ e : List (Nat × AV), look t (e.map fun p => (p.1, p.2.ren r)) = (look t e).ren r
  | [] => by simp [look, AV.ren]
  | (k, v) :: e => by
    rw [List.map_cons, look_cons, look_cons]
    split
    · rfl
    · exact look_map r t e
/-- The numbers that are anchored keep themselves. -/
def Keeps (k : Nat) (l : List Nat) : Bool := (List.range k).all fun i => l[i]? == some i
theorem StRel.sub {N ρ Z F σ a w} (h : StRel N ρ Z F σ a w) {l : List Nat} (hn : l.Nodup) (hl : Keeps N.k l = true) : StRel N (subρ ρ l) Z F (σ.sub l) a w := by
  refine ⟨h.size, fun t => ?_, h.dfs.ren (subρ_spec ρ l), h.hp.subWith hn F h.hp.fixF h.hp.disj (fun i b g _ => h.hp.offF i b g) fun i g hg => ?_, h.kk⟩
  · show Rel _ Z (look t _) _
    unfold St.sub
    rw [look_map]
    exact (h.env t).ren (subρ_spec ρ l)
  · have hi : i < N.k := by
      rcases Nat.lt_or_ge i N.k with h' | h'
      · exact h'
      · rw [h.kk i h'] at hg; cases hg
    have := List.all_eq_true.1 hl i (List.mem_range.2 hi)
    have : l[i]? = some i := by simpa using this
    unfold subρ
    rw [this]
    exact h.hp.anch i g hg
end Go.Proofs.YtdcnpkbflelpfaaDoor.Sx
