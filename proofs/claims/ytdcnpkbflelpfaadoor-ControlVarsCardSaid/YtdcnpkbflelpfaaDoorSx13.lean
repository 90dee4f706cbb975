/- Calls that only read blocks of the caller's own, in whatever order they come: for the call, all memory stays as it is. -/
import Derived.Test.YtdcnpkbflelpfaaDoorSx12
namespace Go.Proofs.YtdcnpkbflelpfaaDoor.Sx
open Go Go.RowKit

/-- A value that names no block of the call's own. -/
def AV.flat : AV → Bool
  | .sc _ | .vptr _ _ | .vsl _ _ _ _ | .junk | .opq => true
  | _ => false
theorem flat_rel {ρ ρ' : Nat → Option Geo} {Z Z' : Nat → Option Obj} (hZ : Le Z Z') : ∀ {a : AV} {u : Value}, a.flat = true → Rel ρ Z a u → Rel ρ' Z' a u
  | .sc _, _, _, h => h
  | .vptr _ _, _, _, h => (Rel.mono (ρ := fun _ => none) (Le.refl _) hZ (.vptr _ _) _ h)
  | .vsl _ _ _ _, _, _, h => (Rel.mono (ρ := fun _ => none) (Le.refl _) hZ (.vsl _ _ _ _) _ h)
  | .junk, _, _, _ => trivial
  | .opq, _, _, h => h
theorem flat_relP {ρ ρ' : Nat → Option Geo} {Z Z' : Nat → Option Obj} (hZ : Le Z Z') : ∀ {as : List AV} {us : List Value}, as.all AV.flat = true → RelP ρ Z as us → RelP ρ' Z' as us
  | [], _, _, _ => trivial
  | a :: as, u :: us, hf, ⟨h1, h2⟩ => by
    simp only [List.all_cons, Bool.and_eq_true] at hf
    exact ⟨flat_rel hZ hf.1 h1, flat_relP hZ hf.2 h2⟩
  | _ :: _, [], _, h => h.elim
/-- What a value is for someone who only reads. -/
def Frz (S : Hp) : AV → AV → Prop
  | .ptr id off, a' => ∃ b, find id S.bs = some b ∧ b.cells.all AV.flat = true ∧ a' = .vptr b.cells off
  | .sl id o len, a' => ∃ b, find id S.bs = some b ∧ b.cells.all AV.flat = true ∧ o * b.esz + len * b.esz ≤ b.cells.length ∧ a' = .vsl b.cells b.esz o len
  | .agg cs, a' => cs.all AV.flat = true ∧ a' = .agg cs
  | .sc v, a' => a' = .sc v
  | .vptr cs off, a' => a' = .vptr cs off
  | .vsl cs e o l, a' => a' = .vsl cs e o l
  | _, _ => False
def FrzL (S : Hp) : List AV → List AV → Prop
  | [], [] => True
  | a :: as, b :: bs => Frz S a b ∧ FrzL S as bs
  | _, _ => False
theorem frz_ptr {S : Hp} {id off ez et : Nat} {cs : List AV} (hb : find id S.bs = some ⟨cs, ez, et⟩) (hf : cs.all AV.flat = true) : Frz S (.ptr id off) (.vptr cs off) := ⟨_, hb, hf, rfl⟩
theorem frz_sl {S : Hp} {id o len ez et : Nat} {cs : List AV} (hb : find id S.bs = some ⟨cs, ez, et⟩) (hf : cs.all AV.flat = true) (hl : o * ez + len * ez ≤ cs.length) : Frz S (.sl id o len) (.vsl cs ez o len) := ⟨_, hb, hf, hl, rfl⟩
theorem frz_agg {S : Hp} {cs : List AV} (hf : cs.all AV.flat = true) : Frz S (.agg cs) (.agg cs) := ⟨hf, rfl⟩
theorem frz_sc {S : Hp} {v : Value} : Frz S (.sc v) (.sc v) := rfl
theorem frz_v {S : Hp} {cs : List AV} {o : Nat} : Frz S (.vptr cs o) (.vptr cs o) := rfl
theorem frz_vs {S : Hp} {cs : List AV} {e o l : Nat} : Frz S (.vsl cs e o l) (.vsl cs e o l) := rfl
theorem frzL_cons {S : Hp} {a b : AV} {as bs : List AV} (h : Frz S a b) (hs : FrzL S as bs) : FrzL S (a :: as) (b :: bs) := ⟨h, hs⟩
theorem frz_rel {ρ : Nat → Option Geo} {Z : Nat → Option Obj} {F : Ctx} {S : Hp} {w : World} (h : HpRel ρ Z F S w) {a a' : AV} {u : Value} (hf : Frz S a a') (hr : Rel ρ Z a u) : Rel (fun _ => none) (fun b => w.heap[b]?) a' u := by
  have hZ : Le Z (fun b => w.heap[b]?) := fun b o hb => h.fixZ b o hb
  cases a with
  | ptr id off =>
    obtain ⟨b, hb, hfl, rfl⟩ := hf
    obtain ⟨g, hg, g0, rfl⟩ := hr
    obtain ⟨cur, h1, h2, h3, h4⟩ := h.liveAt hb hg g0
    exact ⟨g.blk, 0, cur, b.ety, (0, 0), by simp, h1, by simpa using flat_relP hZ hfl h4⟩
  | sl id o len =>
    obtain ⟨b, hb, hfl, hle, rfl⟩ := hf
    obtain ⟨g, A, hg, rfl, hol, hA⟩ := hr
    refine ⟨A, g.cap - o, rfl, by omega, hle, fun hl => ?_⟩
    obtain ⟨cur, h1, h2, h3, h4⟩ := h.liveAt hb hg (by omega)
    refine ⟨g.blk, 0, cur, b.ety, (0, 0), ?_, h1, by simpa using flat_relP hZ hfl h4⟩
    rw [hA (by omega), h3]; simp
  | agg cs =>
    obtain ⟨hfl, rfl⟩ := hf
    obtain ⟨vs, e, hs, hp⟩ := hr
    exact ⟨vs, e, hs, flat_relP hZ hfl hp⟩
  | sc v => have e : a' = .sc v := hf; subst e; exact hr
  | vptr cs off => have e : a' = .vptr cs off := hf; subst e; exact flat_rel hZ rfl hr
  | vsl cs e o l => have e' : a' = .vsl cs e o l := hf; subst e'; exact flat_rel hZ rfl hr
  | _ => exact hf.elim
theorem frzL_rel {ρ : Nat → Option Geo} {Z : Nat → Option Obj} {F : Ctx} {S : Hp} {w : World} (h : HpRel ρ Z F S w) : ∀ {as as' : List AV} {us : List Value}, FrzL S as as' → RelP ρ Z as us → RelP (fun _ => none) (fun b => w.heap[b]?) as' us
  | [], [], _, _, _ => trivial
  | _ :: _, _ :: _, _ :: _, ⟨f1, f2⟩, ⟨h1, h2⟩ => ⟨frz_rel h f1 h1, frzL_rel h f2 h2⟩
  | _ :: _, _ :: _, [], _, h => h.elim
  | [], _ :: _, _, h, _ => h.elim
  | _ :: _, [], _, h, _ => h.elim
theorem frzL_length {S : Hp} : ∀ {as as' : List AV}, FrzL S as as' → as'.length = as.length
  | [], [], _ => rfl
  | _ :: _, _ :: _, ⟨_, h⟩ => by simp [frzL_length h]
  | [], _ :: _, h => h.elim
  | _ :: _, [], h => h.elim

section
variable {P : Program} {N : Sg} {Q : Exit → St → Prop} {σ : St} {d : Option Tmp} {ty : TypeId} {pos : String} {af : Array Edge} {gd : Option (Nat × Bool)} {K : St → Prop}
theorem frozen_call {f : FuncId} {xs : List Operand} {vals : List AV} {R : AV → Hp → Prop} (spec : ACalls P f vals ⟨0, []⟩ R) (hf : FrzL σ.hp (xs.map σ.ev) vals) {ρ Z F a w} (hr : StRel N ρ Z F σ a w) :
    Calls P f (xs.map a.eval).toArray w (fun e w' => ∃ u ρ' Z' r S', e = .returned u ∧ Below w.heap.size w w' ∧ Ext (fun b => w.heap[b]?) w Z' w' ∧ HpRel ρ' Z' ⟨fun _ => none, fun _ => none⟩ S' w' ∧ Rel ρ' Z' r u ∧ R r S') := by
  have hrel := frzL_rel hr.hp hf (map_ev hr xs)
  have hlen := frzL_length hf
  refine (spec (fun _ => none) (fun b => w.heap[b]?) ⟨fun _ => none, fun _ => none⟩ w _ (bare_hp w (fun b cs e => let ⟨t, st, h1⟩ := hr.hp.pin b cs e; ⟨t, st, hr.hp.fixZ _ _ h1⟩)) (fun _ _ => rfl) (by simp at hlen ⊢; omega) (by simpa using hrel)).mono ?_
  rintro e w' ⟨u, ρ', Z', r, S', rfl, hx, hh, hrl, hq⟩
  refine ⟨u, ρ', Z', r, S', rfl, ⟨hx.os, hx.tape, hx.output, hx.size, fun k hk => ?_⟩, hx, hh, hrl, hq⟩
  have ho : w.heap[k]? = some w.heap[k] := by simp [hk]
  rw [ho]; exact hh.fixZ k _ (hx.Z_le k _ ho)
/-- A call that only reads, and hands back a plain value. -/
theorem q_callf {f : FuncId} {xs : List Operand} {ts : Array TypeId} {v : Value} {vals : List AV} [hc : Callable P f] (spec : ACalls P f vals ⟨0, []⟩ (fun r _ => r = .sc v)) (hf : FrzL σ.hp (xs.map σ.ev) vals) :
    QY P N ⟨d, .call ⟨.value (.func f), xs.toArray, ts⟩, ty, pos, af, gd⟩ σ (.sc v) := fun ρ Z F a w hr => by
  refine ⟨v, rfl, fun w' hb => ?_⟩
  have hrun : (execOp a.eval ⟨d, .call ⟨.value (.func f), xs.toArray, ts⟩, ty, pos, af, gd⟩).run P w' = .ok (.enter f (xs.map a.eval).toArray) w' := by
    simp [execOp, resolve, Deferred.ofValue, Act.eval, invoke, hc.out]
  unfold Oper.quietAt
  rw [hrun]
  refine ⟨rfl, ?_⟩
  have hr' := hr.below hb
  refine (frozen_call spec hf hr').mono ?_
  rintro e w'' ⟨u, ρ', Z', r, S', rfl, hbel, hx, hh, hrel, rfl⟩
  have hu : u = v := hrel
  subst hu
  exact ⟨rfl, hb.trans (hbel.mono hb.size)⟩
end
end Go.Proofs.YtdcnpkbflelpfaaDoor.Sx
