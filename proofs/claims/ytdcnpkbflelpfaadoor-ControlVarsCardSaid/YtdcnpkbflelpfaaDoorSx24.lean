/- Regions whose order is open, of which the rest is quiet; calls that only look at a part of what they are handed; stores at a place that is reckoned. -/
import Derived.Test.YtdcnpkbflelpfaaDoorSx23
namespace Go.Proofs.YtdcnpkbflelpfaaDoor.Sx
open Go Go.RowKit
section
variable {P : Program} {N : Sg} {σ : St} {d : Option Tmp} {ty : TypeId} {pos : String} {af : Array Edge} {gd : Option (Nat × Bool)} {K : St → Prop} {Q : Exit → St → Prop}
  {env : List (Nat × AV)} {dfs : List (FuncId × List AV)} {hp : Hp} {t : Tmp} {v : AV} {ops : Array Oper} {op : Op}
/-- What is left of a region is quiet: one walk, in the text's order. -/
theorem aany_quiet (k : Nat) {rest : List Oper} {fuel : Nat} {listed : Array Bool} (hl : ops.toList.drop k = rest) (hf : rest.length = fuel) (hB : (Region.noSelect ops && Region.lexFrom .any ops (ops.size - k) k listed) = true) (hk : k ≤ ops.size)
    (h : AQuiet P N ops rest (fun σ => Q .normal σ) σ) : AAny P N ops Q fuel listed σ := fun ρ Z F a w hr => by
  simp only [Bool.and_eq_true] at hB
  have hlen : rest.length = ops.size - k := by rw [← hl]; simp
  subst hf
  refine wpAny_of_quiet (C := Below w.heap.size w) (Q := fun a' => ∃ σ', StRel N ρ Z F σ' a' w ∧ Q .normal σ') ?_ _ _ _ _ (.refl _ _) (wpAnyQ_lex hB.1 rest k listed a (fun j => ?_) (by rw [hlen]; exact hB.2) (h ρ Z F a w hr))
  · rintro a' w' hb ⟨σ', hr', q⟩
    exact ⟨ρ, Z, σ', .of_below hb, hr'.below hb, q⟩
  · rw [← hl]; simp
/-- What a value is for someone who only reads, and only some of it. -/
def FrzS (S : Hp) (a a' : AV) : Prop := ∀ (ρ : Nat → Option Geo) (Z : Nat → Option Obj) (F : Ctx) (w : World) (u : Value), HpRel ρ Z F S w → Rel ρ Z a u → Rel (fun _ => none) (fun b => w.heap[b]?) a' u
def WkL : List AV → List AV → Prop
  | [], [] => True
  | c :: cs, c' :: cs' => ((c = c' ∧ c'.flat = true) ∨ c' = .junk) ∧ WkL cs cs'
  | _, _ => False
theorem wk_rel {ρ ρ' : Nat → Option Geo} {Z Z' : Nat → Option Obj} (hZ : Le Z Z') : ∀ {cs cs' : List AV} {us : List Value}, WkL cs cs' → RelP ρ Z cs us → RelP ρ' Z' cs' us
  | [], [], _, _, _ => trivial
  | c :: cs, c' :: cs', u :: us, ⟨h1, h2⟩, ⟨r1, r2⟩ => by
    refine ⟨?_, wk_rel hZ h2 r2⟩
    rcases h1 with ⟨rfl, hf⟩ | rfl
    · exact flat_rel hZ hf r1
    · trivial
  | _ :: _, _ :: _, [], _, h => h.elim
  | [], _ :: _, _, h, _ => h.elim
  | _ :: _, [], _, h, _ => h.elim
theorem frzS_of {S : Hp} {a a' : AV} (h : Frz S a a') : FrzS S a a' := fun _ _ _ _ _ hp hr => frz_rel hp h hr
theorem frzS_ptr {S : Hp} {id off ez et : Nat} {cs cs' : List AV} (hb : find id S.bs = some ⟨cs, ez, et⟩) (hw : WkL cs cs') : FrzS S (.ptr id off) (.vptr cs' off) := fun ρ Z F w u h hr => by
  have hZ : Le Z (fun b => w.heap[b]?) := fun b o hb => h.fixZ b o hb
  obtain ⟨g, hg, g0, rfl⟩ := hr
  obtain ⟨cur, h1, h2, h3, h4⟩ := h.liveAt (b := ⟨cs, ez, et⟩) hb hg g0
  exact ⟨g.blk, 0, cur, et, (0, 0), by simp, h1, by simpa using wk_rel hZ hw h4⟩
def FrzSL (S : Hp) : List AV → List AV → Prop
  | [], [] => True
  | a :: as, b :: bs => FrzS S a b ∧ FrzSL S as bs
  | _, _ => False
theorem frzSL_rel {ρ : Nat → Option Geo} {Z : Nat → Option Obj} {F : Ctx} {S : Hp} {w : World} (h : HpRel ρ Z F S w) : ∀ {as as' : List AV} {us : List Value}, FrzSL S as as' → RelP ρ Z as us → RelP (fun _ => none) (fun b => w.heap[b]?) as' us
  | [], [], _, _, _ => trivial
  | _ :: _, _ :: _, _ :: _, ⟨f1, f2⟩, ⟨h1, h2⟩ => ⟨f1 _ _ _ _ _ h h1, frzSL_rel h f2 h2⟩
  | _ :: _, _ :: _, [], _, h => h.elim
  | [], _ :: _, _, h, _ => h.elim
  | _ :: _, [], _, h, _ => h.elim
theorem frzSL_cons {S : Hp} {a b : AV} {as bs : List AV} (h : FrzS S a b) (hs : FrzSL S as bs) : FrzSL S (a :: as) (b :: bs) := ⟨h, hs⟩
theorem frzSL_length {S : Hp} : ∀ {as as' : List AV}, FrzSL S as as' → as'.length = as.length
  | [], [], _ => rfl
  | _ :: _, _ :: _, ⟨_, h⟩ => by simp [frzSL_length h]
  | [], _ :: _, h => h.elim
  | _ :: _, [], h => h.elim
theorem q_callS {f : FuncId} {xs : List Operand} {ts : Array TypeId} {v : Value} {vals : List AV} [hc : Callable P f] (spec : ACalls P f vals ⟨0, []⟩ (fun r _ => r = .sc v)) (hf : FrzSL σ.hp (xs.map σ.ev) vals) :
    QY P N ⟨d, .call ⟨.value (.func f), xs.toArray, ts⟩, ty, pos, af, gd⟩ σ (.sc v) := fun ρ Z F a w hr => by
  refine ⟨v, rfl, fun w' hb => ?_⟩
  have hrun : (execOp a.eval ⟨d, .call ⟨.value (.func f), xs.toArray, ts⟩, ty, pos, af, gd⟩).run P w' = .ok (.enter f (xs.map a.eval).toArray) w' := by
    simp [execOp, resolve, Deferred.ofValue, Act.eval, invoke, hc.out]
  unfold Oper.quietAt
  rw [hrun]
  refine ⟨rfl, ?_⟩
  have hr' := hr.below hb
  have hrel := frzSL_rel hr'.hp hf (map_ev hr' xs)
  have hlen := frzSL_length hf
  refine (spec (fun _ => none) (fun b => w'.heap[b]?) ⟨fun _ => none, fun _ => none⟩ w' _ (bare_hp w' (fun b cs e => let ⟨t, st, h1⟩ := hr'.hp.pin b cs e; ⟨t, st, hr'.hp.fixZ _ _ h1⟩)) (fun _ _ => rfl) (by simp at hlen ⊢; omega) (by simpa using hrel)).mono ?_
  rintro e w'' ⟨u, ρ', Z', r, S', rfl, hx, hh, hrl, rfl⟩
  have hu : u = v := hrl
  subst hu
  refine ⟨rfl, hb.trans (Below.mono ⟨hx.os, hx.tape, hx.output, hx.size, fun k hk => ?_⟩ hb.size)⟩
  have ho : w'.heap[k]? = some w'.heap[k] := by simp [hk]
  rw [ho]; exact hh.fixZ k _ (hx.Z_le k _ ho)
theorem s_storeP {t : TypeId} {x y : Operand} {id off bytes n ez et : Nat} {cs cs' : List AV} {bs : List (Nat × Option Blk)} {zero : Value} {gd : Option (Nat × Bool)} [ha : Inf P t 1 bytes zero] (hx : St.ev ⟨env, dfs, ⟨n, bs⟩⟩ x = .ptr id off) (hy : St.ev ⟨env, dfs, ⟨n, bs⟩⟩ y = v) (hb : find id bs = some ⟨cs, ez, et⟩) (h1 : v.one = true) (hl0 : off < cs.length) (hc : cs.set off v = cs')
    (hk : K ⟨env, dfs, ⟨n, (id, some ⟨cs', ez, et⟩) :: bs⟩⟩) : AExec P N ⟨none, .store t x y, ty, pos, af, gd⟩ K ⟨env, dfs, ⟨n, bs⟩⟩ := by
  subst hc
  exact x_store1 (b := ⟨cs, ez, et⟩) hx hy hb h1 (by rwa [Nat.blt_eq]) hk
theorem byts_set (l : List Int) (i : Nat) (n : Int) : (byts l).set i (.sc (.int .u8 n)) = byts (l.set i n) := by simp [byts, List.map_set]
end
end Go.Proofs.YtdcnpkbflelpfaaDoor.Sx
