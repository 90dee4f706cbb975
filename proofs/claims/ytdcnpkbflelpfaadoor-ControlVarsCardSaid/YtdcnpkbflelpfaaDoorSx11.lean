/- Loops by an invariant; a state taken to another shape; branches with what they say. -/
import Derived.Test.YtdcnpkbflelpfaaDoorSx10
namespace Go.Proofs.YtdcnpkbflelpfaaDoor.Sx
open Go Go.RowKit
section
variable {P : Program} {N : Sg} {Q : Exit → St → Prop} {σ : St}
/-- A state in another shape: blocks numbered anew, slots forgotten. -/
theorem iw_to {is : List Item} (l : List Nat) {e : List (Nat × AV)} {h : Hp} (hk : IW P N is Q ⟨e, [], h⟩) (hn : l.Nodup) (hl : Keeps N.k l = true) (hd : σ.dfs = []) (he : SubEnv e (σ.sub l)) (hh : σ.hp.sub l = h) : IW P N is Q σ := by
  refine iw_ren l hn hl (iw_env e he ?_)
  have : (σ.sub l).dfs = [] := by show σ.dfs.map _ = []; rw [hd]; rfl
  rw [this]
  show IW P N is Q ⟨e, [], σ.hp.sub l⟩
  rw [hh]; exact hk
theorem awp_inv {c : Code} {α : Type} (inv : α → Prop) (m : α → Nat) (e : α → List (Nat × AV)) (h : α → Hp) (a : α) (l : List Nat) (hn : l.Nodup) (hl : Keeps N.k l = true) (hd : σ.dfs = []) (hi : inv a) (he : SubEnv (e a) (σ.sub l)) (hh : σ.hp.sub l = h a)
    (step : ∀ a, inv a → (∀ b, inv b → m b < m a → IW P N [.inLoop c] Q ⟨e b, [], h b⟩) → AWP P N c (thenQ (IW P N [.inLoop c] Q) Q) ⟨e a, [], h a⟩) : AWP P N (.loop c) Q σ := by
  have key : ∀ n a, m a ≤ n → inv a → AWP P N c (thenQ (IW P N [.inLoop c] Q) Q) ⟨e a, [], h a⟩ := fun n => by
    induction n with
    | zero => exact fun a h1 h2 => step a h2 fun b _ h4 => by omega
    | succ n ih => exact fun a h1 h2 => step a h2 fun b h3 h4 => iw_inLoop (ih b (by omega) h3)
  exact iw_to l (awp_loop (key _ a (Nat.le_refl _) hi)) hn hl hd he hh

/-- What a truth value says. -/
class Says (b : Bool) (p : outParam Prop) : Prop where
  out : b = true ↔ p
instance (priority := low) (b : Bool) : Says b (b = true) := ⟨.rfl⟩
instance (p : Prop) [Decidable p] : Says (decide p) p := ⟨by simp⟩
instance (m n : Int) : Says (m == n) (m = n) := ⟨by simp⟩
instance (m n : Int) : Says (m != n) (m ≠ n) := ⟨by simp⟩
instance : Says true True := ⟨by simp⟩
instance : Says false False := ⟨by simp⟩
instance (b : Bool) (p : Prop) [h : Says b p] : Says (!b) (¬ p) := ⟨by rw [← h.out]; simp⟩
instance (a b : Bool) (p q : Prop) [ha : Says a p] [hb : Says b q] : Says (a && b) (p ∧ q) := ⟨by rw [← ha.out, ← hb.out]; simp⟩
instance (a b : Bool) (p q : Prop) [ha : Says a p] [hb : Says b q] : Says (a || b) (p ∨ q) := ⟨by rw [← ha.out, ← hb.out]; simp⟩
theorem Says.no {b : Bool} {p : Prop} (h : Says b p) (e : b = false) : ¬ p := fun hp => by rw [h.out.2 hp] at e; cases e
theorem awp_if {c : Operand} {x y : Code} {b : Bool} {p : Prop} (hc : σ.ev c = .sc (.bool b)) [h : Says b p] (ht : b = true → p → AWP P N x Q σ) (hf : b = false → ¬ p → AWP P N y Q σ) : AWP P N (.cond c x y) Q σ :=
  awp_cond hc (fun e => ht e (h.out.1 e)) (fun e => hf e (h.no e))
theorem awp_if_t {c : Operand} {x y : Code} {b : Bool} (hc : σ.ev c = .sc (.bool b)) (hb : b = true) (h : AWP P N x Q σ) : AWP P N (.cond c x y) Q σ :=
  awp_cond hc (fun _ => h) (fun e => by rw [hb] at e; cases e)
theorem awp_if_f {c : Operand} {x y : Code} {b : Bool} (hc : σ.ev c = .sc (.bool b)) (hb : b = false) (h : AWP P N y Q σ) : AWP P N (.cond c x y) Q σ :=
  awp_cond hc (fun e => by rw [hb] at e; cases e) (fun _ => h)
end
section
variable {P : Program} {N : Sg} {Q : Exit → St → Prop} {env : List (Nat × AV)} {dfs : List (FuncId × List AV)} {hp : Hp} {ops : Array Oper} {rest : List Oper}
  {op : Op} {ty : TypeId} {pos : String} {af : Array Edge} {t : Tmp} {d : Option Tmp} {v : AV} {K : St → Prop} {p : Prop}
theorem o_if {j tj : Nat} {b : Bool} (hj : dstOf ops j = some tj) (hb : look tj env = .sc (.bool b)) (hd : okDst N (some t) = true) [h : Says b p]
    (h1 : b = true → p → AOps P N ops Q (⟨some t, op, ty, pos, af, none⟩ :: rest) ⟨env, dfs, hp⟩) (h2 : b = false → ¬ p → AOps P N ops Q rest ⟨(t, .sc undef) :: env, dfs, hp⟩) : AOps P N ops Q (⟨some t, op, ty, pos, af, some (j, true)⟩ :: rest) ⟨env, dfs, hp⟩ :=
  o_g hj hb hd (fun e => h1 e (h.out.1 e)) (fun e => h2 e (h.no e))
theorem o_un {j tj : Nat} {b : Bool} (hj : dstOf ops j = some tj) (hb : look tj env = .sc (.bool b)) (hd : okDst N (some t) = true) [h : Says b p]
    (h1 : b = false → ¬ p → AOps P N ops Q (⟨some t, op, ty, pos, af, none⟩ :: rest) ⟨env, dfs, hp⟩) (h2 : b = true → p → AOps P N ops Q rest ⟨(t, .sc undef) :: env, dfs, hp⟩) : AOps P N ops Q (⟨some t, op, ty, pos, af, some (j, false)⟩ :: rest) ⟨env, dfs, hp⟩ :=
  o_g hj hb hd (fun e => h1 e (h.no e)) (fun e => h2 e (h.out.1 e))
theorem q_if {j tj : Nat} {b : Bool} (hj : dstOf ops j = some tj) (hb : look tj env = .sc (.bool b)) (hd : okDst N (some t) = true) [h : Says b p]
    (h1 : b = true → p → AQuiet P N ops (⟨some t, op, ty, pos, af, none⟩ :: rest) K ⟨env, dfs, hp⟩) (h2 : b = false → ¬ p → AQuiet P N ops rest K ⟨(t, .sc undef) :: env, dfs, hp⟩) : AQuiet P N ops (⟨some t, op, ty, pos, af, some (j, true)⟩ :: rest) K ⟨env, dfs, hp⟩ :=
  q_g hj hb hd (fun e => h1 e (h.out.1 e)) (fun e => h2 e (h.no e))
theorem q_un {j tj : Nat} {b : Bool} (hj : dstOf ops j = some tj) (hb : look tj env = .sc (.bool b)) (hd : okDst N (some t) = true) [h : Says b p]
    (h1 : b = false → ¬ p → AQuiet P N ops (⟨some t, op, ty, pos, af, none⟩ :: rest) K ⟨env, dfs, hp⟩) (h2 : b = true → p → AQuiet P N ops rest K ⟨(t, .sc undef) :: env, dfs, hp⟩) : AQuiet P N ops (⟨some t, op, ty, pos, af, some (j, false)⟩ :: rest) K ⟨env, dfs, hp⟩ :=
  q_g hj hb hd (fun e => h1 e (h.no e)) (fun e => h2 e (h.out.1 e))
theorem wanted_undef {σ : St} {o : Oper} {j tj : Nat} {want : Bool} {ρ Z F a w} (hr : StRel N ρ Z F σ a w) (hg : o.guard = some (j, want)) (hj : dstOf ops j = some tj) (hb : σ.get tj = .sc undef) :
    Region.wanted o (yielded ops a.tmps) = false := by
  have he := hr.env tj
  rw [hb] at he
  have he' : a.tmps.getD tj undef = undef := he
  have hy : yielded ops a.tmps j = none := by
    unfold yielded
    unfold dstOf at hj
    rw [hj]
    simp only [Option.bind_some]
    cases h : a.tmps[tj]? with
    | none => rfl
    | some v =>
      have : v = undef := by
        have h' : a.tmps.getD tj undef = v := by rw [Array.getD_eq_getD_getElem?, h]; rfl
        rw [← h', he']
      subst this
      rfl
  unfold Region.wanted
  rw [hg]
  simp only [hy]
  cases want <;> rfl
theorem o_off {j tj : Nat} {want : Bool} (hj : dstOf ops j = some tj) (hb : look tj env = .sc undef) (hd : okDst N (some t) = true) (h : AOps P N ops Q rest ⟨(t, .sc undef) :: env, dfs, hp⟩) : AOps P N ops Q (⟨some t, op, ty, pos, af, some (j, want)⟩ :: rest) ⟨env, dfs, hp⟩ := fun ρ Z F a w hr => by
  have hw := wanted_undef (o := ⟨some t, op, ty, pos, af, some (j, want)⟩) hr rfl hj hb
  unfold wpList
  rw [hw, if_neg (by simp)]
  exact h ρ Z F _ w (put_undef hr (okDst_spec hd))
theorem q_off {j tj : Nat} {want : Bool} (hj : dstOf ops j = some tj) (hb : look tj env = .sc undef) (hd : okDst N (some t) = true) (h : AQuiet P N ops rest K ⟨(t, .sc undef) :: env, dfs, hp⟩) : AQuiet P N ops (⟨some t, op, ty, pos, af, some (j, want)⟩ :: rest) K ⟨env, dfs, hp⟩ := fun ρ Z F a w hr => by
  have hw := wanted_undef (o := ⟨some t, op, ty, pos, af, some (j, want)⟩) hr rfl hj hb
  unfold wpQuiet
  rw [hw, if_neg (by simp)]
  exact h ρ Z F _ w (put_undef hr (okDst_spec hd))
theorem s_defer {x : Operand} {ts : Array TypeId} {f : FuncId} {cap : List AV} {gd : Option (Nat × Bool)} (hx : St.ev ⟨env, dfs, hp⟩ x = .fn f cap) (hk : K ⟨env, (f, cap) :: dfs, hp⟩) : AExec P N ⟨none, .defer ⟨.value x, #[], ts⟩, ty, pos, af, gd⟩ K ⟨env, dfs, hp⟩ :=
  x_defer (xs := []) hx hk
end
end Go.Proofs.YtdcnpkbflelpfaaDoor.Sx
