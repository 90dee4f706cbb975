/- The same rules, with cells spelled out behind each step. -/
import Derived.Test.YtdcnpkbflelpfaaDoorSx30
namespace Go.Proofs.YtdcnpkbflelpfaaDoor.Sx
open Go Go.RowKit
section
variable {P : Program} {N : Sg} {σ : St} {d : Option Tmp} {ty : TypeId} {pos : String} {af : Array Edge} {gd : Option (Nat × Bool)} {K : St → Prop}
  {env : List (Nat × AV)} {dfs : List (FuncId × List AV)} {n : Nat} {bs : List (Nat × Option Blk)} {t : Tmp} {v : AV}
theorem s_storeN {t' : TypeId} {x y : Operand} {id off bytes ez et : Nat} {cs cs' : List AV} {zero : Value} [ha : Inf P t' 1 bytes zero] (hx : St.ev ⟨env, dfs, ⟨n, bs⟩⟩ x = .ptr id off) (hy : St.ev ⟨env, dfs, ⟨n, bs⟩⟩ y = v) (hb : find id bs = some ⟨cs, ez, et⟩) (h1 : v.one = true) (hl0 : Nat.blt off cs.length = true) (hs : cs.set off v = cs')
    (hk : K ⟨env, dfs, ⟨n, (id, some ⟨cs', ez, et⟩) :: bs⟩⟩) : AExec P N ⟨none, .store t' x y, ty, pos, af, gd⟩ K ⟨env, dfs, ⟨n, bs⟩⟩ := by
  subst hs
  exact s_store hx hy hb h1 hl0 hk
theorem s_storeAN {t' : TypeId} {x y : Operand} {id off size bytes ez et : Nat} {cs vs cs' : List AV} {zero : Value} [ha : Inf P t' size bytes zero] (hx : St.ev ⟨env, dfs, ⟨n, bs⟩⟩ x = .ptr id off) (hy : St.ev ⟨env, dfs, ⟨n, bs⟩⟩ y = .agg vs) (hb : find id bs = some ⟨cs, ez, et⟩) (h1 : vs.all AV.one = true) (hz : vs.length = size) (hl0 : Nat.ble (off + size) cs.length = true) (hs : setRow cs off vs = cs')
    (hk : K ⟨env, dfs, ⟨n, (id, some ⟨cs', ez, et⟩) :: bs⟩⟩) : AExec P N ⟨none, .store t' x y, ty, pos, af, gd⟩ K ⟨env, dfs, ⟨n, bs⟩⟩ := by
  subst hs
  exact s_storeA hx hy hb h1 hz hl0 hk
/-- A block wholly overwritten. -/
theorem setRow_all : ∀ (vs pre cs : List AV), cs.length = vs.length → setRow (pre ++ cs) pre.length vs = pre ++ vs
  | [], pre, cs, h => by
    have : cs = [] := List.eq_nil_of_length_eq_zero (by simpa using h)
    subst this; rfl
  | v :: vs, pre, [], h => by simp at h
  | v :: vs, pre, c :: cs, h => by
    unfold setRow
    have e : (pre ++ c :: cs).set pre.length v = (pre ++ [v]) ++ cs := by simp
    rw [e]
    have := setRow_all vs (pre ++ [v]) cs (by simpa using h)
    rw [show pre.length + 1 = (pre ++ [v]).length by simp, this]
    simp
theorem s_storeW {t' : TypeId} {x y : Operand} {id size bytes ez et : Nat} {cs vs : List AV} {zero : Value} [ha : Inf P t' size bytes zero] (hx : St.ev ⟨env, dfs, ⟨n, bs⟩⟩ x = .ptr id 0) (hy : St.ev ⟨env, dfs, ⟨n, bs⟩⟩ y = .agg vs) (hb : find id bs = some ⟨cs, ez, et⟩) (h1 : vs.all AV.one = true) (hz : vs.length = size) (hl0 : cs.length = size)
    (hk : K ⟨env, dfs, ⟨n, (id, some ⟨vs, ez, et⟩) :: bs⟩⟩) : AExec P N ⟨none, .store t' x y, ty, pos, af, gd⟩ K ⟨env, dfs, ⟨n, bs⟩⟩ := by
  have e : setRow cs 0 vs = vs := setRow_all vs [] cs (by omega)
  refine s_storeA hx hy hb h1 hz ?_ (by rw [e]; exact hk)
  rw [Nat.zero_add, hl0]
  exact Nat.ble_self_eq_true _
/-- A whole block loaded. -/
theorem y_loadW {t' : TypeId} {x : Operand} {id size bytes ez et : Nat} {zero : Value} {cs : List AV} [ha : Agg P t' true] [hs : Inf P t' size bytes zero] (hx : σ.ev x = .ptr id 0) (hb : σ.hp.get id = some ⟨cs, ez, et⟩) (hl0 : cs.length = size) :
    Yld P N ⟨d, .load t' x, ty, pos, af, gd⟩ σ (.agg cs) := by
  have := y_loadA (P := P) (N := N) (d := d) (ty := ty) (pos := pos) (af := af) (gd := gd) (t := t') hx hb (by rw [Nat.zero_add]; show Nat.ble size cs.length = true; rw [hl0]; exact Nat.ble_self_eq_true _)
  have e : List.take size (List.drop 0 (Blk.cells ⟨cs, ez, et⟩)) = cs := by
    rw [List.drop_zero]; exact List.take_of_length_le (by show cs.length ≤ size; omega)
  rwa [e] at this
theorem y_vloadW {t' : TypeId} {x : Operand} {size bytes : Nat} {zero : Value} {cs : List AV} [ha : Agg P t' true] [hs : Inf P t' size bytes zero] (hx : σ.ev x = .vptr cs 0) (hl0 : cs.length = size) :
    Yld P N ⟨d, .load t' x, ty, pos, af, gd⟩ σ (.agg cs) := by
  have := y_vloadA (P := P) (N := N) (d := d) (ty := ty) (pos := pos) (af := af) (gd := gd) (t := t') hx (by rw [Nat.zero_add, hl0]; exact Nat.ble_self_eq_true _)
  have e : List.take size (List.drop 0 cs) = cs := by
    rw [List.drop_zero]; exact List.take_of_length_le (by omega)
  rwa [e] at this
end
end Go.Proofs.YtdcnpkbflelpfaaDoor.Sx
