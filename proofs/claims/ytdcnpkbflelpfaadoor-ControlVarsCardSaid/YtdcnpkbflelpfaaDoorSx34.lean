/- Shifts by numbers of the text; quotients of either sign; contracts weakened. -/
import Derived.Test.YtdcnpkbflelpfaaDoorSx33
namespace Go.Proofs.YtdcnpkbflelpfaaDoor.Sx
open Go Go.RowKit
section
variable {P : Program} {N : Sg} {σ : St} {d : Option Tmp} {ty : TypeId} {pos : String} {af : Array Edge} {gd : Option (Nat × Bool)} {x y : Operand} {xt yt : TypeId} {k k' : IntKind} {m n j : Int}
theorem z_shrC (c : Int) (hx : σ.ev x = .sc (.int k m)) (hy : σ.ev y = .sc (.int k' j)) (hj : 0 ≤ j) (hc : (2 : Int) ^ min j.toNat k.bits = c) (h0 : 0 ≤ c) : Yld P N ⟨d, .binOp .shr xt x y yt, ty, pos, af, gd⟩ σ (.sc (.int k (m / c))) := by
  have := y_shr (P := P) (N := N) (d := d) (xt := xt) (yt := yt) (ty := ty) (pos := pos) (af := af) (gd := gd) hx hy hj
  rwa [hc, Int.fdiv_eq_ediv_of_nonneg _ h0] at this
theorem z_shlC (c : Int) (hx : σ.ev x = .sc (.int .i64 m)) (hy : σ.ev y = .sc (.int k' j)) (hj : 0 ≤ j) (hc : (2 : Int) ^ min j.toNat IntKind.i64.bits = c) (h0 : -9223372036854775808 ≤ m * c) (h1 : m * c ≤ 9223372036854775807) : Yld P N ⟨d, .binOp .shl xt x y yt, ty, pos, af, gd⟩ σ (.sc (.int .i64 (m * c))) := by
  have := y_shl (P := P) (N := N) (d := d) (xt := xt) (yt := yt) (ty := ty) (pos := pos) (af := af) (gd := gd) hx hy hj
  rwa [hc, wrap_i64 h0 h1] at this
/-- Go's quotient and rest, by sign. -/
def tq (m c : Int) : Int := if 0 ≤ m then m / c else -((-m) / c)
def tr (m c : Int) : Int := if 0 ≤ m then m % c else -((-m) % c)
theorem tdiv_tq (m c : Int) (hc : 0 < c) : m.tdiv c = tq m c := by
  unfold tq
  split
  · exact Int.tdiv_eq_ediv_of_nonneg (by assumption)
  · have e : m.tdiv c = -((-m).tdiv c) := by rw [Int.neg_tdiv]; simp
    rw [e, Int.tdiv_eq_ediv_of_nonneg (by omega)]
theorem tmod_tr (m c : Int) (hc : 0 < c) : m.tmod c = tr m c := by
  unfold tr
  split
  · exact Int.tmod_eq_emod_of_nonneg (by assumption)
  · have e : m.tmod c = -((-m).tmod c) := by rw [Int.neg_tmod]; simp
    rw [e, Int.tmod_eq_emod_of_nonneg (by omega)]
theorem tq_bd (m c : Int) (hc : 0 < c) : -(if 0 ≤ m then m else -m) ≤ tq m c ∧ tq m c ≤ (if 0 ≤ m then m else -m) := by
  unfold tq
  split
  · have h1 := Int.ediv_nonneg (by assumption : 0 ≤ m) (Int.le_of_lt hc)
    have h2 := Int.ediv_le_self c (by assumption : 0 ≤ m)
    omega
  · have h1 := Int.ediv_nonneg (by omega : 0 ≤ -m) (Int.le_of_lt hc)
    have h2 := Int.ediv_le_self c (by omega : 0 ≤ -m)
    omega
theorem z_quoT (hx : σ.ev x = .sc (.int .i64 m)) (hy : σ.ev y = .sc (.int .i64 n)) (hn : 1 < n) (h0 : -9223372036854775807 ≤ m) (h1 : m ≤ 9223372036854775807) : Yld P N ⟨d, .binOp .quo xt x y yt, ty, pos, af, gd⟩ σ (.sc (.int .i64 (tq m n))) := by
  have := y_quo (P := P) (N := N) (d := d) (xt := xt) (yt := yt) (ty := ty) (pos := pos) (af := af) (gd := gd) hx hy (by omega)
  have hb := tq_bd m n (by omega)
  rwa [tdiv_tq m n (by omega), wrap_i64 (by split at hb <;> omega) (by split at hb <;> omega)] at this
theorem z_remT (hx : σ.ev x = .sc (.int .i64 m)) (hy : σ.ev y = .sc (.int .i64 n)) (hn : 1 < n) : Yld P N ⟨d, .binOp .rem xt x y yt, ty, pos, af, gd⟩ σ (.sc (.int .i64 (tr m n))) := by
  have := y_rem (P := P) (N := N) (d := d) (xt := xt) (yt := yt) (ty := ty) (pos := pos) (af := af) (gd := gd) hx hy (by omega)
  rwa [tmod_tr m n (by omega)] at this
theorem v_f1 {f : FuncId} {a : AV} (hx : σ.ev x = a) : Yld P N ⟨d, .makeFunc (.func f) #[] #[x], ty, pos, af, gd⟩ σ (.fn f [a]) := hx ▸ y_func (xs := [x])
theorem v_f2 {f : FuncId} {a b : AV} (hx : σ.ev x = a) (hy : σ.ev y = b) : Yld P N ⟨d, .makeFunc (.func f) #[] #[x, y], ty, pos, af, gd⟩ σ (.fn f [a, b]) := hx ▸ hy ▸ y_func (xs := [x, y])
end
/-- A cut behind two pieces. -/
theorem awp_cut2 {P : Program} {N : Sg} {Q : Exit → St → Prop} {σ : St} {x y z : Code} {α : Type} (inv : α → Prop) (e : α → List (Nat × AV)) (h : α → Hp) (hx : ∀ K : St → Prop, (∀ a, inv a → ∀ σ', Like N (e a) (h a) σ' → K σ') → AWP P N x (thenQ (AWP P N y (thenQ K Q)) Q) σ)
    (hz : ∀ a, inv a → AWP P N z Q ⟨e a, [], h a⟩) : AWP P N (.seq x (.seq y z)) Q σ :=
  awp_seq ((hx _ fun a ha _ ⟨l, hn, hl, hd, he, hh⟩ => iw_to l (hz a ha) hn hl hd he hh).imp fun ex σ' h => by
    cases ex <;> first | exact awp_seq h | exact h)
/-- A call that is handed none of the caller's blocks; of what it hands back only so much is known. -/
theorem x_callX {P : Program} {N : Sg} {env : List (Nat × AV)} {dfs : List (FuncId × List AV)} {hp : Hp} {t : Tmp} {ty : TypeId} {pos : String} {af : Array Edge} {gd : Option (Nat × Bool)} {K : St → Prop} {f : FuncId} {xs : List Operand} {ts : Array TypeId} {R : AV → Prop} [hc : Callable P f]
    (spec : ACalls P f (renL (fun _ => none) (xs.map (St.ev ⟨env, dfs, hp⟩))) ⟨0, []⟩ (fun r _ => R r)) (hd : Nat.blt t N.n = true) (hv : ∀ r, R r → r.deep = true)
    (hk : ∀ r, R r → K ⟨(t, r) :: env, dfs, hp⟩) : AExec P N ⟨some t, .call ⟨.value (.func f), xs.toArray, ts⟩, ty, pos, af, gd⟩ K ⟨env, dfs, hp⟩ := fun ρ Z F a w hr next Qc hn => by
  have hrun : (execOp a.eval ⟨some t, .call ⟨.value (.func f), xs.toArray, ts⟩, ty, pos, af, gd⟩).run P w = .ok (.enter f (xs.map a.eval).toArray) w := by
    simp [execOp, resolve, Deferred.ofValue, Act.eval, invoke, hc.out]
  unfold Oper.wp
  rw [hrun]
  show Calls P f _ w _
  have hp := callee_hp hr.hp (m := []) List.nodup_nil
  refine (spec (subρ ρ []) Z _ w _ hp (fun i hi => by exact subρ_out (ρ := ρ) (m := []) (Nat.zero_le i)) (by simp [renL_length]) ?_).mono ?_
  · simpa using (map_ev hr xs).ren (ρ' := subρ ρ []) (r := fun _ => none) (fun _ _ _ h => by cases h)
  · rintro e w' ⟨u, ρ', Z', r, S', rfl, hx, h', hrel, hR⟩
    exact hn _ w' ρ Z' _ hx (StRel.put (σ := ⟨env, dfs, _⟩) (d := some t) ⟨hr.size, fun t => (hr.env t).mono (.refl _) hx.Z_le, hr.dfs.mono (.refl _) hx.Z_le, back_same hr.hp hx.Z_le h', hr.kk⟩ (by rintro _ ⟨⟩; rwa [Nat.blt_eq] at hd) (deep_rel (.refl _) _ _ (hv r hR) hrel)) (hk r hR)
/-- A result told less exactly. -/
theorem ACalls.weak {P : Program} {f : FuncId} {args : List AV} {S : Hp} {v v' : AV} (h : ACalls P f args S (fun r _ => r = v)) (hw : ∀ ρ Z u, Rel ρ Z v u → Rel ρ Z v' u) : ACalls P f args S (fun r _ => r = v') := fun ρ Z F w cargs h1 h2 h3 h4 =>
  (h ρ Z F w cargs h1 h2 h3 h4).mono fun _ _ ⟨u, ρ', Z', r, S', g1, g2, g3, g4, g5⟩ => ⟨u, ρ', Z', v', S', g1, g2, g3, hw _ _ _ (g5 ▸ g4), rfl⟩
theorem nil_view {ρ : Nat → Option Geo} {Z : Nat → Option Obj} {esz : Nat} {u : Value} (h : Rel ρ Z (.sc (.slice none 0 0)) u) : Rel ρ Z (.vsl [] esz 0 0) u := by
  have e : u = .slice none 0 0 := h
  subst e
  exact ⟨none, 0, rfl, Nat.le_refl _, by simp, fun h => absurd h (Nat.lt_irrefl _)⟩
end Go.Proofs.YtdcnpkbflelpfaaDoor.Sx
