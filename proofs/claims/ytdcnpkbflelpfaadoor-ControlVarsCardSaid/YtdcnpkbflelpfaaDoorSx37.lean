/- Maps of plain values. -/
import Derived.Test.YtdcnpkbflelpfaaDoorSx36
namespace Go.Proofs.YtdcnpkbflelpfaaDoor.Sx
open Go Go.RowKit
section
variable {κ β : Type} [DecidableEq κ]
/-- Entries of plain values. -/
def mpv (kf : κ → Value) (vf : β → Value) (N : List (κ × β)) : List AV := mpc kf (N.map fun p => (p.1, AV.sc (vf p.2)))
def alk (N : List (κ × β)) (a : κ) : Option β := match N with
  | [] => none
  | p :: r => if p.1 = a then some p.2 else alk r a
def aput (N : List (κ × β)) (a : κ) (b : β) : List (κ × β) := match N with
  | [] => [(a, b)]
  | p :: r => if p.1 = a then (a, b) :: r else p :: aput r a b
theorem alk_aput (N : List (κ × β)) (a : κ) (b : β) (c : κ) : alk (aput N a b) c = if a = c then some b else alk N c := by
  induction N with
  | nil => simp [aput, alk]
  | cons p r ih =>
    unfold aput
    by_cases h : p.1 = a
    · rw [if_pos h]
      simp only [alk]
      by_cases hc : a = c
      · rw [if_pos hc, if_pos hc]
      · rw [if_neg hc, if_neg hc, if_neg (by rw [h]; exact hc)]
    · rw [if_neg h]
      simp only [alk, ih]
      by_cases hc : p.1 = c
      · rw [if_pos hc, if_neg (by rw [← hc]; exact fun e => h e.symm), if_pos hc]
      · rw [if_neg hc, if_neg hc]
theorem aput_length (N : List (κ × β)) (a : κ) (b : β) : (aput N a b).length = N.length + (if (alk N a).isSome then 0 else 1) := by
  induction N with
  | nil => simp [aput, alk]
  | cons p r ih =>
    unfold aput alk
    by_cases h : p.1 = a
    · simp [h]
    · simp only [h, if_false, List.length_cons, ih]
      omega
theorem lk_mpv (vf : β → Value) (N : List (κ × β)) (a : κ) : lk (N.map fun p => (p.1, AV.sc (vf p.2))) a = (alk N a).map fun b => AV.sc (vf b) := by
  induction N with
  | nil => simp [lk, alk]
  | cons p r ih =>
    unfold lk at ih ⊢
    simp only [List.map_cons, List.find?_cons, alk]
    by_cases h : p.1 = a <;> simp [h]
    simpa using ih
theorem mput_mpv (vf : β → Value) (N : List (κ × β)) (a : κ) (b : β) : mput (N.map fun p => (p.1, AV.sc (vf p.2))) a (.sc (vf b)) = (aput N a b).map fun p => (p.1, AV.sc (vf p.2)) := by
  induction N with
  | nil => simp [mput, aput]
  | cons p r ih =>
    simp only [List.map_cons, mput, aput]
    by_cases h : p.1 = a <;> simp [h, ih]
omit [DecidableEq κ] in
theorem mpv_ren (r : Nat → Option Nat) (kf : κ → Value) (vf : β → Value) (N : List (κ × β)) : renL r (mpv kf vf N) = mpv kf vf N := by
  unfold mpv mpc
  induction N with
  | nil => rfl
  | cons p l ih => simp only [List.map_cons, renL, ih, AV.ren]
omit [DecidableEq κ] in
theorem blk_mpv {S : Hp} {r : Nat → Option Nat} {i : Nat} {kf : κ → Value} {vf : β → Value} {N : List (κ × β)} {ez : Nat} {et : TypeId} (hb : find i S.bs = some ⟨mpv kf vf N, ez, et⟩) : (S.get i).map (Blk.ren r) = some ⟨mpv kf vf N, ez, et⟩ := by
  show (find i S.bs).map _ = _
  rw [hb]
  simp [Blk.ren, mpv_ren]
end
section
variable {κ β : Type} [DecidableEq κ]
variable {P : Program} {N : Sg} {σ : St} {d : Option Tmp} {ty : TypeId} {pos : String} {af : Array Edge} {gd : Option (Nat × Bool)} {K : St → Prop} {env : List (Nat × AV)} {dfs : List (FuncId × List AV)} {n : Nat} {bs : List (Nat × Option Blk)}
theorem y_lookupV {T kt et : TypeId} {kf : κ → Value} {vf : β → Value} {x y : Operand} {id : Nat} {et' : TypeId} {l : List (κ × β)} {a : κ} {v zero : Value} {size bytes : Nat} [hT : Und P T (.map kt et)] [Kk : MKey P kt κ kf] [hi : Inf P et size bytes zero]
    (hx : σ.ev x = .mp id) (hb : σ.hp.get id = some ⟨mpv kf vf l, 0, et'⟩) (hy : σ.ev y = .sc (kf a)) (hz : AV.ofV zero = .sc zero) (hv : ((alk l a).map vf).getD zero = v) : Yld P N ⟨d, .lookup T x y false, ty, pos, af, gd⟩ σ (.sc v) :=
  y_lookup hx hb hy (by
    subst hv
    rw [lk_mpv]
    cases alk l a with
    | none => simpa using hz
    | some b => rfl)
theorem x_mapUpdateV {T kt et : TypeId} {kf : κ → Value} {vf : β → Value} {x y z : Operand} {id : Nat} {et' : TypeId} {l : List (κ × β)} {a : κ} {b : β} [hT : Und P T (.map kt et)] [Kk : MKey P kt κ kf]
    (hx : St.ev ⟨env, dfs, ⟨n, bs⟩⟩ x = .mp id) (hb : find id bs = some ⟨mpv kf vf l, 0, et'⟩) (hy : St.ev ⟨env, dfs, ⟨n, bs⟩⟩ y = .sc (kf a)) (hz : St.ev ⟨env, dfs, ⟨n, bs⟩⟩ z = .sc (vf b))
    (hk : K ⟨env, dfs, ⟨n, (id, some ⟨mpv kf vf (aput l a b), 0, et'⟩) :: bs⟩⟩) : AExec P N ⟨none, .mapUpdate T x y z, ty, pos, af, gd⟩ K ⟨env, dfs, ⟨n, bs⟩⟩ :=
  x_mapUpdate hx hb hy hz (by rw [mput_mpv]; exact hk)
end
/-- A row of cells written at a place that is reckoned. -/
theorem s_storeR {P : Program} {N : Sg} {ty : TypeId} {pos : String} {af : Array Edge} {gd : Option (Nat × Bool)} {K : St → Prop} {env : List (Nat × AV)} {dfs : List (FuncId × List AV)} {n : Nat} {t : TypeId} {x y : Operand} {id off size bytes ez et : Nat} {cs vs cs' : List AV} {bs : List (Nat × Option Blk)} {zero : Value} [ha : Inf P t size bytes zero]
    (hx : St.ev ⟨env, dfs, ⟨n, bs⟩⟩ x = .ptr id off) (hy : St.ev ⟨env, dfs, ⟨n, bs⟩⟩ y = .agg vs) (hb : find id bs = some ⟨cs, ez, et⟩) (h1 : vs.all AV.one = true) (hz : vs.length = size) (hl : off + size ≤ cs.length) (hc : setRow cs off vs = cs') (hk : K ⟨env, dfs, ⟨n, (id, some ⟨cs', ez, et⟩) :: bs⟩⟩) : AExec P N ⟨none, .store t x y, ty, pos, af, gd⟩ K ⟨env, dfs, ⟨n, bs⟩⟩ := by
  subst hc
  exact s_storeA hx hy hb h1 hz (Nat.ble_eq_true_of_le hl) hk
theorem setRow_at : ∀ (vs cs : List AV) (o : Nat), o + vs.length ≤ cs.length → setRow cs o vs = cs.take o ++ vs ++ cs.drop (o + vs.length)
  | [], cs, o, _ => by simp [setRow]
  | v :: r, cs, o, h => by
    simp only [List.length_cons] at h
    unfold setRow
    rw [setRow_at r _ (o + 1) (by simp; omega)]
    have e1 : (cs.set o v).take (o + 1) = cs.take o ++ [v] := by
      rw [List.take_add_one, List.getElem?_set_self (by omega)]
      simp [List.take_set_of_le (Nat.le_refl o)]
    rw [e1, List.drop_set_of_lt (by omega)]
    simp [Nat.add_assoc, Nat.add_comm 1]
theorem setRow_flat {α : Type} {f : α → List AV} {esz : Nat} (hf : ∀ a, (f a).length = esz) {l : List α} {i : Nat} (x : α) (h : i < l.length) : setRow (l.flatMap f) (i * esz) (f x) = (l.set i x).flatMap f := by
  have hl := flat_length hf l
  have hle : (i + 1) * esz ≤ l.length * esz := Nat.mul_le_mul_right _ h
  rw [setRow_at _ _ _ (by rw [hf, hl, ← Nat.succ_mul]; exact hle), hf, ← Nat.succ_mul, flat_drop hf]
  have ht : (l.flatMap f).take (i * esz) = (l.take i).flatMap f := by
    conv => lhs; rw [← List.take_append_drop i l, List.flatMap_append]
    rw [List.take_append_of_le_length (by rw [flat_length hf]; simp; exact Nat.mul_le_mul_right _ (by omega)), List.take_of_length_le (by rw [flat_length hf]; simp; exact Nat.mul_le_mul_right _ (by omega))]
  rw [ht, List.set_eq_take_append_cons_drop, if_pos h]
  simp
/-- Arguments that are less well known. -/
theorem ACalls.args {P : Program} {f : FuncId} {args args' : List AV} {S : Hp} {Q : AV → Hp → Prop} (h : ACalls P f args' S Q) (hl : args'.length = args.length) (hw : ∀ ρ Z us, RelP ρ Z args us → RelP ρ Z args' us) : ACalls P f args S Q := fun ρ Z F w cargs h1 h2 h3 h4 =>
  h ρ Z F w cargs h1 h2 (h3.trans hl.symm) (hw _ _ _ h4)
/-- Each cell as it is, or as one cell of which nothing is known. -/
def WkO : List AV → List AV → Prop
  | [], [] => True
  | c :: cs, c' :: cs' => (c' = c ∨ (c' = .opq ∧ c.one = true)) ∧ WkO cs cs'
  | _, _ => False
theorem wko_rel {ρ : Nat → Option Geo} {Z : Nat → Option Obj} : ∀ {cs cs' : List AV} {us : List Value}, WkO cs cs' → RelP ρ Z cs us → RelP ρ Z cs' us
  | [], [], _, _, _ => trivial
  | c :: cs, c' :: cs', u :: us, ⟨h1, h2⟩, ⟨r1, r2⟩ => by
    refine ⟨?_, wko_rel h2 r2⟩
    rcases h1 with rfl | ⟨rfl, hf⟩
    · exact r1
    · exact one_of r1 hf
  | _ :: _, _ :: _, [], _, h => h.elim
  | [], _ :: _, _, h, _ => h.elim
  | _ :: _, [], _, h, _ => h.elim
theorem wko_len : ∀ {cs cs' : List AV}, WkO cs cs' → cs'.length = cs.length
  | [], [], _ => rfl
  | _ :: _, _ :: _, ⟨_, h⟩ => by simp [wko_len h]
  | [], _ :: _, h => h.elim
  | _ :: _, [], h => h.elim
theorem wko_app : ∀ {cs cs' ds ds' : List AV}, WkO cs cs' → WkO ds ds' → WkO (cs ++ ds) (cs' ++ ds')
  | [], [], _, _, _, h => h
  | _ :: _, _ :: _, _, _, ⟨h1, h2⟩, h => ⟨h1, wko_app h2 h⟩
  | [], _ :: _, _, _, h, _ => h.elim
  | _ :: _, [], _, _, h, _ => h.elim
theorem wko_flat {α β : Type} {f : α → List AV} {g : β → List AV} {k : α → β} (h : ∀ a, WkO (f a) (g (k a))) : ∀ l : List α, WkO (l.flatMap f) ((l.map k).flatMap g)
  | [] => trivial
  | a :: l => wko_app (h a) (wko_flat h l)
theorem wko_vsl {ρ : Nat → Option Geo} {Z : Nat → Option Obj} {cs cs' : List AV} {z o n : Nat} {u : Value} (h : WkO cs cs') (hr : Rel ρ Z (.vsl cs z o n) u) : Rel ρ Z (.vsl cs' z o n) u := by
  obtain ⟨A, cap, h1, h2, h3, h4⟩ := hr
  refine ⟨A, cap, h1, h2, by rw [wko_len h]; exact h3, fun h0 => ?_⟩
  obtain ⟨b, q, c, e, fr, k1, k2, k3⟩ := h4 h0
  exact ⟨b, q, c, e, fr, k1, k2, wko_rel h k3⟩
end Go.Proofs.YtdcnpkbflelpfaaDoor.Sx
