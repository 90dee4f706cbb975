/- Arguments of any type, opened: what a program of mine prints leans on these. -/
import Derived.Test.YtdcnpkbflelpfaaDoorSx31
namespace Go.Proofs.YtdcnpkbflelpfaaDoor.Sx
open Go Go.RowKit
theorem nextq {α : Type} {l c r : List α} {o s o' : Nat} (h : o + s = o') (e : (l.drop o).take s = c) (hr : l.drop o' = r) : l.drop o = c ++ r := by
  subst h e hr
  rw [← List.drop_drop, List.take_append_drop]
theorem nextc {α : Type} {l c r : List α} {o s o' k : Nat} (hk : k = s) (h : o + s = o') (e : (l.drop o).take k = c) (hr : l.drop o' = r) : l.drop o = c ++ r := nextq h (hk ▸ e) hr
theorem rows_typ {α : Type} (f : α → List AV) (ok : α → Prop) (esz : Nat) (hf : ∀ a, (f a).length = esz) : ∀ (len : Nat) (cells : List AV), cells.length = len * esz → (∀ i, i < len → ∃ a, (cells.drop (i * esz)).take esz = f a ∧ ok a) → ∃ l : List α, l.length = len ∧ cells = l.flatMap f ∧ ∀ a ∈ l, ok a
  | 0, cells, h, _ => ⟨[], rfl, List.length_eq_zero_iff.1 (by simpa using h), fun _ h => by cases h⟩
  | len + 1, cells, h, ha => by
    obtain ⟨a, e, hok⟩ := ha 0 (by omega)
    rw [Nat.succ_mul] at h
    simp only [Nat.zero_mul, List.drop_zero] at e
    obtain ⟨l, h1, h2, h3⟩ := rows_typ f ok esz hf len (cells.drop esz) (by simp; omega) (fun i hi => by
      obtain ⟨b, eb, hb⟩ := ha (i + 1) (by omega)
      exact ⟨b, by rw [List.drop_drop, ← eb, Nat.succ_mul, Nat.add_comm], hb⟩)
    refine ⟨a :: l, by simp [h1], by rw [List.flatMap_cons, ← h2, ← e, List.take_append_drop], fun b hb => ?_⟩
    cases hb with
    | head => exact hok
    | tail _ hb => exact h3 b hb
theorem byts_flat1 (l : List Int) : l.flatMap (fun n => [AV.sc (.int .u8 n)]) = byts l := by
  induction l with
  | nil => rfl
  | cons a l ih => simp only [List.flatMap_cons, ih, byts, List.map_cons]; rfl
theorem strs_flat1 (l : List ByteArray) : l.flatMap (fun n => [AV.sc (.string n)]) = strs l := by
  induction l with
  | nil => rfl
  | cons a l ih => simp only [List.flatMap_cons, ih, strs, List.map_cons]; rfl
theorem typ_u8 {P : Program} {n : Nat} {t : TypeId} {l : List AV} (hu : P.underlying t = some (.int .u8)) (h : Typ P n t l) : ∃ m : Int, l = [.sc (.int .u8 m)] ∧ isByte m := by
  obtain ⟨m, e, hw⟩ := typ_int hu h
  obtain ⟨m', e', h0, h1⟩ := typA_int (a := .sc (.int .u8 m)) hu (by unfold TypA; rw [hu]; subst e; exact h)
  cases e'
  exact ⟨m, e, h0, h1⟩
theorem typ_rng {P : Program} {n : Nat} {t : TypeId} {k : IntKind} {l : List AV} (hu : P.underlying t = some (.int k)) (h : Typ P n t l) : ∃ m : Int, l = [.sc (.int k m)] ∧ k.min ≤ m ∧ m ≤ k.max := by
  obtain ⟨m, e, hw⟩ := typ_int hu h
  obtain ⟨m', e', h0, h1⟩ := typA_int (a := .sc (.int k m)) hu (by unfold TypA; rw [hu]; subst e; exact h)
  cases e'
  exact ⟨m, e, h0, h1⟩
theorem typ_bool1 {P : Program} {n : Nat} {t : TypeId} {l : List AV} (hu : P.underlying t = some .bool) (h : Typ P n t l) : ∃ b, l = [.sc (.bool b)] ∧ True := let ⟨b, e⟩ := typ_bool hu h; ⟨b, e, trivial⟩
theorem typ_bytes {P : Program} {n : Nat} {t e : TypeId} {l : List AV} (hu : P.underlying t = some (.slice e)) (he : P.underlying e = some (.int .u8)) (hs : P.cellsOf e = 1) (h : Typ P n t l) : ∃ b : List Int, l = [.vsl (byts b) 1 0 b.length] ∧ b.length ≤ maxLen ∧ ∀ x ∈ b, isByte x := by
  obtain ⟨n', len, cells, rfl, h1, h2, h3⟩ := typ_slice hu 1 hs rfl h
  obtain ⟨b, rfl, rfl, hb⟩ := rows_typ (fun m : Int => [AV.sc (.int .u8 m)]) isByte 1 (fun _ => rfl) len cells h2 fun i hi => typ_u8 he (h3 i hi)
  exact ⟨b, by rw [byts_flat1], h1, hb⟩
theorem typ_strs {P : Program} {n : Nat} {t e : TypeId} {l : List AV} (hu : P.underlying t = some (.slice e)) (he : P.underlying e = some .string) (hs : P.cellsOf e = 1) (h : Typ P n t l) : ∃ b : List ByteArray, l = [.vsl (strs b) 1 0 b.length] ∧ b.length ≤ maxLen ∧ ∀ x ∈ b, x.size ≤ maxLen := by
  obtain ⟨n', len, cells, rfl, h1, h2, h3⟩ := typ_slice hu 1 hs rfl h
  obtain ⟨b, rfl, rfl, hb⟩ := rows_typ (fun m : ByteArray => [AV.sc (.string m)]) (fun m => m.size ≤ maxLen) 1 (fun _ => rfl) len cells h2 fun i hi => typ_string he (h3 i hi)
  exact ⟨b, by rw [strs_flat1], h1, hb⟩
theorem typ_rows {P : Program} {n : Nat} {t e : TypeId} {l : List AV} {α : Type} (f : α → List AV) (ok : α → Prop) (esz : Nat) (hf : ∀ a, (f a).length = esz) (hu : P.underlying t = some (.slice e)) (hs : P.cellsOf e = esz) (h0 : Nat.blt 0 esz = true)
    (hT : ∀ {n : Nat} {l : List AV}, Typ P n e l → ∃ a : α, l = f a ∧ ok a) (h : Typ P n t l) : ∃ b : List α, l = [.vsl (b.flatMap f) esz 0 b.length] ∧ b.length ≤ maxLen ∧ ∀ x ∈ b, ok x := by
  obtain ⟨n', len, cells, rfl, h1, h2, h3⟩ := typ_slice hu esz hs h0 h
  obtain ⟨b, rfl, rfl, hb⟩ := rows_typ f ok esz hf len cells h2 fun i hi => hT (h3 i hi)
  exact ⟨b, rfl, h1, hb⟩
/-- From the type's cells to the argument itself. -/
theorem typA_of {P : Program} {n : Nat} {t : TypeId} {a : AV} {d : TypeDesc} (hu : P.underlying t = some d) (hd : match d with | .struct _ | .array _ _ => False | _ => True) (h : TypA P n t a) : Typ P n t [a] := by
  unfold TypA at h
  rw [hu] at h
  cases d <;> first | exact h | exact hd.elim
theorem typA_agg {P : Program} {n : Nat} {t : TypeId} {a : AV} {fs : Array Field} (hu : P.underlying t = some (.struct fs)) (h : TypA P n t a) : ∃ l, a = .agg l ∧ Typ P n t l := by
  unfold TypA at h
  rw [hu] at h
  exact h
end Go.Proofs.YtdcnpkbflelpfaaDoor.Sx
