/- Rows of elements of one form. -/
import Derived.Test.YtdcnpkbflelpfaaDoorSx14
namespace Go.Proofs.YtdcnpkbflelpfaaDoor.Sx
open Go Go.RowKit
theorem flat_length {α : Type} {f : α → List AV} {esz : Nat} (hf : ∀ a, (f a).length = esz) : ∀ l : List α, (l.flatMap f).length = l.length * esz
  | [] => by simp
  | a :: l => by rw [List.flatMap_cons, List.length_append, hf, flat_length hf l, List.length_cons, Nat.succ_mul, Nat.add_comm]
theorem flat_drop {α : Type} {f : α → List AV} {esz : Nat} (hf : ∀ a, (f a).length = esz) : ∀ (l : List α) (i : Nat), (l.flatMap f).drop (i * esz) = (l.drop i).flatMap f
  | [], i => by simp
  | a :: l, 0 => by simp
  | a :: l, i + 1 => by
    rw [List.flatMap_cons, List.drop_append, List.drop_eq_nil_of_le (by rw [hf, Nat.succ_mul]; omega), List.nil_append, hf, show (i + 1) * esz - esz = i * esz by rw [Nat.succ_mul]; omega, flat_drop hf l i]
    rfl
theorem flat_at {α : Type} {f : α → List AV} {esz : Nat} (hf : ∀ a, (f a).length = esz) {l : List α} {i : Nat} {a : α} (h : l[i]? = some a) : ((l.flatMap f).drop (i * esz)).take esz = f a := by
  rw [flat_drop hf]
  obtain ⟨hi, e⟩ := List.getElem?_eq_some_iff.1 h
  rw [List.drop_eq_getElem_cons hi, e, List.flatMap_cons, List.take_append_of_le_length (by rw [hf]; exact Nat.le_refl _), List.take_of_length_le (by rw [hf]; exact Nat.le_refl _)]
theorem flat_get {α : Type} {f : α → List AV} {esz : Nat} (hf : ∀ a, (f a).length = esz) {l : List α} {i j : Nat} {a : α} (h : l[i]? = some a) (hj : j < esz) : (l.flatMap f)[i * esz + j]? = (f a)[j]? := by
  rw [← List.getElem?_drop, flat_drop hf]
  obtain ⟨hi, e⟩ := List.getElem?_eq_some_iff.1 h
  rw [List.drop_eq_getElem_cons hi, e, List.flatMap_cons, List.getElem?_append_left (by rw [hf]; exact hj)]
theorem rows_of {α : Type} (f : α → List AV) (esz : Nat) (hf : ∀ a, (f a).length = esz) : ∀ (len : Nat) (cells : List AV), cells.length = len * esz → (∀ i, i < len → ∃ a, (cells.drop (i * esz)).take esz = f a) → ∃ l : List α, l.length = len ∧ cells = l.flatMap f
  | 0, cells, h, _ => ⟨[], rfl, List.length_eq_zero_iff.1 (by simpa using h)⟩
  | len + 1, cells, h, ha => by
    obtain ⟨a, e⟩ := ha 0 (by omega)
    rw [Nat.succ_mul] at h
    simp only [Nat.zero_mul, List.drop_zero] at e
    obtain ⟨l, h1, h2⟩ := rows_of f esz hf len (cells.drop esz) (by simp; omega) (fun i hi => by
      obtain ⟨b, eb⟩ := ha (i + 1) (by omega)
      exact ⟨b, by rw [List.drop_drop, ← eb, Nat.succ_mul, Nat.add_comm]⟩)
    exact ⟨a :: l, by simp [h1], by rw [List.flatMap_cons, ← h2, ← e, List.take_append_drop]⟩
end Go.Proofs.YtdcnpkbflelpfaaDoor.Sx
