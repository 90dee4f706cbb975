/- What is told of a sentence that may be. -/
import Derived.Test.YtndjfjpljigcmaaD
namespace Go.Proofs.Ytndjfjpljigcmaa.Sx
open Go Go.RowKit
theorem step_ok {s : Ms} (h : s.Ok) {c : Int} (hc : isByte c) : (stepS s c).Ok := by
  unfold stepS
  split
  · exact ⟨(fun h => by cases h), Nat.zero_le _, (fun n hn => by cases hn), by dsimp only; have := h.low; split <;> omega⟩
  · split
    · exact h
    · split
      · exact ⟨fun _ => rfl, Nat.zero_le _, (fun n hn => by cases hn), h.low⟩
      · split
        · exact ⟨fun _ => rfl, Nat.zero_le _, (fun n hn => by cases hn), by dsimp only; have := h.low; omega⟩
        · rename_i hb
          have h82 : s.buf.length ≠ 82 := fun e => hb (.inr (.inl e))
          have := h.len
          refine ⟨(fun h => by cases h), by simp only [List.length_append, List.length_singleton]; omega, fun n hn => ?_, h.low⟩
          rcases List.mem_append.1 hn with h' | h'
          · exact h.byt n h'
          · simp at h'; subst h'; exact hc
theorem feed_ok {s : Ms} (h : s.Ok) : ∀ {l : List Int}, (∀ n ∈ l, isByte n) → (feedS s l).Ok := by
  intro l
  induction l generalizing s with
  | nil => exact fun _ => h
  | cons c l ih => exact fun hl => ih (step_ok h (hl c (List.mem_cons_self))) fun n hn => hl n (List.mem_cons_of_mem _ hn)
theorem lost_step (s : Ms) (c : Int) : (stepS s c).lost ≤ s.lost + 1 := by
  unfold stepS
  split
  · dsimp only; split <;> omega
  · split
    · omega
    · split
      · dsimp only; omega
      · split
        · dsimp only; omega
        · dsimp only; omega
theorem lost_feed : ∀ (l : List Int) (s : Ms), (feedS s l).lost ≤ s.lost + l.length
  | [], s => by show s.lost ≤ _; simp
  | c :: l, s => by
    have h1 := lost_feed l (stepS s c)
    have h2 := lost_step s c
    show (feedS (stepS s c) l).lost ≤ _
    simp only [List.length_cons]
    omega
theorem outs_len : ∀ (l : List Int) (s : Ms), (feedO s l).length ≤ l.length
  | [], s => Nat.le_refl _
  | c :: l, s => by
    have h1 := outs_len l (stepS s c)
    have h2 : (stepO s c).length ≤ 1 := by unfold stepO; split <;> simp
    show (stepO s c ++ feedO (stepS s c) l).length ≤ _
    simp only [List.length_append, List.length_cons]
    omega
theorem feedO_append : ∀ (l m : List Int) (s : Ms), feedO s (l ++ m) = feedO s l ++ feedO (feedS s l) m
  | [], _, _ => rfl
  | c :: l, m, s => by
    show stepO s c ++ feedO (stepS s c) (l ++ m) = (stepO s c ++ feedO (stepS s c) l) ++ feedO (feedS (stepS s c) l) m
    rw [feedO_append l m, List.append_assoc]
theorem feedS_append (l m : List Int) (s : Ms) : feedS s (l ++ m) = feedS (feedS s l) m := List.foldl_append
theorem feed_plain : ∀ (l : List Int) (b : List Int) (k : Int), (∀ n ∈ l, 32 ≤ n ∧ n ≤ 126 ∧ n ≠ 36) → b.length + l.length ≤ 81 → ¬ b.getLast? = some 13 → feedO ⟨true, b, k⟩ l = [] ∧ feedS ⟨true, b, k⟩ l = ⟨true, b ++ l, k⟩
  | [], b, k, _, _, _ => ⟨rfl, by show (⟨true, b, k⟩ : Ms) = _; rw [List.append_nil]⟩
  | c :: l, b, k, h, hl, hb => by
    obtain ⟨c1, c2, c3⟩ := h c (List.mem_cons_self)
    simp only [List.length_cons] at hl
    have e1 : stepO ⟨true, b, k⟩ c = [] := if_neg (fun h => by omega)
    have e2 : stepS ⟨true, b, k⟩ c = ⟨true, b ++ [c], k⟩ := by
      unfold stepS
      rw [if_neg c3, if_neg (fun h => by cases h), if_neg (by omega), if_neg]
      rintro (h | h | h)
      · exact hb h
      · dsimp only at h; omega
      · omega
    have ih := feed_plain l (b ++ [c]) k (fun n hn => h n (List.mem_cons_of_mem _ hn)) (by simp only [List.length_append, List.length_singleton]; omega) (by simp; omega)
    show stepO _ c ++ feedO (stepS _ c) l = _ ∧ feedS (stepS _ c) l = _
    rw [e1, e2, ih.1, ih.2, List.append_assoc]
    exact ⟨rfl, rfl⟩
theorem plain_told {s : ByteArray} (h : Plain s) (st : Ms) : feedO st ((([] ++ [36]) ++ ints s) ++ [13, 10]) = [s] := by
  have hl := h.2
  have hz := ints_length s
  have nl : ¬ (ints s).getLast? = some 13 := fun e => by
    have := (h.1 13 (List.mem_of_getLast? e)).1
    omega
  obtain ⟨k, hk⟩ : ∃ k, stepS st 36 = ⟨true, [], k⟩ := ⟨_, if_pos rfl⟩
  have e0 : stepO st 36 = [] := if_neg (fun h => by cases h.2)
  have p := feed_plain (ints s) [] k h.1 (by simp only [List.length_nil]; omega) (by simp)
  rw [List.append_assoc, List.nil_append, List.singleton_append]
  show stepO st 36 ++ feedO (stepS st 36) (ints s ++ [13, 10]) = _
  rw [e0, hk, feedO_append, p.1, p.2, List.nil_append, List.nil_append, List.nil_append]
  have e1 : stepO ⟨true, ints s, k⟩ 13 = [] := if_neg (fun h => by cases h.2)
  have e2 : stepS ⟨true, ints s, k⟩ 13 = ⟨true, ints s ++ [13], k⟩ := by
    unfold stepS
    rw [if_neg (by decide), if_neg (fun h => by cases h), if_neg (by decide), if_neg]
    rintro (h | h | h)
    · exact nl h
    · dsimp only at h; omega
    · exact h.1 rfl
  have e3 : stepO ⟨true, ints s ++ [13], k⟩ 10 = [s] := by
    have : trim (ints s ++ [13]) = ints s := by unfold trim; simp
    show (if true = true ∧ (10 : Int) = 10 then [strOf (trim (ints s ++ [13]))] else []) = _
    rw [if_pos ⟨rfl, rfl⟩, this, strOf_ints]
  show stepO _ 13 ++ (stepO (stepS _ 13) 10 ++ []) = _
  rw [e1, e2, e3]
  rfl
end Go.Proofs.Ytndjfjpljigcmaa.Sx
