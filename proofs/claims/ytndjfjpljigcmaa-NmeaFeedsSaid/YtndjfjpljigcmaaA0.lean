/- What is fed to a line, in plain words. -/
import Derived.Test.YtndjfjpljigcmaaA
namespace Go.Proofs.Ytndjfjpljigcmaa.Sx
open Go Go.RowKit
noncomputable def body9 : Code := match Try.f9.body with | some (.seq _ (.scope b)) => b | _ => .skip
theorem lab9_0 : (findLabel body9 0).isSome = true := by kernel_rfl
theorem lab9_1 : (findLabel body9 1).isSome = true := by kernel_rfl
theorem lab9_2 : (findLabel body9 2).isSome = true := by kernel_rfl
/-- What a line is where a label is come to. -/
def sem (lab : Nat) (p : Ms) : Ms := if lab = 0 then p else if lab = 1 then ⟨false, [], p.lost⟩ else ⟨true, [], p.lost⟩
theorem feed_cons {l : List Int} {i : Nat} {c : Int} (h : l[i]? = some c) (s : Ms) : feedO s (l.drop i) = stepO s c ++ feedO (stepS s c) (l.drop (i + 1)) ∧ feedS s (l.drop i) = feedS (stepS s c) (l.drop (i + 1)) := by
  obtain ⟨hi, e⟩ := List.getElem?_eq_some_iff.1 h
  rw [List.drop_eq_getElem_cons hi, e]
  exact ⟨rfl, rfl⟩
theorem feed_end {l : List Int} {i : Nat} (h : l.length ≤ i) (s : Ms) : feedO s (l.drop i) = [] ∧ feedS s (l.drop i) = s := by
  rw [List.drop_eq_nil_of_le h]
  exact ⟨rfl, rfl⟩
theorem byts_inV {l : List Int} {i : Nat} {c : Int} (h : l[i]? = some c) : (byts l)[(0 + ((i : Int) + 1 - 1).toNat) * 1]? = some (.sc (.int .u8 c)) := by
  have e : (0 + ((i : Int) + 1 - 1).toNat) * 1 = i := by omega
  rw [e]; simp [byts, h]
theorem byts_inO {l : List Int} {i : Nat} {c : Int} (h : l[i]? = some c) (m : List Int) : (byts (l ++ m))[(0 + ((i : Int) + 1 - 1).toNat) * 1]? = some (.sc (.int .u8 c)) := by
  obtain ⟨hi, _⟩ := List.getElem?_eq_some_iff.1 h
  exact byts_inV (by rw [List.getElem?_append_left hi]; exact h)
theorem byts_atV {l : List Int} {i : Nat} {c : Int} (h : l[i]? = some c) : (byts l)[(0 + (i : Int).toNat) * 1]? = some (.sc (.int .u8 c)) := by
  have e : (0 + (i : Int).toNat) * 1 = i := by omega
  rw [e]; simp [byts, h]
theorem byts_atO {l : List Int} {i : Nat} {c : Int} (h : l[i]? = some c) (m : List Int) : (byts (l ++ m))[(0 + (i : Int).toNat) * 1]? = some (.sc (.int .u8 c)) := by
  obtain ⟨hi, _⟩ := List.getElem?_eq_some_iff.1 h
  exact byts_atV (by rw [List.getElem?_append_left hi]; exact h)
theorem sl_snoc {α : Type} {id : Nat} (l : List α) (x : α) : AV.sl id 0 (l.length + 1) = AV.sl id 0 (l ++ [x]).length := by simp
theorem blk_snoc (p : Ms) (c : Int) (j : Nat) : some (⟨[.sc (.bool p.inn), .sl j 0 (p.buf.length + 1), .sc (.int .i64 p.lost)], 3, 37⟩ : Blk) = some ((⟨p.inn, p.buf ++ [c], p.lost⟩ : Ms).blk j) := by simp [Ms.blk]
theorem strOf_dropLast (b : List Int) : strOf b.dropLast = (strOf b).extract 0 (b.length - 1) := by
  apply ByteArray.ext
  apply Array.ext'
  simp [strOf, ByteArray.data_extract, List.dropLast_eq_take, List.map_take]
theorem strOf_last {b : List Int} (hb : ∀ n ∈ b, isByte n) (h : 0 < b.length) : (strOf b).extract (b.length - 1) b.length = ⟨#[13]⟩ ↔ b.getLast? = some 13 := by
  have hne : b ≠ [] := fun e => by rw [e] at h; exact absurd h (Nat.lt_irrefl _)
  have e1 : (strOf b).extract (b.length - 1) b.length = strOf [b.getLast hne] := by
    apply ByteArray.ext
    apply Array.ext'
    simp only [strOf, ByteArray.data_extract, Array.toList_extract, List.extract_eq_take_drop]
    have hd : b.drop (b.length - 1) = [b.getLast hne] := by
      rw [List.drop_eq_getElem_cons (by omega), List.drop_eq_nil_of_le (by omega), List.getLast_eq_getElem]
    rw [← List.map_drop, hd]
    rw [List.take_of_length_le (by simp; omega)]
  rw [e1, List.getLast?_eq_some_getLast hne, Option.some.injEq]
  constructor
  · intro e
    have h13 : strOf [(13 : Int)] = ⟨#[13]⟩ := rfl
    rw [← h13] at e
    have := strOf_inj (fun n hn => by simp at hn; subst hn; exact hb _ (List.getLast_mem hne)) (fun n hn => by simp at hn; subst hn; exact ⟨by decide, by decide⟩) e
    simpa using this
  · intro e
    rw [e]; rfl
theorem trim_eq {b : List Int} (hb : ∀ n ∈ b, isByte n) : (if isEnd (strOf b) ⟨#[13]⟩ = true then (strOf b).extract 0 ((strOf b).size - (⟨#[13]⟩ : ByteArray).size) else strOf b) = strOf (trim b) := by
  have h13 : (⟨#[13]⟩ : ByteArray).size = 1 := rfl
  have hz := strOf_size b
  by_cases h : 0 < b.length
  · have hl := strOf_last hb h
    have hE : isEnd (strOf b) ⟨#[13]⟩ = true ↔ b.getLast? = some 13 := by
      unfold isEnd
      rw [h13, hz, Bool.and_eq_true, decide_eq_true_eq, decide_eq_true_eq, hl]
      exact ⟨fun x => x.2, fun x => ⟨by omega, x⟩⟩
    unfold trim
    by_cases hg : b.getLast? = some 13
    · rw [if_pos (hE.2 hg), if_pos hg, strOf_dropLast, h13, hz]
    · rw [if_neg (mt hE.1 hg), if_neg hg]
  · have : b = [] := List.eq_nil_of_length_eq_zero (by omega)
    subst this
    rfl
theorem sem1 {s : Ms} (h : s.inn = false) (hb : s.buf = []) : sem 1 s = s := by
  cases s
  simp only at h hb
  subst h; subst hb
  rfl
end Go.Proofs.Ytndjfjpljigcmaa.Sx
