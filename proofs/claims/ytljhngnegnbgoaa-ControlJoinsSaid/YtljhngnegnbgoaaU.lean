/- Packets put together: what that is. -/
import Derived.Test.YtljhngnegnbgoaaS
import Derived.Test.YtljhngnegnbgoaaSx37
namespace Go.Proofs.Ytljhngnegnbgoaa.Sx
open Go Go.RowKit
structure JP where
  resp : Bool
  err : Bool
  more : Bool
  op : Int
  seq : Int
  off : Int
  d : List Int
def jbad (l : List JP) (x : JP) : Bool := !x.resp || x.err || (match l.head? with | some y => decide (x.seq ≠ y.seq) || decide (x.op ≠ y.op) | none => false)
def jix (l : List JP) (n : Nat) : Option Nat := l.findIdx? (fun x => decide (x.off = (n : Int)))
def jrun (l : List JP) : Nat → List Int → Option (List Int)
  | 0, _ => none
  | n + 1, out => match jix l out.length with
    | none => none
    | some k => match l[k]? with
      | none => none
      | some x => if x.more then (if x.d.length = 0 then none else jrun l n (out ++ x.d)) else some (out ++ x.d)
def jall (l : List JP) : Option (List Int) := if l.any (jbad l) then none else jrun l (l.length + 1) []
def jcnt (l : List JP) (n : Nat) : Nat := l.countP (fun x => decide ((n : Int) ≤ x.off))
theorem jix_some {l : List JP} {n k : Nat} (h : jix l n = some k) : ∃ x, l[k]? = some x ∧ x.off = n ∧ k < l.length ∧ ∀ j (y : JP), j < k → l[j]? = some y → y.off ≠ n := by
  obtain ⟨hk, h1, h2⟩ := List.findIdx?_eq_some_iff_getElem.1 h
  refine ⟨l[k], List.getElem?_eq_getElem hk, of_decide_eq_true h1, hk, fun j y hj hy => ?_⟩
  have := h2 j hj
  obtain ⟨hjl, rfl⟩ := List.getElem?_eq_some_iff.1 hy
  simpa using this
theorem jix_none {l : List JP} {n : Nat} (h : jix l n = none) : ∀ x ∈ l, x.off ≠ n := fun x hx => by
  have := List.findIdx?_eq_none_iff.1 h x hx
  simpa using this
theorem jcnt_lt {l : List JP} {n m : Nat} {x : JP} (hx : x ∈ l) (h : x.off = n) (hm : n < m) : jcnt l m < jcnt l n := by
  unfold jcnt
  induction l with
  | nil => cases hx
  | cons a l ih =>
    simp only [List.countP_cons]
    have mono : l.countP (fun x => decide ((m : Int) ≤ x.off)) ≤ l.countP (fun x => decide ((n : Int) ≤ x.off)) := by
      refine List.countP_mono_left fun y _ hy => ?_
      simp only [decide_eq_true_eq] at hy ⊢
      omega
    rcases List.mem_cons.1 hx with rfl | hx
    · have : decide ((n : Int) ≤ x.off) = true := by simp [h]
      have h2 : decide ((m : Int) ≤ x.off) = false := by simp [h]; omega
      simp [this, h2]
      omega
    · have := ih hx
      have : (if decide ((m : Int) ≤ a.off) = true then 1 else 0) ≤ (if decide ((n : Int) ≤ a.off) = true then 1 else 0) := by
        simp only [decide_eq_true_eq]
        split <;> split <;> omega
      omega
/-- Of pieces of a text, in whatever order: the text. -/
theorem jrun_pieces (l : List JP) (T : List Int) (p : Nat → JP) (c : Nat) (hc : 0 < c)
    (hin : ∀ x ∈ l, ∃ k, k < c ∧ x = p k) (hall : ∀ k, k < c → p k ∈ l)
    (hoff : ∀ k, k < c → (p k).off = 468 * (k : Int)) (hd : ∀ k, k < c → (p k).d = (T.drop (468 * k)).take 468) (hm : ∀ k, k < c → (p k).more = decide (k + 1 < c))
    (hT : 468 * (c - 1) ≤ T.length) (hT2 : T.length ≤ 468 * c) :
    ∀ (n k : Nat), k < c → c - k ≤ n → jrun l n (T.take (468 * k)) = some T
  | 0, k, hk, hn => by omega
  | n + 1, k, hk, hn => by
    have hlen : (T.take (468 * k)).length = 468 * k := by simp; have : 468 * k ≤ 468 * (c - 1) := Nat.mul_le_mul_left _ (by omega); omega
    unfold jrun
    rw [hlen]
    cases hi : jix l (468 * k) with
    | none => exact absurd (by rw [hoff k hk]; simp) (jix_none hi (p k) (hall k hk))
    | some i =>
      obtain ⟨x, hx, ho, _, _⟩ := jix_some hi
      obtain ⟨k', hk', rfl⟩ := hin x (List.mem_of_getElem? hx)
      rw [hoff k' hk'] at ho
      obtain rfl : k' = k := by omega
      simp only [hx]
      rw [hm k' hk, hd k' hk]
      have happ : T.take (468 * k') ++ (T.drop (468 * k')).take 468 = T.take (468 * (k' + 1)) := by
        rw [show 468 * (k' + 1) = 468 * k' + 468 by omega, List.take_add]
      rw [happ]
      by_cases hlast : k' + 1 < c
      · have : ((T.drop (468 * k')).take 468).length ≠ 0 := by
          have : 468 * (k' + 1) ≤ 468 * (c - 1) := Nat.mul_le_mul_left _ (by omega)
          simp; omega
        simp only [hlast, decide_true, if_true]
        rw [if_neg this]
        exact jrun_pieces l T p c hc hin hall hoff hd hm hT hT2 n (k' + 1) hlast (by omega)
      · simp only [hlast, decide_false, Bool.false_eq_true, if_false]
        rw [List.take_of_length_le (by have : c = k' + 1 := by omega
                                       subst this; exact hT2)]
def JP.cs (x : JP) : List AV := [.opq, .sc (.bool x.resp), .sc (.bool x.err), .sc (.bool x.more), .sc (.int .i64 x.op), .sc (.int .i64 x.seq), .opq, .opq, .sc (.int .i64 x.off), .vsl (byts x.d) 1 0 x.d.length, .opq, .opq]
def jps (l : List JP) : List AV := l.flatMap JP.cs
theorem jps_at {l : List JP} {i : Nat} {x : JP} (h : l[i]? = some x) : ((jps l).drop (i * 12)).take 12 = x.cs := flat_at (f := JP.cs) (fun _ => rfl) h
theorem jps_get {l : List JP} {i : Nat} {x : JP} (h : l[i]? = some x) (j : Nat) (hj : j < 12) : (jps l)[i * 12 + j]? = x.cs[j]? := flat_get (f := JP.cs) (fun _ => rfl) h hj
def JP.ok (x : JP) : Prop := x.d.length ≤ 4096 ∧ (∀ z ∈ x.d, 0 ≤ z ∧ z ≤ 255)
def jres : Option (List Int) → AV
  | none => .tup [.sc (.string .empty), .sc (.bool false)]
  | some o => .tup [.sc (.string (strOf o)), .sc (.bool true)]
theorem jbad_of {l : List JP} {y : JP} (h0 : l[0]? = some y) (x : JP) : jbad l x = (!x.resp || x.err || decide (x.seq ≠ y.seq) || decide (x.op ≠ y.op)) := by
  unfold jbad
  cases l with
  | nil => cases h0
  | cons a r => simp at h0; subst h0; simp [Bool.or_assoc]
theorem jix_take_succ (l : List JP) (i : Nat) (x : JP) (hx : l[i]? = some x) (o : Int) : (l.take (i + 1)).findIdx? (fun y => decide (y.off = o)) = ((l.take i).findIdx? (fun y => decide (y.off = o))).or (if x.off = o then some i else none) := by
  obtain ⟨hi, _⟩ := List.getElem?_eq_some_iff.1 hx
  rw [List.take_add_one, hx, Option.toList_some, List.findIdx?_append]
  congr 1
  rw [List.length_take_of_le (by omega)]
  by_cases h : x.off = o <;> simp [h]
end Go.Proofs.Ytljhngnegnbgoaa.Sx
