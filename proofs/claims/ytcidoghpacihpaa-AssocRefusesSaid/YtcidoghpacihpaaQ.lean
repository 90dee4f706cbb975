/- What a table keeps. -/
import Derived.Test.YtcidoghpacihpaaP
namespace Go.Proofs.Ytcidoghpacihpaa.Sx
open Go Go.RowKit
attribute [local irreducible] IW AOps AQuiet GQ GY AExec QY Yld ACalls ACallsD
attribute [local irreducible] tvs tcs
theorem addE_free {T : Tb} {a : As} {par : Int} (h : addE T a par = 0) : 0 ≤ free T := by
  unfold addE at h
  split at h
  · cases h
  · split at h
    · cases h
    · split at h
      · cases h
      · omega
theorem ok_add {T : Tb} (h : ok T) (a : As) (par now : Int) : ok (addT T a par now) := by
  unfold addT
  split
  · rename_i he
    have hf := addE_free he
    intro j e hj hT
    unfold upd1 at hT
    split at hT
    · rename_i ej
      cases hT
      show free T + 1 = (j : Int) + 1
      omega
    · exact h j e hj hT
  · exact h
/-- Behind a mobilisation the table is .. -/
def mobT (T : Tb) (act par : Int) (p : S45) (frm now : Int) : Tb := match mob T act par p frm with | .error _ => T | .ok (a, q) => addT T a q now
theorem ok_mob {T : Tb} (h : ok T) (act par : Int) (p : S45) (frm now : Int) : ok (mobT T act par p frm now) := by
  unfold mobT
  split
  · exact h
  · exact ok_add h _ _ _
theorem MobR.th {t : Nat} {T : Tb} {P : Nat → Nat} {S : Hp} {act par : Int} {p : S45} {frm now : Int} {r : AV} {S' : Hp} (h : MobR t T P S act par p frm now r S') : ∃ P' x y, r = .tup [.sc (.int .i64 x), .sc (.int .i64 y)] ∧ Fr S S' (fun i => i = t) ∧ TH t (mobT T act par p frm now) P' S' ∧ ∀ j, P' j = P j ∨ S.nxt ≤ P' j := by
  unfold MobR at h
  cases hm : mob T act par p frm with
  | error c =>
    rw [hm] at h
    obtain ⟨h1, h2, h3⟩ := h
    have e : mobT T act par p frm now = T := by unfold mobT; rw [hm]
    exact ⟨P, _, _, h1, ⟨h2.1, fun i hi _ => h2.2 i hi (by simp)⟩, by rw [e]; exact h3, fun j => .inl rfl⟩
  | ok x =>
    obtain ⟨a, q⟩ := x
    rw [hm] at h
    obtain ⟨S1, h1, h2, h3, P', h4, h5⟩ := h
    have e : mobT T act par p frm now = addT T a q now := by unfold mobT; rw [hm]
    exact ⟨P', _, _, h2, ⟨Nat.le_trans h1.1 h3.1, fun i hi hx => (h3.2 i (Nat.lt_of_lt_of_le hi h1.1) hx).trans (h1.2 i hi (by simp))⟩, by rw [e]; exact h4, fun j => (h5 j).imp id (Nat.le_trans h1.1)⟩
theorem ok_newGo : ∀ {l : List As} {i : Nat} {T T' : Tb}, ok T → newGo l i T = some T' → ok T'
  | [], _, _, _, h, e => by cases e; exact h
  | a :: l, i, T, T', h, e => by
    unfold newGo at e
    split at e
    · cases e
    · refine ok_newGo (fun j x hj hx => ?_) e
      unfold upd1 at hx
      split at hx
      · rename_i ej
        cases hx
        show (i : Int) + 1 = (j : Int) + 1
        omega
      · exact h j x hj hx
theorem ok_new {l : List As} {T : Tb} (h : newT l = .ok T) : ok T := by
  unfold newT at h
  split at h
  · cases h
  · split at h
    · cases h
    · rename_i hg
      cases h
      exact ok_newGo (fun j x _ hx => by cases hx) hg
end Go.Proofs.Ytcidoghpacihpaa.Sx
