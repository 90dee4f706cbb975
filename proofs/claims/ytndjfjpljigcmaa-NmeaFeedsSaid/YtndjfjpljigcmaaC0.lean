/- The document's line, in plain words. -/
import Derived.Test.YtndjfjpljigcmaaA0
namespace Go.Proofs.Ytndjfjpljigcmaa.Sx
open Go Go.RowKit
def Ms.dblk (s : Ms) : Blk := ⟨[.sc (.bool s.inn), .sc (.string (strOf s.buf)), .sc (.int .i64 s.lost)], 3, 33⟩
theorem bt_strOf {b : List Int} (hb : ∀ n ∈ b, isByte n) {i : Nat} (h : i < b.length) : bt (strOf b) i = b[i] := by
  unfold bt
  have e : ((i : Int)).toNat = i := by omega
  rw [e]
  simp only [strOf, List.getD_eq_getElem?_getD, List.getElem?_map, List.getElem?_eq_getElem h, Option.map_some, Option.getD_some]
  exact byte_back (hb _ (List.getElem_mem h))
theorem late_iff {b : List Int} (hb : ∀ n ∈ b, isByte n) (h : 0 < b.length) : bt (strOf b) (((strOf b).size : Int) - 1) = 13 ↔ b.getLast? = some 13 := by
  have e : ((strOf b).size : Int) - 1 = ((b.length - 1 : Nat) : Int) := by rw [strOf_size]; omega
  rw [e, bt_strOf hb (by omega), last_at h, Option.some.injEq]
theorem dblk_snoc (p : Ms) (c : Int) : some (⟨[.sc (.bool p.inn), .sc (.string (strOf p.buf ++ strOf [c])), .sc (.int .i64 p.lost)], 3, 33⟩ : Blk) = some ((⟨p.inn, p.buf ++ [c], p.lost⟩ : Ms).dblk) := by unfold Ms.dblk; rw [strOf_append]
theorem trim_cut {b : List Int} (h : b.getLast? = some 13) : (strOf b).extract 0 (((strOf b).size : Int) - 1).toNat = strOf (trim b) := by
  have e : (((strOf b).size : Int) - 1).toNat = b.length - 1 := by rw [strOf_size]; omega
  unfold trim
  rw [e, if_pos h, strOf_dropLast]
theorem trim_same {b : List Int} (h : ¬ b.getLast? = some 13) : strOf b = strOf (trim b) := by unfold trim; rw [if_neg h]
end Go.Proofs.Ytndjfjpljigcmaa.Sx
