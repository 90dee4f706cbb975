/- Rows of numbers, of truth values. -/
import Derived.Test.YtdcnpkbflelpfaaDoorSx22
namespace Go.Proofs.YtdcnpkbflelpfaaDoor.Sx
open Go Go.RowKit
def nums (l : List Int) : List AV := l.map fun n => .sc (.int .i64 n)
theorem nums_length (l : List Int) : (nums l).length = l.length := by simp [nums]
theorem nums_len1 (l : List Int) : (nums l).length = l.length * 1 := by simp [nums]
theorem nums_snoc (l : List Int) (s : Int) : nums l ++ [.sc (.int .i64 s)] = nums (l ++ [s]) := by simp [nums]
theorem nums_append (l m : List Int) : nums l ++ nums m = nums (l ++ m) := by simp [nums]
theorem nums_flat (l : List Int) : (nums l).all AV.flat = true := by simp [nums, AV.flat]
theorem nums_one (l : List Int) : (nums l).all AV.one = true := by simp [nums, AV.one, Value.oneCell']
theorem nums_at {l : List Int} {i : Nat} {c : Int} (h : l[i]? = some c) : (nums l)[i]? = some (.sc (.int .i64 c)) := by simp [nums, h]
def bools (l : List Bool) : List AV := l.map fun n => .sc (.bool n)
theorem bools_length (l : List Bool) : (bools l).length = l.length := by simp [bools]
theorem bools_at {l : List Bool} {i : Nat} {c : Bool} (h : l[i]? = some c) : (bools l)[i]? = some (.sc (.bool c)) := by simp [bools, h]
theorem sl_more {α : Type} {id : Nat} (l : List α) (x : α) : AV.sl id 0 (l.length + 1) = AV.sl id 0 (l ++ [x]).length := by simp
end Go.Proofs.YtdcnpkbflelpfaaDoor.Sx
