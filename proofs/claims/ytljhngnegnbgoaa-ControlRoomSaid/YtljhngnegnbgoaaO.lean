/- Arguments opened. -/
import Derived.Test.YtljhngnegnbgoaaT
import Derived.Test.YtljhngnegnbgoaaSx32
import Derived.Test.YtljhngnegnbgoaaD
import Derived.KernelRfl
namespace Go.Proofs.Ytljhngnegnbgoaa.Sx
open Go Go.RowKit
structure S23 where
  f0 : Int
  f1 : Bool
  f2 : Bool
  f3 : Bool
  f4 : Int
  f5 : Int
  f6 : Int
  f7 : Int
  f8 : Int
  f9 : List (Int)
  f10 : Int
  f11 : List (Int)
def S23.cs (x : S23) : List AV := .sc (.int .i64 x.f0) :: .sc (.bool x.f1) :: .sc (.bool x.f2) :: .sc (.bool x.f3) :: .sc (.int .i64 x.f4) :: .sc (.int .i64 x.f5) :: .sc (.int .i64 x.f6) :: .sc (.int .i64 x.f7) :: .sc (.int .i64 x.f8) :: .vsl (byts x.f9) 1 0 x.f9.length :: .sc (.int .i64 x.f10) :: .vsl (byts x.f11) 1 0 x.f11.length :: []
def S23.ok (x : S23) : Prop := (-9223372036854775808 ≤ x.f0 ∧ x.f0 ≤ 9223372036854775807) ∧ True ∧ True ∧ True ∧ (-9223372036854775808 ≤ x.f4 ∧ x.f4 ≤ 9223372036854775807) ∧ (-9223372036854775808 ≤ x.f5 ∧ x.f5 ≤ 9223372036854775807) ∧ (-9223372036854775808 ≤ x.f6 ∧ x.f6 ≤ 9223372036854775807) ∧ (-9223372036854775808 ≤ x.f7 ∧ x.f7 ≤ 9223372036854775807) ∧ (-9223372036854775808 ≤ x.f8 ∧ x.f8 ≤ 9223372036854775807) ∧ (x.f9.length ≤ maxLen ∧ ∀ z4 ∈ x.f9, isByte z4) ∧ (-9223372036854775808 ≤ x.f10 ∧ x.f10 ≤ 9223372036854775807) ∧ (x.f11.length ≤ maxLen ∧ ∀ z5 ∈ x.f11, isByte z5)
theorem typS23_24 {n : Nat} {l : List AV} (h : Typ Try.prog n 24 l) : ∃ x : S23, l = x.cs ∧ x.ok := by
  obtain ⟨n', hl, hf⟩ := typ_struct Try.underlying24 12 (by kernel_rfl) (by kernel_rfl) h
  obtain ⟨x0, e0, o0⟩ := typ_rng Try.underlying3 (hf 0 _ rfl)
  obtain ⟨x1, e1, o1⟩ := typ_bool1 Try.underlying4 (hf 1 _ rfl)
  obtain ⟨x2, e2, o2⟩ := typ_bool1 Try.underlying4 (hf 2 _ rfl)
  obtain ⟨x3, e3, o3⟩ := typ_bool1 Try.underlying4 (hf 3 _ rfl)
  obtain ⟨x4, e4, o4⟩ := typ_rng Try.underlying3 (hf 4 _ rfl)
  obtain ⟨x5, e5, o5⟩ := typ_rng Try.underlying3 (hf 5 _ rfl)
  obtain ⟨x6, e6, o6⟩ := typ_rng Try.underlying3 (hf 6 _ rfl)
  obtain ⟨x7, e7, o7⟩ := typ_rng Try.underlying3 (hf 7 _ rfl)
  obtain ⟨x8, e8, o8⟩ := typ_rng Try.underlying3 (hf 8 _ rfl)
  obtain ⟨x9, e9, o9⟩ := typ_bytes Try.underlying22 Try.underlying5 (by kernel_rfl) (hf 9 _ rfl)
  obtain ⟨x10, e10, o10⟩ := typ_rng Try.underlying3 (hf 10 _ rfl)
  obtain ⟨x11, e11, o11⟩ := typ_bytes Try.underlying22 Try.underlying5 (by kernel_rfl) (hf 11 _ rfl)
  have e : l = _ := (List.drop_zero (l := l)).symm.trans (nextc (o := 0) (s := 1) (o' := 1) (show Try.prog.cellsOf 3 = 1 by kernel_rfl) rfl e0 (nextc (o := 1) (s := 1) (o' := 2) (show Try.prog.cellsOf 4 = 1 by kernel_rfl) rfl e1 (nextc (o := 2) (s := 1) (o' := 3) (show Try.prog.cellsOf 4 = 1 by kernel_rfl) rfl e2 (nextc (o := 3) (s := 1) (o' := 4) (show Try.prog.cellsOf 4 = 1 by kernel_rfl) rfl e3 (nextc (o := 4) (s := 1) (o' := 5) (show Try.prog.cellsOf 3 = 1 by kernel_rfl) rfl e4 (nextc (o := 5) (s := 1) (o' := 6) (show Try.prog.cellsOf 3 = 1 by kernel_rfl) rfl e5 (nextc (o := 6) (s := 1) (o' := 7) (show Try.prog.cellsOf 3 = 1 by kernel_rfl) rfl e6 (nextc (o := 7) (s := 1) (o' := 8) (show Try.prog.cellsOf 3 = 1 by kernel_rfl) rfl e7 (nextc (o := 8) (s := 1) (o' := 9) (show Try.prog.cellsOf 3 = 1 by kernel_rfl) rfl e8 (nextc (o := 9) (s := 1) (o' := 10) (show Try.prog.cellsOf 22 = 1 by kernel_rfl) rfl e9 (nextc (o := 10) (s := 1) (o' := 11) (show Try.prog.cellsOf 3 = 1 by kernel_rfl) rfl e10 (nextc (o := 11) (s := 1) (o' := 12) (show Try.prog.cellsOf 22 = 1 by kernel_rfl) rfl e11 (List.drop_eq_nil_of_le (Nat.le_of_eq hl))))))))))))))
  exact ⟨⟨x0, x1, x2, x3, x4, x5, x6, x7, x8, x9, x10, x11⟩, e, o0, o1, o2, o3, o4, o5, o6, o7, o8, o9, o10, o11⟩
theorem opn24 {n : Nat} {a : AV} (h : TypA Try.prog n 24 a) : ∃ x : S23, a = .agg x.cs ∧ x.ok := by
  obtain ⟨l, rfl, g⟩ := typA_agg Try.underlying24 h
  obtain ⟨x, rfl, o⟩ := typS23_24 g
  exact ⟨x, rfl, o⟩
theorem opn3 {n : Nat} {a : AV} (h : TypA Try.prog n 3 a) : ∃ x : Int, a = .sc (.int .i64 x) ∧ (-9223372036854775808 ≤ x ∧ x ≤ 9223372036854775807) := by
  obtain ⟨x, e, o⟩ := typ_rng Try.underlying3 (typA_of Try.underlying3 trivial h)
  exact ⟨x, (List.cons.inj e).1, o⟩
theorem opn9 {n : Nat} {a : AV} (h : TypA Try.prog n 9 a) : ∃ x : ByteArray, a = .sc (.string x) ∧ x.size ≤ maxLen := by
  obtain ⟨x, e, o⟩ := typ_string Try.underlying9 (typA_of Try.underlying9 trivial h)
  exact ⟨x, (List.cons.inj e).1, o⟩
theorem openQ {n : Nat} {a : AV} (h : TypA Try.prog n 24 a) : ∃ q : Qc, a = .agg q.cs := by
  obtain ⟨x, rfl, _⟩ := opn24 h
  exact ⟨⟨x.f0, x.f1, x.f2, x.f3, x.f4, x.f5, x.f6, x.f7, x.f8, x.f9, x.f10, x.f11⟩, rfl⟩
end Go.Proofs.Ytljhngnegnbgoaa.Sx
