/- What a sentence's fields tell. -/
import Derived.Test.YtdkdnhenogdjiaaDoorF
import Derived.Test.YtdkdnhenogdjiaaDoorI
namespace Go.Proofs.YtdkdnhenogdjiaaDoor.Sx
open Go Go.RowKit
attribute [local irreducible] IW AOps AQuiet GQ GY AExec QY Yld ACalls ACallsD
attribute [local irreducible] ByteArray.extract
@[reducible] def ZDA : ByteArray := ⟨#[90, 68, 65]⟩
@[reducible] def RMC : ByteArray := ⟨#[82, 77, 67]⟩
@[reducible] def AAA : ByteArray := ⟨#[65]⟩
def g (f : List ByteArray) (i : Nat) : ByteArray := f.getD i ⟨#[]⟩
theorem g_at {f : List ByteArray} {i : Nat} (h : i < f.length) : f[i]? = some (g f i) := by
  unfold g; rw [List.getD_eq_getElem?_getD, List.getElem?_eq_getElem h]; rfl
theorem ld {f : List ByteArray} (i : Nat) (h : i < f.length) : (strs f)[(0 + Int.toNat (i : Int)) * 1]? = some (AV.sc (.string (g f i))) := by
  rw [show (0 + Int.toNat (i : Int)) * 1 = i by omega]
  simp only [strs, List.getElem?_map, g_at h, Option.map_some]
theorem spl_size : ∀ (n : Nat) (s : ByteArray), s.size ≤ n → ∀ x ∈ spl s, x.size ≤ s.size
  | n, s, hn, x, hx => by
    by_cases h : nlB s < s.size
    · cases n with
      | zero => omega
      | succ n =>
        rw [spl_hit h] at hx
        rcases List.mem_cons.1 hx with rfl | hx
        · rw [ByteArray.size_extract]; omega
        · have hz : (s.extract (nlB s + 1) s.size).size < s.size := by rw [ByteArray.size_extract]; omega
          exact Nat.le_trans (spl_size n _ (by omega) x hx) (by omega)
    · rw [spl_miss h] at hx
      rw [List.mem_singleton.1 hx]
      exact Nat.le_refl _
theorem chkL_size {s : ByteArray} (hs : s.size ≤ 65536) (i : Nat) : (g (chkL s) i).size ≤ 65536 := by
  by_cases h : i < (chkL s).length
  · have hm := List.mem_of_getElem? (g_at h)
    generalize g (chkL s) i = x at hm
    unfold chkL at hm
    split at hm
    · exact Nat.le_trans (spl_size _ _ (Nat.le_refl _) _ hm) (Nat.le_trans (body_le s) hs)
    · cases hm
  · unfold g
    rw [List.getD_eq_getElem?_getD, List.getElem?_eq_none (by omega)]
    exact Nat.zero_le _
theorem chkL_pos {s : ByteArray} (h : chkE s = 0) : 1 ≤ (chkL s).length := by
  unfold chkL; rw [if_pos h, spl_length]; omega
def zda (f : List ByteArray) : Prop := (g f 0).size = 5 ∧ (g f 0).extract 2 (g f 0).size = ZDA ∧ 5 ≤ f.length
def rmc (f : List ByteArray) : Prop := (g f 0).size = 5 ∧ (g f 0).extract 2 (g f 0).size = RMC ∧ 10 ≤ f.length ∧ g f 2 = AAA ∧ (g f 9).size = 6
instance (f : List ByteArray) : Decidable (zda f) := by unfold zda; exact inferInstance
instance (f : List ByteArray) : Decidable (rmc f) := by unfold rmc; exact inferInstance
def badT : AV := .tup [.agg [.sc (.int .i64 0), .sc (.int .u64 0)], .sc (.int .i64 21)]
def yr (v : Int) : Int := if v + 1900 < 1980 then v + 1900 + 100 else v + 1900
def zOk (f : List ByteArray) : Bool := clkOk (g f 1) && okD (g f 2) 2 && okD (g f 3) 2 && okD (g f 4) 4
def rOk (f : List ByteArray) : Bool := clkOk (g f 1) && okD ((g f 9).extract 0 2) 2 && okD ((g f 9).extract 2 4) 2 && okD ((g f 9).extract 4 (g f 9).size) 2
def tmr (f : List ByteArray) : AV :=
  if zda f then (if zOk f = true then toD (wv (g f 4)) (wv (g f 3)) (wv (g f 2)) (wv (cA (g f 1))) (wv (cB (g f 1))) (wv (cC (g f 1))) (frac (g f 1)) else badT)
  else if rmc f then (if rOk f = true then toD (yr (wv ((g f 9).extract 4 (g f 9).size))) (wv ((g f 9).extract 2 4)) (wv ((g f 9).extract 0 2)) (wv (cA (g f 1))) (wv (cB (g f 1))) (wv (cC (g f 1))) (frac (g f 1)) else badT) else badT
def tmS (e : Int) (f : List ByteArray) : AV := if e = 0 then tmr f else .tup [.agg [.sc (.int .i64 0), .sc (.int .u64 0)], .sc (.int .i64 e)]
theorem okD2 {t : ByteArray} (h : okD t 2 = true) : 0 ≤ wv t ∧ wv t ≤ 99 := by
  have hz := okD_size h
  have := wv_lt h (by omega)
  rw [show t.size = 2 by omega] at this
  omega
theorem okD4 {t : ByteArray} (h : okD t 4 = true) : 0 ≤ wv t ∧ wv t ≤ 9999 := by
  have hz := okD_size h
  have := wv_lt h (by omega)
  rw [show t.size = 4 by omega] at this
  omega
theorem clk_le {t : ByteArray} (h : clkOk t = true) : okD (cA t) 2 = true ∧ okD (cB t) 2 = true ∧ okD (cC t) 2 = true ∧ 0 ≤ frac t ∧ frac t ≤ 4294967295 := by
  unfold clkOk at h
  simp only [Bool.and_eq_true, Bool.or_eq_true, decide_eq_true_eq] at h
  obtain ⟨⟨⟨⟨h6, h1⟩, h2⟩, h3⟩, h4⟩ := h
  refine ⟨h1, h2, h3, ?_⟩
  unfold frac
  by_cases h66 : t.size = 6
  · rw [if_pos h66]; omega
  · rw [if_neg h66]
    obtain ⟨⟨⟨_, h8⟩, h13⟩, hO⟩ := h4.resolve_left h66
    have sD : (cD t).size = t.size - 7 := by unfold cD; rw [ByteArray.size_extract]; omega
    have hw := wv_lt hO (by omega)
    rw [sD] at hw
    generalize wv (cD t) = v at hw
    have : t.size - 7 = 1 ∨ t.size - 7 = 2 ∨ t.size - 7 = 3 ∨ t.size - 7 = 4 ∨ t.size - 7 = 5 ∨ t.size - 7 = 6 := by omega
    rcases this with e | e | e | e | e | e <;> (rw [e] at hw ⊢; simp only [Int.reducePow] at hw ⊢; omega)
end Go.Proofs.YtdkdnhenogdjiaaDoor.Sx
