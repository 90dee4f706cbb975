/- What a route tells. -/
import Derived.Test.YtcidoghpacihpaaQ
namespace Go.Proofs.Ytcidoghpacihpaa.Sx
open Go Go.RowKit
attribute [local irreducible] IW AOps AQuiet GQ GY AExec QY Yld ACalls ACallsD
attribute [local irreducible] tvs tcs
theorem disp_kind {k m : Int} (h : disp k m = 2) : k ≠ 0 := by
  rw [disp_if] at h
  rintro rfl
  revert h
  repeat' split
  all_goals first | (intro h; cases h; done) | (intro h; omega)
theorem disp_mode {k m : Int} (h : disp k m = 1) : m = 3 := by
  rw [disp_if] at h
  revert h
  repeat' split
  all_goals first | (intro h; cases h; done) | (intro h; assumption)
theorem disp_zero {k m : Int} (h : disp k m = 3 ∨ disp k m = 4 ∨ disp k m = 5) : k = 0 := by
  rw [disp_if] at h
  revert h
  repeat' split
  all_goals intro h; omega
def Rt (T : Tb) (mode frm flags : Int) (auth : Bool) (v : Int × Int) : Prop :=
  v = (0, 0) ∨ ((v = (1, 0) ∨ v = (6, 0)) ∧ fb flags 1 = 0 ∧ nob frm = false ∧ mode = 3)
  ∨ (∃ id e, v = (2, id) ∧ get T id = some e ∧ clk e.a = false ∧ e.a.addr = frm ∧ disp e.a.kind mode = 2)
  ∨ ((v = (3, 0) ∨ v = (4, 0)) ∧ clo T flags auth = false ∧ unk T frm = true)
  ∨ (∃ id e, v = (5, id) ∧ get T id = some e ∧ srch e.a = true ∧ clo T flags auth = false ∧ unk T frm = true)
theorem unk_of {T : Tb} {frm : Int} (h : kindOf T (find1 T frm) = 0) : unk T frm = true := by
  unfold unk
  unfold kindOf at h
  cases hg : get T (find1 T frm) with
  | none => rfl
  | some e =>
    rw [hg] at h
    exact decide_eq_true h
theorem route_cases (T : Tb) (lis mlt : Bool) (mode frm to flags : Int) (auth : Bool) : Rt T mode frm flags auth (routeV T lis mlt mode frm to flags auth) := by
  unfold routeV routeA Rt
  split
  · rename_i h
    right; right; left
    rcases find1_cases T frm with h0 | ⟨i, e, h1, h2, h3, h4, h5, h6⟩
    · rw [h0] at h
      exact absurd rfl (disp_kind (k := kindOf T 0) h)
    · refine ⟨_, e, rfl, h6, h4, h5, ?_⟩
      unfold kindOf at h
      rw [h6] at h
      exact h
  · split
    · rename_i h
      simp only [b9, Bool.and_eq_true, beq_iff_eq, Bool.not_eq_true'] at h
      exact .inr (.inl ⟨.inl rfl, h.1.1.2, h.1.2, disp_mode h.1.1.1⟩)
    · split
      · rename_i h
        simp only [b11, Bool.and_eq_true, beq_iff_eq, Bool.not_eq_true'] at h
        exact .inr (.inl ⟨.inr rfl, h.1.1.2, h.1.2, disp_mode h.1.1.1⟩)
      · split
        · exact .inl rfl
        · rename_i hc
          have hc : clo T flags auth = false := by simpa using hc
          split
          · rename_i h
            simp only [b14, Bool.and_eq_true, beq_iff_eq] at h
            exact .inr (.inr (.inr (.inl ⟨.inl rfl, hc, unk_of (disp_zero (.inl h.1))⟩)))
          · split
            · rename_i h
              simp only [b16, Bool.and_eq_true, beq_iff_eq] at h
              exact .inr (.inr (.inr (.inl ⟨.inr rfl, hc, unk_of (disp_zero (.inr (.inl h.1)))⟩)))
            · split
              · rename_i h
                split
                · rename_i hf
                  right; right; right; right
                  unfold fndS at hf ⊢
                  rcases fst_cases (hasP T fun e => srch e.a) 16 with ⟨h1, _⟩ | ⟨i, h1, h2, h3, _⟩
                  · omega
                  · unfold hasP at h3
                    split at h3
                    · cases h3
                    · rename_i e he
                      refine ⟨_, e, rfl, ?_, h3, hc, unk_of (disp_zero (.inr (.inr h)))⟩
                      rw [h1]
                      unfold get
                      rw [if_pos (by omega), show ((i : Int) + 1 - 1).toNat = i by omega, he]
                · exact .inl rfl
              · exact .inl rfl
theorem exVL_app : ∀ {a b : List AV}, (∃ l, exVL a = some l) → (∃ l, exVL b = some l) → ∃ l, exVL (a ++ b) = some l
  | [], b, _, h => h
  | x :: a, b, ⟨l, hl⟩, hb => by
    unfold exVL at hl
    cases hx : x.exV with
    | none => rw [hx] at hl; cases hl
    | some v =>
      cases hr : exVL a with
      | none => rw [hx, hr] at hl; cases hl
      | some r =>
        obtain ⟨q, hq⟩ := exVL_app (a := a) ⟨r, hr⟩ hb
        exact ⟨v :: q, by show exVL (x :: (a ++ b)) = _; unfold exVL; rw [hx, hq]⟩
theorem exVL_ens : ∀ l : List Ro, ∃ q, exVL (ens l) = some q
  | [] => ⟨[], rfl⟩
  | e :: l => by
    have h : ens (e :: l) = e.en ++ ens l := rfl
    rw [h]
    exact exVL_app ⟨_, rfl⟩ (exVL_ens l)
theorem rows_lt {T : Tb} {i : Nat} (hi : T i = none) : ∀ n, i < n → (rows T n).length < n
  | 0, h => by omega
  | n + 1, h => by
    show (rows T n ++ (T n).toList).length < _
    rw [List.length_append]
    by_cases e : i = n
    · subst e
      rw [hi]
      have := rows_le T i
      simp only [Option.toList_none, List.length_nil]
      omega
    · have h1 := rows_lt hi n (by omega)
      have : (T n).toList.length ≤ 1 := by cases T n <;> simp
      omega
theorem rows_free {T : Tb} (h : ¬ free T < 0) : (rows T 16).length < 16 := by
  unfold free at h
  rcases fst_cases (isNone T) 16 with ⟨h1, _⟩ | ⟨i, h1, h2, h3, _⟩
  · omega
  · exact rows_lt (by unfold isNone at h3; simpa using h3) 16 h2
theorem clo_false {T : Tb} {flags : Int} {auth : Bool} (h : clo T flags auth = false) : fb flags 8 = 0 ∧ (fb flags 16 = 0 ∨ auth = true) ∧ (rows T 16).length < 16 := by
  unfold clo at h
  simp only [Bool.or_eq_false_iff, Bool.and_eq_false_iff, decide_eq_false_iff_not, bne_eq_false_iff_eq, Bool.not_eq_false'] at h
  exact ⟨h.1.1, h.1.2, rows_free h.2⟩
end Go.Proofs.Ytcidoghpacihpaa.Sx
