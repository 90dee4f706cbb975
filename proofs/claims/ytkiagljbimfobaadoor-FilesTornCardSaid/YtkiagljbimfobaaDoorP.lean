/- What a file of records is behind a crash: some of the last whole records and the beginning of the torn one. -/
import Derived.Test.YtkiagljbimfobaaDoorB
import Derived.Test.YtkiagljbimfobaaDoorC
namespace Go.Proofs.YtkiagljbimfobaaDoor.Sx
open Go Go.RowKit
theorem ba_ext {s t : ByteArray} (h : s.data.toList = t.data.toList) : s = t := by
  obtain ⟨⟨l⟩⟩ := s
  obtain ⟨⟨m⟩⟩ := t
  exact congrArg (fun x => ByteArray.mk (Array.mk x)) h
theorem tl_app (s t : ByteArray) : (s ++ t).data.toList = s.data.toList ++ t.data.toList := by simp [ByteArray.data_append]
theorem tl_ext (s : ByteArray) (i j : Nat) : (s.extract i j).data.toList = (s.data.toList.drop i).take (j - i) := by
  rw [ByteArray.data_extract, Array.toList_extract, List.extract_eq_take_drop]
@[reducible] def LF : ByteArray := ⟨#[10]⟩
theorem app_assoc (a b c : ByteArray) : a ++ b ++ c = a ++ (b ++ c) := ba_ext (by simp only [tl_app, List.append_assoc])
theorem app_nil (a : ByteArray) : a ++ NIL = a := ba_ext (by rw [tl_app]; simp)
theorem nil_app (a : ByteArray) : NIL ++ a = a := ba_ext (by rw [tl_app]; simp)
def joinL : List ByteArray → ByteArray
  | [] => NIL
  | p :: r => p ++ (LF ++ joinL r)
theorem joinL_app : ∀ (l m : List ByteArray), joinL (l ++ m) = joinL l ++ joinL m
  | [], m => (nil_app _).symm
  | p :: r, m => by
    rw [List.cons_append, joinL, joinL, joinL_app r m, app_assoc, app_assoc]
theorem joinL_one (p : ByteArray) : joinL [p] = p ++ LF := by rw [joinL, joinL, app_nil]
theorem nl_noLF {q : ByteArray} (h : noLF q) : ¬ nlB q < q.size := fun hlt => by
  have hi : nlB q < q.data.toList.length := hlt
  have h1 := List.findIdx_getElem (p := (· == (10 : UInt8))) (xs := q.data.toList) (w := hi)
  exact h _ (List.getElem_mem hi) (beq_iff_eq.1 h1)
theorem nl_line {p r : ByteArray} (h : noLF p) : nlB (p ++ (LF ++ r)) = p.size := by
  unfold nlB
  rw [tl_app, tl_app]
  have h0 : ∀ l : List UInt8, (∀ b ∈ l, b ≠ 10) → ∀ t, (l ++ ((10 : UInt8) :: t)).findIdx (· == 10) = l.length := by
    intro l
    induction l with
    | nil => intro _ t; rfl
    | cons b l ih =>
      intro hb t
      rw [List.cons_append, List.findIdx_cons, ih (fun c hc => hb c (List.mem_cons_of_mem _ hc)) t]
      have : (b == (10 : UInt8)) = false := by rw [beq_eq_false_iff_ne]; exact hb b (List.mem_cons_self ..)
      rw [this]; rfl
  exact h0 _ h _
theorem line_size (p r : ByteArray) : (p ++ (LF ++ r)).size = p.size + (1 + r.size) := by
  rw [ByteArray.size_append, ByteArray.size_append]; rfl
theorem line_head (p r : ByteArray) : (p ++ (LF ++ r)).extract 0 p.size = p := ba_ext (by
  rw [tl_ext, tl_app, List.drop_zero, Nat.sub_zero, ← size_eq, List.take_append_of_le_length (Nat.le_refl _), List.take_length])
theorem line_tail (p r : ByteArray) : (p ++ (LF ++ r)).extract (p.size + 1) (p ++ (LF ++ r)).size = r := ba_ext (by
  rw [drop_ext, tl_app, tl_app, ← size_eq, ← List.drop_drop, List.drop_left]
  rfl)
def good (l : List ByteArray) : Prop := ∀ p ∈ l, p.size ≤ 1000 ∧ noLF p
theorem good_drop {l : List ByteArray} (h : good l) (j : Nat) : good (l.drop j) := fun p hp => h p (List.mem_of_mem_drop hp)
theorem join_line (p : ByteArray) (r : List ByteArray) (q : ByteArray) : joinL (p :: r) ++ q = p ++ (LF ++ (joinL r ++ q)) := by
  rw [joinL, app_assoc, app_assoc]
theorem spl_join {q : ByteArray} (hq : noLF q) : ∀ {l : List ByteArray}, good l → spl (joinL l ++ q) = l ++ [q]
  | [], _ => by
    rw [joinL, nil_app, spl_miss (nl_noLF hq)]; rfl
  | p :: r, h => by
    have hp := (h p (List.mem_cons_self ..)).2
    rw [join_line, spl_hit (by rw [nl_line hp, line_size]; omega), nl_line hp, line_head, line_tail, spl_join hq (fun x hx => h x (List.mem_cons_of_mem _ hx)), List.cons_append]
theorem sh_join {q : ByteArray} (hq : q.size ≤ 4096) : ∀ {l : List ByteArray}, good l → ∃ j, j ≤ l.length ∧ sh (joinL l ++ q) = joinL (l.drop j) ++ q ∧ (joinL (l.drop j) ++ q).size ≤ 4096
  | [], _ => ⟨0, Nat.le_refl _, by rw [joinL, nil_app, sh_short (by omega)]; exact (nil_app q).symm, by rw [List.drop_nil, joinL, nil_app]; exact hq⟩
  | p :: r, h => by
    have hp := (h p (List.mem_cons_self ..)).2
    by_cases hs : 4096 < (joinL (p :: r) ++ q).size
    · obtain ⟨j, h1, h2, h3⟩ := sh_join hq (l := r) (fun x hx => h x (List.mem_cons_of_mem _ hx))
      refine ⟨j + 1, by simp; omega, ?_, by rw [List.drop_succ_cons]; exact h3⟩
      rw [List.drop_succ_cons, ← h2]
      rw [join_line] at hs ⊢
      rw [sh_line hs (by rw [nl_line hp, line_size]; omega), nl_line hp, line_tail]
    · exact ⟨0, Nat.zero_le _, sh_short hs, by rw [List.drop_zero]; omega⟩
/-- A text is some of the last of these records. -/
def TailOf (ps : List ByteArray) (s : ByteArray) : Prop := ∃ j, j ≤ ps.length ∧ s = joinL (ps.drop j) ∧ s.size ≤ 4096
theorem tail_nil : TailOf [] NIL := ⟨0, Nat.le_refl _, rfl, Nat.zero_le _⟩
theorem good_snoc {ps : List ByteArray} {p : ByteArray} (h : good ps) (hp : p.size ≤ 1000 ∧ noLF p) : good (ps ++ [p]) := fun x hx => by
  rcases List.mem_append.1 hx with hx | hx
  · exact h x hx
  · rw [List.mem_singleton.1 hx]; exact hp
theorem tail_step {ps : List ByteArray} {s p : ByteArray} (hg : good ps) (h : TailOf ps s) (hp : p.size ≤ 1000 ∧ noLF p) : TailOf (ps ++ [p]) (sh (s ++ (p ++ LF))) := by
  obtain ⟨j, h1, rfl, h3⟩ := h
  obtain ⟨k, k1, k2, k3⟩ := sh_join (q := NIL) (Nat.zero_le _) (l := ps.drop j ++ [p]) (good_snoc (good_drop hg j) hp)
  rw [app_nil] at k2 k3
  rw [joinL_app, joinL_one, app_nil] at k2
  refine ⟨j + k, ?_, ?_, ?_⟩
  · rw [List.length_append, List.length_drop] at k1
    rw [List.length_append]
    simp only [List.length_singleton] at k1 ⊢
    omega
  · rw [k2, ← List.drop_drop, List.drop_append_of_le_length h1]
  · rw [k2]; exact k3
/-- What the law asks of the text behind the crash. -/
structure FinL (ps : List ByteArray) (S : ByteArray) (D : Nat) (lt : ByteArray) (l : List ByteArray) (q : ByteArray) : Prop where
  sz : S.size ≤ 4096
  sp : spl S = l ++ [q]
  hl : l.length ≤ D
  hD : D ≤ ps.length
  hq : q.size < lt.size
  ex : lt.extract 0 q.size = q
  el : ∀ i, i < l.length → ∃ x, l[i]? = some x ∧ ps[D - l.length + i]? = some x
theorem fin_of {ps : List ByteArray} {D j : Nat} {lt q : ByteArray} (hg : good ps) (hD : D ≤ ps.length) (hj : j ≤ D) (hs : (joinL ((ps.take D).drop j) ++ q).size ≤ 4096) (hn : noLF q) (hq : q.size < lt.size) (ex : lt.extract 0 q.size = q) :
    FinL ps (joinL ((ps.take D).drop j) ++ q) D lt ((ps.take D).drop j) q := by
  have hl : ((ps.take D).drop j).length = D - j := by rw [List.length_drop, List.length_take]; omega
  refine ⟨hs, spl_join hn (fun p hp => hg p (List.mem_of_mem_take (List.mem_of_mem_drop hp))), by omega, hD, hq, ex, fun i hi => ?_⟩
  have hi' : j + i < ps.length := by omega
  refine ⟨ps[j + i], ?_, ?_⟩
  · rw [List.getElem?_drop, List.getElem?_take_of_lt (by omega), List.getElem?_eq_getElem hi']
  · rw [hl, show D - (D - j) + i = j + i by omega, List.getElem?_eq_getElem hi']
theorem cut_all {n : Int} {x : ByteArray} (h : (x.size : Int) ≤ n) : cut n x = x := by
  unfold cut
  rw [show (min (max n 0) (x.size : Int)).toNat = x.size by omega]
  exact ba_ext (by rw [tl_ext, List.drop_zero, Nat.sub_zero, ← size_eq, List.take_length])
theorem cut_part {n : Int} {p : ByteArray} (h : n < ((p ++ LF).size : Int)) : ∃ m, m ≤ p.size ∧ cut n (p ++ LF) = p.extract 0 m ∧ (p ++ LF).extract 0 m = p.extract 0 m := by
  have hz : (p ++ LF).size = p.size + 1 := by rw [ByteArray.size_append]; rfl
  rw [hz] at h
  have e : ∀ m, m ≤ p.size → (p ++ LF).extract 0 m = p.extract 0 m := fun m hm => ba_ext (by
    rw [tl_ext, tl_ext, tl_app, List.drop_zero, List.drop_zero, Nat.sub_zero, List.take_append_of_le_length (by rw [size_eq]; exact hm)])
  refine ⟨(min (max n 0) ((p ++ LF).size : Int)).toNat, by rw [hz]; omega, ?_, ?_⟩
  · unfold cut; exact e _ (by rw [hz]; omega)
  · exact e _ (by rw [hz]; omega)
theorem noLF_ext {p : ByteArray} (h : noLF p) (m : Nat) : noLF (p.extract 0 m) := fun b hb => by
  rw [tl_ext] at hb
  exact h b (List.mem_of_mem_drop (List.mem_of_mem_take hb))
/-- Behind the crash. -/
theorem torn_fin {ps : List ByteArray} {p : ByteArray} {W : Option ByteArray} {n : Int} (hg : good (ps ++ [p])) (hW : TailOf ps (W.getD NIL)) (hN : W = none → ps = []) :
    ∃ l q, FinL (ps ++ [p]) ((tore W n (p ++ LF)).getD NIL) (if ((p ++ LF).size : Int) ≤ n then ps.length + 1 else ps.length) (if ((p ++ LF).size : Int) ≤ n then LF else p ++ LF) l q := by
  have hz : (p ++ LF).size = p.size + 1 := by rw [ByteArray.size_append]; rfl
  have hp := hg p (by simp)
  have hgp : good ps := fun x hx => hg x (by simp [hx])
  have hlen : (ps ++ [p]).length = ps.length + 1 := by simp
  by_cases hn : ((p ++ LF).size : Int) ≤ n
  · simp only [if_pos hn]
    have ht : tore W n (p ++ LF) = some (sh (W.getD NIL ++ (p ++ LF))) := by
      rw [tore, if_neg (fun h => by have := h.2; omega), cut_all hn]
    rw [ht, Option.getD_some]
    obtain ⟨j, h1, h2, h3⟩ := tail_step hgp hW hp
    rw [h2] at h3 ⊢
    have e : (ps ++ [p]).take (ps.length + 1) = ps ++ [p] := List.take_of_length_le (by omega)
    have := fin_of (ps := ps ++ [p]) (D := ps.length + 1) (j := j) (lt := LF) (q := NIL) hg (by omega) (by omega) (by rw [e, app_nil]; exact h3) (fun b hb => by cases hb) (by decide) rfl
    rw [e, app_nil] at this
    exact ⟨_, _, this⟩
  · simp only [if_neg hn]
    have e : (ps ++ [p]).take ps.length = ps := by simp
    by_cases h0 : W.isSome = false ∧ n ≤ 0
    · have hps : ps = [] := hN (by cases W with | none => rfl | some s => cases h0.1)
      subst hps
      rw [tore, if_pos h0, Option.getD_none]
      have := fin_of (ps := [] ++ [p]) (D := 0) (j := 0) (lt := p ++ LF) (q := NIL) hg (by omega) (by omega) (Nat.zero_le _) (fun b hb => by cases hb) (by rw [hz]; exact Nat.succ_pos _) (ba_ext (by rw [tl_ext]; rfl))
      exact ⟨_, _, this⟩
    · rw [tore, if_neg h0, Option.getD_some]
      obtain ⟨m, m1, m2, m3⟩ := cut_part (n := n) (p := p) (by omega)
      rw [m2]
      have hqs : (p.extract 0 m).size = m := by rw [ByteArray.size_extract]; omega
      obtain ⟨j, h1, h2, h3⟩ := hW
      rw [h2]
      obtain ⟨k, k1, k2, k3⟩ := sh_join (q := p.extract 0 m) (by rw [hqs]; have := hp.1; omega) (good_drop hgp j)
      rw [k2]
      rw [List.length_drop] at k1
      rw [List.drop_drop] at k3 ⊢
      have := fin_of (ps := ps ++ [p]) (D := ps.length) (j := j + k) (lt := p ++ LF) (q := p.extract 0 m) hg (by omega) (by omega) (by rw [e]; exact k3) (noLF_ext hp.2 m) (by rw [hqs, hz]; omega) (by rw [hqs]; exact m3)
      rw [e] at this
      exact ⟨_, _, this⟩
end Go.Proofs.YtkiagljbimfobaaDoor.Sx
