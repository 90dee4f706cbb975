/- The document's table is the program's. The document's table of a configuration. Both tables, side by side. What is done to both tables keeps them alike. -/
import Derived.Test.YtcidoghpacihpaaAB
import Derived.Test.YtcidoghpacihpaaAR
namespace Go.Proofs.Ytcidoghpacihpaa.Sx
open Go Go.RowKit
attribute [local irreducible] tvs tcs
theorem findA {T : Tb} {p : Ro → Bool} : ∀ n, (rows T n).find? p = if fst (hasP T p) n < 0 then none else T (fst (hasP T p) n).toNat
  | 0 => by rw [rows0]; rfl
  | n + 1 => by
    have ih := findA (T := T) (p := p) n
    rw [rows_succ, List.find?_append, ih]
    rcases fst_cases (hasP T p) n with ⟨h1, h2⟩ | ⟨i, h1, h2, h3, h4⟩
    · rw [h1, if_pos (by omega)]
      by_cases hp : hasP T p n = true
      · rw [fst_hit (i := n) hp h2 (by omega), if_neg (by omega), Int.toNat_natCast]
        unfold hasP at hp
        cases hT : T n with
        | none => rw [hT] at hp; cases hp
        | some e =>
          rw [hT] at hp
          simp [hp]
      · have hp : hasP T p n = false := Bool.eq_false_iff.2 hp
        rw [fst_none (stepF h2 hp), if_pos (by omega)]
        unfold hasP at hp
        cases hT : T n with
        | none => rfl
        | some e =>
          rw [hT] at hp
          simp [hp]
    · rw [h1, if_neg (by omega), fst_hit (i := i) h3 h4 (by omega), if_neg (by omega), Int.toNat_natCast]
      unfold hasP at h3
      cases hT : T i with
      | none => rw [hT] at h3; cases h3
      | some e => rfl
theorem findB (l : List Ro) (p : Ro → Bool) : l.find? p = if fst (lp l p) l.length < 0 then none else l[(fst (lp l p) l.length).toNat]? := by
  rcases fst_cases (lp l p) l.length with ⟨h1, h2⟩ | ⟨i, h1, h2, h3, h4⟩
  · rw [h1, if_pos (by omega), List.find?_eq_none]
    intro e he
    obtain ⟨q, hq, e'⟩ := List.getElem_of_mem he
    have := h2 q hq
    rw [lp_at (by rw [List.getElem?_eq_getElem hq, e'])] at this
    rw [this]
    decide
  · rw [h1, if_neg (by omega), Int.toNat_natCast]
    obtain ⟨e, he⟩ : ∃ e, l[i]? = some e := ⟨_, List.getElem?_eq_getElem h2⟩
    rw [he, List.find?_eq_some_iff_getElem]
    rw [lp_at he] at h3
    refine ⟨h3, i, h2, by rw [List.getElem?_eq_getElem h2] at he; exact Option.some.inj he, fun j hj => ?_⟩
    have := h4 j hj
    rw [lp_at (List.getElem?_eq_getElem (by omega))] at this
    rw [this]
    rfl
theorem fst_iff (T : Tb) (p : Ro → Bool) : (0 ≤ fst (hasP T p) 16) ↔ 0 ≤ fst (lp (rows T 16) p) (rows T 16).length := by
  have h1 := findA (T := T) (p := p) 16
  have h2 := findB (rows T 16) p
  rw [h1] at h2
  rcases fst_cases (hasP T p) 16 with ⟨a1, _⟩ | ⟨i, a1, a2, a3, _⟩ <;> rcases fst_cases (lp (rows T 16) p) (rows T 16).length with ⟨b1, _⟩ | ⟨j, b1, b2, b3, _⟩
  · omega
  · rw [a1, b1, if_pos (by omega), if_neg (by omega), Int.toNat_natCast, List.getElem?_eq_getElem b2] at h2
    cases h2
  · rw [a1, b1, if_neg (by omega), if_pos (by omega), Int.toNat_natCast] at h2
    unfold hasP at a3
    rw [h2] at a3
    cases a3
  · omega
theorem taken_L (T : Tb) (a : As) : taken T a = clL (rows T 16) a := decide_eq_decide.2 (fst_iff T _)
theorem getLr_find (l : List Ro) (id : Int) : getLr l id = l.find? (idp id) := (findB l (idp id)).symm
theorem get_L {T : Tb} (h : ok T) (id : Int) : get T id = getLr (rows T 16) id := by
  rw [getLr_find]
  rcases fst_cases (hasP T (idp id)) 16 with ⟨a1, a2⟩ | ⟨i, a1, a2, a3, _⟩
  · have hn : (rows T 16).find? (idp id) = none := by rw [findA, a1]; rfl
    rw [hn]
    unfold get
    split
    · have := a2 (id - 1).toNat (by omega)
      unfold hasP at this
      cases hT : T (id - 1).toNat with
      | none => rfl
      | some e =>
        rw [hT] at this
        have he := h _ e (by omega) hT
        have : ¬ e.id = id := of_decide_eq_false this
        exact absurd (by omega) this
    · rfl
  · have hs : (rows T 16).find? (idp id) = T i := by rw [findA, a1, if_neg (by omega), Int.toNat_natCast]
    rw [hs]
    unfold hasP at a3
    cases hT : T i with
    | none => rw [hT] at a3; cases a3
    | some e =>
      rw [hT] at a3
      have he := h i e a2 hT
      have hid : e.id = id := of_decide_eq_true a3
      unfold get
      rw [if_pos (by omega), show (id - 1).toNat = i by omega, hT]
theorem find_L {T : Tb} (h : ok T) (addr : Int) : find1 T addr = findL (rows T 16) addr := by
  have h1 := findA (T := T) (p := findP addr) 16
  have h2 := findB (rows T 16) (findP addr)
  have h3 := fst_iff T (findP addr)
  rw [h1] at h2
  unfold find1 findL pickId
  rcases fst_cases (hasP T (findP addr)) 16 with ⟨a1, _⟩ | ⟨i, a1, a2, a3, _⟩
  · rw [if_pos (by omega), a1]
    rfl
  · rw [if_neg (by omega)]
    rw [a1, if_neg (by omega), if_neg (by omega), Int.toNat_natCast] at h2
    rw [← h2, a1]
    unfold hasP at a3
    cases hT : T i with
    | none => rw [hT] at a3; cases a3
    | some e =>
      have := h i e a2 hT
      show (i : Int) + 1 = e.id
      omega
theorem kind_L {T : Tb} (h : ok T) (id : Int) : kindOf T id = kindL (rows T 16) id := by
  unfold kindOf kindL
  rw [get_L h]
  unfold getLr
  split
  · split <;> rename_i hq <;> first | (simp_all; done) | rfl
  · split <;> rename_i hq <;> simp_all
theorem rows_full {T : Tb} : ∀ n, (∀ j, j < n → (T j).isSome = true) → (rows T n).length = n
  | 0, _ => rfl
  | n + 1, h => by
    rw [rows_succ, List.length_append, rows_full n fun j hj => h j (by omega)]
    have := h n (by omega)
    cases hT : T n with
    | none => rw [hT] at this; cases this
    | some e => rfl
theorem free_L (T : Tb) : free T < 0 ↔ 16 ≤ (rows T 16).length := by
  constructor
  · intro h
    unfold free at h
    rcases fst_cases (isNone T) 16 with ⟨_, h2⟩ | ⟨i, h1, _⟩
    · rw [rows_full 16 fun j hj => by
        have := h2 j hj
        unfold isNone at this
        cases hT : T j with
        | none => rw [hT] at this; cases this
        | some _ => rfl]
      exact Nat.le_refl _
    · omega
  · intro h
    exact Decidable.byContradiction fun hn => by
      have := rows_free (T := T) hn
      omega
theorem freeId_L {T : Tb} (h : ok T) (hl : (rows T 16).length < 16) : FreeId (rows T 16) (free T + 1) := by
  have hf : 0 ≤ free T := by
    have := mt (free_L T).1 (by omega)
    omega
  obtain ⟨i, h1, h2, h3⟩ := free_at hf
  have hat : ∀ m, 0 ≤ atL (rows T 16) m ↔ (get T m).isSome = true := fun m => by
    rw [get_L h, getLr]
    rcases atL_cases (rows T 16) m with ⟨a, _⟩ | ⟨q, e, a, _, b, _⟩
    · rw [a, if_pos (by omega)]
      simp
    · rw [a, if_neg (by omega), Int.toNat_natCast, b]
      simp
  refine ⟨by omega, by omega, ?_, fun m m1 m2 => ?_⟩
  · have := mt (hat (free T + 1)).1 (by
      unfold get
      rw [if_pos (by omega), show (free T + 1 - 1).toNat = i by omega, h3]
      decide)
    omega
  · rw [hat]
    unfold get
    rw [if_pos (by omega)]
    have hfr : free T = fst (isNone T) 16 := rfl
    rcases fst_cases (isNone T) 16 with ⟨b1, _⟩ | ⟨q, b1, b2, b3, b4⟩
    · omega
    · have := b4 (m - 1).toNat (by omega)
      unfold isNone at this
      cases hT : T (m - 1).toNat with
      | none => rw [hT] at this; cases this
      | some _ => rfl
theorem addE_L {T : Tb} (h : ok T) (a : As) (par : Int) : addE T a par = addEL (rows T 16) a par := by
  unfold addE addEL
  have h1 : (get T par = none) ↔ atL (rows T 16) par < 0 := by
    rw [get_L h, getLr]
    rcases atL_cases (rows T 16) par with ⟨x, _⟩ | ⟨q, e, x, _, y, _⟩
    · rw [x, if_pos (by omega)]
      simp
    · rw [x, if_neg (by omega), Int.toNat_natCast, y]
      simp
  simp only [h1, taken_L, free_L]
theorem rows_ins {T : Tb} (h : ok T) {i : Nat} {x : Ro} (hT : T i = none) : ∀ n, n ≤ 16 → i < n → rows (upd1 T i (some x)) n = ((rows T n).filter (ltF ((i : Int) + 1)) ++ [x]) ++ (rows T n).filter (gtF ((i : Int) + 1))
  | 0, _, hi => by omega
  | n + 1, hn, hi => by
    rw [rows_succ, rows_succ, List.filter_append, List.filter_append]
    by_cases e : i = n
    · subst e
      have h1 : (rows T i).filter (ltF ((i : Int) + 1)) = rows T i := List.filter_eq_self.2 fun y hy => by
        have := rows_id h (n := i) (by omega) hy
        exact decide_eq_true (by omega)
      have h2 : (rows T i).filter (gtF ((i : Int) + 1)) = [] := List.filter_eq_nil_iff.2 fun y hy => by
        have := rows_id h (n := i) (by omega) hy
        unfold gtF
        simp
        omega
      rw [h1, h2, hT, rows_cong (T' := T) fun j hj => by unfold upd1; rw [if_neg (by omega)]]
      unfold upd1
      rw [if_pos rfl]
      simp
    · rw [rows_ins h hT n (by omega) (by omega)]
      unfold upd1
      rw [if_neg (by omega)]
      cases hTn : T n with
      | none => simp
      | some y =>
        have hy := h n y (by omega) hTn
        have h1 : ltF ((i : Int) + 1) y = false := decide_eq_false (by omega)
        have h2 : gtF ((i : Int) + 1) y = true := decide_eq_true (by omega)
        simp [h1, h2]
theorem addT_L {T : Tb} (h : ok T) {a : As} {par now : Int} (he : addE T a par = 0) : rows (addT T a par now) 16 = addL (rows T 16) (free T + 1) a par now := by
  obtain ⟨i, h1, h2, h3⟩ := free_at (addE_free he)
  have hT : addT T a par now = upd1 T i (some (addN T a par now)) := by unfold addT; rw [if_pos he, h1, Int.toNat_natCast]
  rw [hT, rows_ins h h3 16 (Nat.le_refl _) h2]
  unfold addL
  rw [h1]
  have : addN T a par now = newR ((i : Int) + 1) a par now := by unfold addN newR; rw [h1]
  rw [this]
theorem del_L {T : Tb} {G : Nat → Bool} {L : List Int} : ∀ n, (∀ j e, j < n → T j = some e → (G j = true ↔ e.id ∈ L)) → rows (delT T G) n = rest (rows T n) L ∧ dids T G n = gone (rows T n) L
  | 0, _ => ⟨rfl, rfl⟩
  | n + 1, h => by
    obtain ⟨h1, h2⟩ := del_L (T := T) (G := G) (L := L) n fun j e hj => h j e (by omega)
    have hd : dids T G (n + 1) = dids T G n ++ (match T n with | none => [] | some e => if G n then [e.id] else []) := rfl
    rw [rows_succ, rows_succ, hd, h1, h2]
    unfold rest gone
    rw [List.filter_append, List.filter_append, List.map_append]
    unfold delT
    cases hT : T n with
    | none => cases G n <;> simp
    | some e =>
      have hg := h n e (by omega) hT
      cases hG : G n with
      | true =>
        have hm := hg.1 hG
        simp [hm]
      | false =>
        have hm : e.id ∉ L := fun hm => by
          have := hg.2 hm
          rw [hG] at this
          cases this
        simp [hm]
theorem rows_pw' {T : Tb} (ho : ok T) : ∀ n, n ≤ 16 → List.Pairwise (fun a b => a.id < b.id) (rows T n)
  | 0, _ => by rw [rows0]; exact List.Pairwise.nil
  | n + 1, h => by
    rw [rows_succ, List.pairwise_append]
    refine ⟨rows_pw' ho n (by omega), ?_, fun a ha b hb => ?_⟩
    · cases T n <;> simp
    · have hb : T n = some b := by simpa using hb
      have h1 := rows_id ho (n := n) (by omega) ha
      have h2 := ho n b (by omega) hb
      omega
theorem set_map {T : Tb} (h : ok T) (id : Int) (f : Ro → Ro) : ∀ n, n ≤ 16 → rows (setT T id f) n = (rows T n).map fun e => if e.id = id then f e else e
  | 0, _ => rfl
  | n + 1, hn => by
    rw [rows_succ, rows_succ, List.map_append, set_map h id f n (by omega)]
    congr 1
    unfold setT
    cases hT : T n with
    | none => split <;> rfl
    | some e =>
      have he := h n e (by omega) hT
      by_cases hid : e.id = id
      · rw [if_pos ⟨by omega, by omega, by omega⟩]
        simp [hid]
      · rw [if_neg (by omega)]
        simp [hid]
theorem map_set {l : List Ro} (hp : l.Pairwise fun a b => a.id < b.id) {i : Nat} {e : Ro} {id : Int} (f : Ro → Ro) (h : l[i]? = some e) (hid : e.id = id) : (l.map fun e => if e.id = id then f e else e) = l.set i (f e) := by
  refine List.ext_getElem? fun j => ?_
  obtain ⟨hi, he⟩ := List.getElem?_eq_some_iff.1 h
  rw [List.getElem?_map, List.getElem?_set]
  by_cases ej : i = j
  · subst ej
    rw [if_pos rfl, if_pos hi, h]
    show some (if e.id = id then f e else e) = _
    rw [if_pos hid]
  · rw [if_neg ej]
    cases hj : l[j]? with
    | none => rfl
    | some x =>
      obtain ⟨hjl, hx⟩ := List.getElem?_eq_some_iff.1 hj
      have hne : x.id ≠ id := by
        rw [List.pairwise_iff_getElem] at hp
        by_cases hlt : i < j
        · have := hp i j hi hjl hlt
          rw [he, hx] at this
          omega
        · have := hp j i hjl hi (by omega)
          rw [he, hx] at this
          omega
      show some (if x.id = id then f x else x) = _
      rw [if_neg hne]
theorem set_L {T : Tb} (h : ok T) {id : Int} (f : Ro → Ro) : (atL (rows T 16) id < 0 → rows (setT T id f) 16 = rows T 16) ∧ ∀ (i : Nat) e, (rows T 16)[i]? = some e → e.id = id → rows (setT T id f) 16 = (rows T 16).set i (f e) := by
  refine ⟨fun ha => ?_, fun i e hi hid => ?_⟩
  · rw [set_map h id f 16 (Nat.le_refl _)]
    rcases atL_cases (rows T 16) id with ⟨_, hn⟩ | ⟨i, e, h1, _⟩
    · refine (List.map_congr_left fun x hx => ?_).trans (List.map_id _)
      obtain ⟨q, hq, e'⟩ := List.getElem_of_mem hx
      rw [if_neg (hn q x (by rw [List.getElem?_eq_getElem hq, e']))]
      rfl
    · omega
  · rw [set_map h id f 16 (Nat.le_refl _), map_set (rows_pw' h 16 (Nat.le_refl _)) f hi hid]
theorem setOk {T : Tb} (h : ok T) (id : Int) {f : Ro → Ro} (hf : ∀ e, (f e).id = e.id) : ok (setT T id f) := fun j e hj hT => by
  unfold setT at hT
  split at hT
  · cases hT' : T j with
    | none => rw [hT'] at hT; cases hT
    | some x =>
      rw [hT'] at hT
      cases hT
      rw [hf]
      exact h j x hj hT'
  · exact h j e hj hT
theorem pick_L {T : Tb} (h : ok T) (p : Ro → Bool) (hp : 0 ≤ fst (hasP T p) 16) : fst (hasP T p) 16 + 1 = pickId (rows T 16) (fst (lp (rows T 16) p) (rows T 16).length) := by
  have h1 := findA (T := T) (p := p) 16
  have h2 := findB (rows T 16) p
  have h3 := fst_iff T p
  rw [h1] at h2
  unfold pickId
  rcases fst_cases (hasP T p) 16 with ⟨a1, _⟩ | ⟨i, a1, a2, a3, _⟩
  · omega
  · rw [if_neg (by omega)]
    rw [a1, if_neg (by omega), if_neg (by omega), Int.toNat_natCast] at h2
    rw [← h2, a1]
    unfold hasP at a3
    cases hT : T i with
    | none => rw [hT] at a3; cases a3
    | some e =>
      have := h i e a2 hT
      show (i : Int) + 1 = e.id
      omega
theorem clo_L (T : Tb) (flags : Int) (auth : Bool) : clo T flags auth = deafL (rows T 16) flags auth := by
  unfold clo deafL
  rw [show decide (free T < 0) = decide (((rows T 16).length : Int) ≥ 16) from decide_eq_decide.2 ((free_L T).trans (by omega))]
theorem route_L {T : Tb} (h : ok T) (lis mlt : Bool) (mode frm to flags : Int) (auth : Bool) : routeV T lis mlt mode frm to flags auth = routeL (rows T 16) lis mlt (disp (kindL (rows T 16) (findL (rows T 16) frm)) mode) (findL (rows T 16) frm) frm to flags auth := by
  unfold routeV
  rw [kind_L h, find_L h]
  generalize disp _ mode = act
  generalize findL (rows T 16) frm = n
  unfold routeA routeL
  rw [clo_L]
  have hs : (0 ≤ fndS T) ↔ ¬ srcL (rows T 16) < 0 := (fst_iff T _).trans (by unfold srcL; omega)
  by_cases a2 : act = 2
  · rw [if_pos a2, if_pos a2]
  rw [if_neg a2, if_neg a2]
  unfold b9 b11 b14 b16
  by_cases a1 : act = 1
  · subst a1
    rw [if_pos rfl]
    by_cases hb : fb flags 1 = 0
    · cases nob frm <;> cases grp to <;> cases mlt <;> cases deafL (rows T 16) flags auth <;> simp [hb]
    · cases nob frm <;> cases grp to <;> cases mlt <;> cases deafL (rows T 16) flags auth <;> simp [hb]
  · by_cases a3 : act = 3
    · subst a3
      cases deafL (rows T 16) flags auth <;> cases nob frm <;> simp
    · by_cases a4 : act = 4
      · subst a4
        cases deafL (rows T 16) flags auth <;> cases lis <;> simp
      · by_cases a5 : act = 5
        · subst a5
          by_cases hf : 0 ≤ fndS T
          · have hp := pick_L h (fun e => srch e.a) hf
            have h' := hs.1 hf
            unfold fndS at hf ⊢
            cases deafL (rows T 16) flags auth
            · simp only [if_pos hf, if_neg h']
              rw [hp]
              simp
              rfl
            · simp
          · have h' : srcL (rows T 16) < 0 := Decidable.byContradiction fun h' => hf (hs.2 h')
            cases deafL (rows T 16) flags auth <;> simp [hf, h']
        · simp [a1, a3, a4, a5]
theorem hop_L {T : Tb} (h : ok T) (id : Int) : hopV T id = hopL (rows T 16) id := by
  unfold hopV hopL
  rw [get_L h]
  unfold getLr
  generalize rows T 16 = l
  by_cases ha : atL l id < 0
  · rw [if_pos ha, if_pos ha]
  · rw [if_neg ha, if_neg ha]
    cases l[(atL l id).toNat]? <;> rfl
theorem gE_L {T : Tb} (h : ok T) (id : Int) : gE T id = gEL (rows T 16) id := by
  unfold gE gEL
  rw [get_L h]
  unfold getLr
  generalize rows T 16 = l
  by_cases ha : atL l id < 0
  · rw [if_pos ha, if_pos ha]
  · rw [if_neg ha, if_neg ha]
    cases l[(atL l id).toNat]? <;> rfl
theorem some_L {T : Tb} (h : ok T) (id : Int) : (get T id).isSome = decide (0 ≤ atL (rows T 16) id) := by
  rw [get_L h, getLr]
  rcases atL_cases (rows T 16) id with ⟨x, _⟩ | ⟨q, e, x, _, y, _⟩
  · rw [x, if_pos (by omega)]
    rfl
  · rw [x, if_neg (by omega), Int.toNat_natCast, y]
    exact (decide_eq_true (by omega)).symm
end Go.Proofs.Ytcidoghpacihpaa.Sx
namespace Go.Proofs.Ytcidoghpacihpaa.Sx
open Go Go.RowKit
attribute [local irreducible] IW AOps AQuiet GQ GY AExec QY Yld ACalls ACallsD
theorem rows_empty : rows (fun _ => none) 16 = [] := rfl
attribute [local irreducible] tvs tcs rows
def NewD (S : Hp) (L : List As) (r : AV) (S' : Hp) : Prop := Fr S S' (fun _ => False) ∧ match newT L with
  | .error e => r = .tup [pnil, .sc (.int .i64 e)]
  | .ok T => ∃ d k, r = .tup [.ptr d 0, .sc (.int .i64 0)] ∧ S.nxt ≤ d ∧ S.nxt ≤ k ∧ DH d k (rows T 16) S'
theorem rows_new {T : Tb} (h : ok T) {i : Nat} (hi : i < 16) (hn : ∀ j, i ≤ j → T j = none) (x : Ro) : rows (upd1 T i (some x)) 16 = rows T 16 ++ [x] := by
  rw [rows_ins h (hn i (Nat.le_refl _)) 16 (Nat.le_refl _) hi]
  have h1 : (rows T 16).filter (ltF ((i : Int) + 1)) = rows T 16 := List.filter_eq_self.2 fun y hy => by
    obtain ⟨j, hj, hT⟩ := rows_mem hy
    have hji : j < i := Decidable.byContradiction fun hji => by
      rw [hn j (by omega)] at hT
      cases hT
    have := h j y hj hT
    exact decide_eq_true (by omega)
  have h2 : (rows T 16).filter (gtF ((i : Int) + 1)) = [] := List.filter_eq_nil_iff.2 fun y hy => by
    obtain ⟨j, hj, hT⟩ := rows_mem hy
    have hji : j < i := Decidable.byContradiction fun hji => by
      rw [hn j (by omega)] at hT
      cases hT
    have := h j y hj hT
    unfold gtF
    simp
    omega
  rw [h1, h2, List.append_nil]
set_option maxHeartbeats 8000000 in
theorem newD_spec (c : S31) (S : Hp) (hlen : c.f0.length ≤ maxLen) : ACalls Try.prog 18 [.agg c.cs] S (NewD S (c.f0.map toAs)) := by
  obtain ⟨n, bs⟩ := S
  refine enterA1 Try.func18 rfl 54 [.tmp 2, .tmp 3] rfl rfl ?_
  repeat' (first | (refine aops_nil ?_) | (show AOps _ _ _ _ _ _; first | (show AOps _ _ _ _ (⟨some _, .assign _, _, _, _, none⟩ :: _) _; first | (refine o_y (v_assign (v := .sc _) rfl) rfl ?_)) | (show AOps _ _ _ _ (⟨_, .box _ _, _, _, _, none⟩ :: _) _; first | (refine o_x (b_agg rfl rfl rfl ?_)))) | (show IW _ _ [.code (.seq _ _)] _ _; first | (show AWP _ _ (.seq (.seq _ _) _) _ _; refine awp_seq ?_) | (show AWP _ _ (.seq (.region 0 _ _) _) _ _; refine awp_seq ?_)) | (show IW _ _ _ _ _; first | (refine awp_region ?_)))
  refine iw_frzP 1 n rfl (find_at _ _ _) rfl ?_
  have hf0 : Fr ⟨n, bs⟩ ⟨n + 1, (n, none) :: (n, some ⟨c.cs, c.cs.length, 32⟩) :: bs⟩ fun _ => False := ((Fr.refl _ _).push (k := n) (m := n + 1) (.inr (Nat.le_refl _)) (by simp)).push (k := n) (.inr (Nat.le_refl _)) (Nat.le_refl _)
  by_cases hbig : 16 < c.f0.length
  · have hE : newT (c.f0.map toAs) = .error 120 := by unfold newT; rw [if_pos (by simpa using hbig)]
    repeat' (first | (refine aops_nil ?_) | (show AOps _ _ _ _ _ _; first | (show AOps _ _ _ _ (⟨some _, .load _ _, _, _, _, none⟩ :: _) _; first | (refine o_y (y_vload1 (v := .vsl _ _ _ _) rfl rfl) rfl ?_)) | (show AOps _ _ _ _ (⟨some _, .fieldAddr _ _ _, _, _, _, none⟩ :: _) _; first | (refine o_y (y_fld_vptr rfl rfl) rfl ?_)) | (show AOps _ _ _ _ (⟨some _, .assign _, _, _, _, none⟩ :: _) _; first | (refine o_y (v_assign (v := .sc _) rfl) rfl ?_)) | (show AOps _ _ _ _ (⟨some _, .binOp _ _ _ _ _, _, _, _, none⟩ :: _) _; first | (refine o_y (y_bin rfl rfl rfl) rfl ?_)) | (show AOps _ _ _ _ (⟨some _, .call ⟨.builtin .len, _, _⟩, _, _, _, none⟩ :: _) _; first | (refine o_y (y_lenV rfl) rfl ?_))) | (show IW _ _ _ _ _; first | (refine awp_seq ?_) | (refine awp_region ?_) | (refine awp_ret ?_) | (refine awp_skip ?_) | (refine awp_if rfl (fun h hp => ?_) (fun h hp => ?_))) | (show thenQ _ _ _ _; first | (refine k_r ?_)))
    all_goals first
      | (exfalso; omega)
      | exact retA2 ⟨hf0, by rw [hE]; rfl⟩
  have hE : newT (c.f0.map toAs) = match newGo (c.f0.map toAs) 0 (fun _ => none) with | none => .error 53 | some T => .ok T := by unfold newT; rw [if_neg (by simpa using hbig)]; cases newGo (c.f0.map toAs) 0 (fun _ => none) <;> rfl
  repeat' (first | (refine aops_nil ?_) | (show AOps _ _ _ _ _ _; first | (show AOps _ _ _ _ (⟨some _, .build _ _, _, _, _, none⟩ :: _) _; first | (refine o_y (y_build (cs := [.sc (.slice none 0 0)]) rfl rfl) rfl ?_)) | (show AOps _ _ _ _ (⟨some _, .load _ _, _, _, _, none⟩ :: _) _; first | (refine o_y (y_vload1 (v := .vsl _ _ _ _) rfl rfl) rfl ?_)) | (show AOps _ _ _ _ (⟨some _, .fieldAddr _ _ _, _, _, _, none⟩ :: _) _; first | (refine o_y (y_fld_vptr rfl rfl) rfl ?_)) | (show AOps _ _ _ _ (⟨some _, .assign _, _, _, _, none⟩ :: _) _; first | (refine o_y (v_assign (v := .sc _) rfl) rfl ?_) | (refine o_y (v_assign (v := .ptr _ _) rfl) rfl ?_)) | (show AOps _ _ _ _ (⟨some _, .binOp _ _ _ _ _, _, _, _, none⟩ :: _) _; first | (refine o_y (y_bin rfl rfl rfl) rfl ?_)) | (show AOps _ _ _ _ (⟨some _, .call ⟨.builtin .len, _, _⟩, _, _, _, none⟩ :: _) _; first | (refine o_y (y_lenV rfl) rfl ?_)) | (show AOps _ _ _ _ (⟨_, .box _ _, _, _, _, none⟩ :: _) _; first | (refine o_x (b_agg rfl rfl rfl ?_)))) | (show IW _ _ [.code (.seq _ _)] _ _; first | (show AWP _ _ (.seq (.seq _ _) _) _ _; refine awp_seq ?_) | (show AWP _ _ (.seq (.region 1 _ _) _) _ _; refine awp_seq ?_) | (show AWP _ _ (.seq (.region 2 _ _) _) _ _; refine awp_seq ?_) | (show AWP _ _ (.seq (.region 3 _ _) _) _ _; refine awp_seq ?_)) | (show IW _ _ _ _ _; first | (refine awp_region ?_) | (refine awp_ret ?_) | (refine awp_skip ?_) | (refine awp_if rfl (fun h hp => ?_) (fun h hp => ?_))) | (show thenQ _ _ _ _; first | (refine k_r ?_)))
  all_goals try (exfalso; omega)
  refine iw_nilH (n + 1) 0 16 94 (find_at _ _ _) rfl ?_
  repeat' (first | (refine aops_nil ?_) | (show AOps _ _ _ _ _ _; first | (show AOps _ _ _ _ (⟨some _, .move _, _, _, _, none⟩ :: _) _; first | (refine o_y (v_move (v := .sc _) rfl) rfl ?_)) | (show AOps _ _ _ _ (⟨some _, .load _ _, _, _, _, none⟩ :: _) _; first | (refine o_y (y_vload1 (v := .vsl _ _ _ _) rfl rfl) rfl ?_)) | (show AOps _ _ _ _ (⟨some _, .fieldAddr _ _ _, _, _, _, none⟩ :: _) _; first | (refine o_y (y_fld_vptr rfl rfl) rfl ?_)) | (show AOps _ _ _ _ (⟨some _, .call ⟨.builtin .len, _, _⟩, _, _, _, none⟩ :: _) _; first | (refine o_y (y_lenV rfl) rfl ?_))) | (show IW _ _ [.code (.seq _ _)] _ _; first | (show AWP _ _ (.seq (.region _ _ _) _) _ _; refine awp_seq ?_)) | (show IW _ _ _ _ _; first | (refine awp_region ?_) | (refine awp_block ?_)))
  have hf1 : Fr ⟨n, bs⟩ ⟨n + 1 + 1 + 1, (n + 1, some ⟨[.sl (n + 1 + 1) 0 0], 1, 91⟩) :: (n + 1 + 1, some ⟨[], 16, 94⟩) :: (n + 1, some ⟨[.sc (.slice none 0 0)], 1, 91⟩) :: (n, none) :: (n, some ⟨c.cs, c.cs.length, 32⟩) :: bs⟩ fun _ => False := ((hf0.push (k := n + 1) (m := n + 1 + 1) (.inr (Nat.le_succ _)) (Nat.le_succ _)).push (k := n + 1 + 1) (m := n + 1 + 1 + 1) (.inr (by dsimp only; omega)) (Nat.le_succ _)).push (k := n + 1) (m := n + 1 + 1 + 1) (.inr (Nat.le_succ _)) (Nat.le_refl _)
  refine awp_loopA (fun x : Nat × Tb × Nat × Hp => x.1 ≤ c.f0.length ∧ newGo (c.f0.map toAs) 0 (fun _ => none) = newGo ((c.f0.map toAs).drop x.1) x.1 x.2.1 ∧ ok x.2.1 ∧ (∀ j, x.1 ≤ j → x.2.1 j = none) ∧ DH (n + 1) x.2.2.1 (rows x.2.1 16) x.2.2.2 ∧ n ≤ x.2.2.1 ∧ Fr ⟨n, bs⟩ x.2.2.2 (fun _ => False)) (fun x => c.f0.length - x.1)
    (fun x => [(4, .ptr (n + 1) 0), (16, .vsl (c.f0.flatMap fun x => x.cs) 12 0 c.f0.length), (17, .sc (.int .i64 c.f0.length)), (18, .sc (.int .i64 x.1))]) (fun x => x.2.2.2)
    (0, (fun _ => none), n + 1 + 1, ⟨n + 1 + 1 + 1, (n + 1, some ⟨[.sl (n + 1 + 1) 0 0], 1, 91⟩) :: (n + 1 + 1, some ⟨[], 16, 94⟩) :: (n + 1, some ⟨[.sc (.slice none 0 0)], 1, 91⟩) :: (n, none) :: (n, some ⟨c.cs, c.cs.length, 32⟩) :: bs⟩) rfl ⟨Nat.zero_le _, rfl, fun j e _ h => (by cases h), fun _ _ => rfl, by dsimp only; rw [rows_empty]; exact ⟨find_at _ _ _, find_sk (show n + 1 ≠ n + 1 + 1 by omega) (find_at _ _ _), by omega, by dsimp only; omega, by dsimp only; omega⟩, by dsimp only; omega, hf1⟩ ⟨rfl, rfl, rfl, rfl, trivial⟩ (hpEq_refl _) ?_
  clear hf0 hf1
  rintro ⟨i, T, k, ⟨m, cs⟩⟩ ⟨h1, h2, h3, h4, h5, h6, h7⟩ ih
  dsimp only at h1 h2 h3 h4 h5 h6 h7 ih ⊢
  by_cases hi : i < c.f0.length
  · obtain ⟨x, hx⟩ : ∃ x, c.f0[i]? = some x := ⟨_, List.getElem?_eq_getElem hi⟩
    have vx : ((c.f0.flatMap fun x => x.cs).drop ((0 + Int.toNat i) * 12)).take 12 = x.cs := by rw [Nat.zero_add]; exact flat_at (esz := 12) (fun _ => rfl) hx
    have hd : (c.f0.map toAs).drop i = toAs x :: (c.f0.map toAs).drop (i + 1) := by
      rw [List.drop_eq_getElem_cons (by simpa using hi)]
      congr 1
      rw [List.getElem_map]
      exact congrArg toAs (by rw [List.getElem?_eq_getElem hi] at hx; exact Option.some.inj hx)
    rw [hd, newGo, taken_L] at h2
    have hrn := rows_new h3 (i := i) (by omega) h4 (Ro.mk ((i : Int) + 1) (toAs x) 0 0 0)
    have hok : ok (upd1 T i (some (Ro.mk ((i : Int) + 1) (toAs x) 0 0 0))) := fun j e hj hT => by
      unfold upd1 at hT
      split at hT
      · cases hT
        show (i : Int) + 1 = (j : Int) + 1
        omega
      · exact h3 j e hj hT
    have hll := rows_le T 16
    generalize rows T 16 = l at h5 h2 hrn hll
    repeat' (first | (refine aops_nil ?_) | (show AOps _ _ _ _ _ _; first | (show AOps _ _ _ _ (⟨some _, .move _, _, _, _, none⟩ :: _) _; first | (refine o_y (v_move (v := .sc _) rfl) rfl ?_) | (refine o_y (v_move (v := .ptr _ _) rfl) rfl ?_)) | (show AOps _ _ _ _ (⟨some _, .load _ _, _, _, _, none⟩ :: _) _; first | (refine o_y (y_vloadE rfl (by assumption) (by rfl) rfl) rfl ?_)) | (show AOps _ _ _ _ (⟨some _, .assign _, _, _, _, none⟩ :: _) _; first | (refine o_y (v_assign (v := .sc _) rfl) rfl ?_) | (refine o_y (v_assign (v := .ptr _ _) rfl) rfl ?_)) | (show AOps _ _ _ _ (⟨some _, .binOp _ _ _ _ _, _, _, _, none⟩ :: _) _; first | (refine o_y (y_bin rfl rfl rfl) rfl ?_)) | (show AOps _ _ _ _ (⟨some _, .indexAddr _ _ _, _, _, _, none⟩ :: _) _; first | (refine o_y (y_ix_vsl rfl rfl rfl (by omega) (by omega)) rfl ?_)) | (show AOps _ _ _ _ (⟨_, .store _ _ _, _, _, _, none⟩ :: _) _; first | (refine o_x (s_storeW rfl rfl (by first | rfl | (repeat (first | assumption | exact find_at _ _ _ | refine find_sk (by omega) ?_))) (by rfl) (by rfl) (by first | rfl | assumption) ?_))) | (show AOps _ _ _ _ (⟨_, .alloc _, _, _, _, none⟩ :: _) _; first | (refine o_x (a_new (by first | (simp only [AV.ofV, AV.cells, List.map_cons, List.map_nil]; rfl) | rfl) rfl rfl rfl ?_)))) | (show IW _ _ [.code (.seq _ _)] _ _; first | (show AWP _ _ (.seq (.cond _ _ _) _) _ _; refine awp_seq ?_) | (show AWP _ _ (.seq (.block _ _) _) _ _; refine awp_seq ?_) | (show AWP _ _ (.seq (.seq _ _) _) _ _; refine awp_seq ?_) | (show AWP _ _ (.seq (.region 5 _ _) _) _ _; refine awp_seq ?_) | (show AWP _ _ (.seq (.region 6 _ _) _) _ _; refine awp_seq ?_) | (show AWP _ _ (.seq (.region 15 _ _) _) _ _; refine awp_seq ?_)) | (show IW _ _ _ _ _; first | (refine awp_region ?_) | (refine awp_block ?_) | (refine awp_exit ?_) | (refine awp_ret ?_) | (refine awp_skip ?_) | (refine awp_if rfl (fun h hp => ?_) (fun h hp => ?_))))
    all_goals try (exfalso; omega)
    refine iw_frzP 6 m rfl (find_at _ _ _) rfl ?_
    have hf2 : Fr ⟨m, cs⟩ ⟨m + 1, (m, none) :: (m, some ⟨x.cs, 12, 40⟩) :: (m, some ⟨zAs.cs, 12, 40⟩) :: cs⟩ (fun _ => False) := fr3 _ _ _
    have h8 := h7.trans hf2
    have hD := h5.keep hf2 (by simp) (by simp)
    have hnm : n ≤ m := h7.1
    generalize hbx : (m, none) :: (m, some ⟨x.cs, 12, 40⟩) :: (m, some ⟨zAs.cs, 12, 40⟩) :: cs = cs1 at h8 hD hf2
    have hrl0 := rws_length l
    have htb := hD.tb
    have hrw := hD.rw
    have hlk := hD.lk
    have hdm := hD.ld
    dsimp only at htb hrw hlk hdm
    show IW _ _ _ _ ⟨_, _, ⟨m + 1, (m, none) :: (m, some ⟨x.cs, 12, 40⟩) :: (m, some ⟨zAs.cs, 12, 40⟩) :: cs⟩⟩
    rw [hbx]
    clear hbx
    repeat' (first | (refine aops_nil ?_) | (show AOps _ _ _ _ _ _; first | (show AOps _ _ _ _ (⟨some _, .move _, _, _, _, none⟩ :: _) _; first | (refine o_y (v_move (v := .sc _) rfl) rfl ?_) | (refine o_y (v_move (v := .ptr _ _) rfl) rfl ?_)) | (show AOps _ _ _ _ (⟨some _, .load _ _, _, _, _, none⟩ :: _) _; first | (refine o_y (y_load1 (v := .sl _ _ _) rfl (by first | rfl | (repeat (first | assumption | exact find_at _ _ _ | refine find_sk (by omega) ?_))) (by rfl)) rfl ?_)) | (show AOps _ _ _ _ (⟨some _, .fieldAddr _ _ _, _, _, _, none⟩ :: _) _; first | (refine o_y (y_fld_ptr rfl rfl) rfl ?_)) | (show AOps _ _ _ _ (⟨some _, .nilCheck _, _, _, _, none⟩ :: _) _; first | (refine o_y (y_nil_ptr rfl) rfl ?_)) | (show AOps _ _ _ _ (⟨some _, .call ⟨.builtin .len, _, _⟩, _, _, _, none⟩ :: _) _; first | (refine o_y (y_lenL rfl) rfl ?_))) | (show IW _ _ [.code (.seq _ _)] _ _; first | (show AWP _ _ (.seq (.region _ _ _) _) _ _; refine awp_seq ?_)) | (show IW _ _ _ _ _; first | (refine awp_region ?_) | (refine awp_block ?_)))
    all_goals try (exfalso; omega)
    refine awp_loopA (fun y : Nat × Hp => y.1 ≤ l.length ∧ (∀ q, q < y.1 → lp l (fun e => clash e.a (toAs x)) q = false) ∧ Fr ⟨m + 1, cs1⟩ y.2 (fun _ => False)) (fun y => l.length - y.1) (fun y => [(4, .ptr (n + 1) 0), (16, .vsl (c.f0.flatMap fun x => x.cs) 12 0 c.f0.length), (17, .sc (.int .i64 c.f0.length)), (18, .sc (.int .i64 i)), (5, .sc (.int .i64 i)), (6, .vptr x.cs 0), (26, .sl k 0 l.length), (27, .sc (.int .i64 l.length)), (28, .sc (.int .i64 y.1))]) (fun y => y.2)
      (0, ⟨m + 1, cs1⟩) rfl ⟨Nat.zero_le _, fun q hq => by omega, Fr.refl _ _⟩ ⟨rfl, rfl, rfl, rfl, rfl, rfl, rfl, rfl, rfl, trivial⟩ (hpEq_refl _) ?_
    rintro ⟨j, ⟨m, cs⟩⟩ ⟨q1, q2, q3⟩ ih2
    dsimp only at q1 q2 q3 ih2 ⊢
    have q4 := h8.trans q3
    have hD2 := hD.keep q3 (by simp) (by simp)
    have f1 : find (n + 1) cs = some ⟨[.sl k 0 l.length], 1, 91⟩ := hD2.tb
    have f2 : find k cs = some ⟨rws l, 16, 94⟩ := hD2.rw
    have f3 : k < m := hD2.lk
    have f4 : n + 1 < m := hD2.ld
    have f5 : n + 1 ≠ k := hD2.ne
    by_cases hj : j < l.length
    · obtain ⟨e, hee⟩ : ∃ e, l[j]? = some e := ⟨_, List.getElem?_eq_getElem hj⟩
      have vr := rws_at hee
      have hp0 : lp l (fun e => clash e.a (toAs x)) j = clash e.a (toAs x) := lp_at hee
      repeat' (first | (refine aops_nil ?_) | (show AOps _ _ _ _ _ _; first | (show AOps _ _ _ _ (⟨some _, .load _ _, _, _, _, none⟩ :: _) _; first | (refine o_y (y_loadE rfl (by first | rfl | (repeat (first | assumption | exact find_at _ _ _ | refine find_sk (by omega) ?_))) (by assumption) (by rfl) (by rfl)) rfl ?_)) | (show AOps _ _ _ _ (⟨some _, .binOp _ _ _ _ _, _, _, _, none⟩ :: _) _; first | (refine o_y (y_bin rfl rfl rfl) rfl ?_)) | (show AOps _ _ _ _ (⟨some _, .indexAddr _ _ _, _, _, _, none⟩ :: _) _; first | (refine o_y (y_ix_sl rfl rfl (by first | rfl | (repeat (first | assumption | exact find_at _ _ _ | refine find_sk (by omega) ?_))) (by rfl) (by omega) (by omega)) rfl ?_)) | (show AOps _ _ _ _ (⟨_, .store _ _ _, _, _, _, none⟩ :: _) _; first | (refine o_x (s_storeW rfl rfl (by first | rfl | (repeat (first | assumption | exact find_at _ _ _ | refine find_sk (by omega) ?_))) (by rfl) (by rfl) (by first | rfl | assumption) ?_))) | (show AOps _ _ _ _ (⟨_, .alloc _, _, _, _, none⟩ :: _) _; first | (refine o_x (a_new (by first | (simp only [AV.ofV, AV.cells, List.map_cons, List.map_nil]; rfl) | rfl) rfl rfl rfl ?_)))) | (show IW _ _ [.code (.seq _ _)] _ _; first | (show AWP _ _ (.seq (.cond _ _ _) _) _ _; refine awp_seq ?_) | (show AWP _ _ (.seq (.block _ _) _) _ _; refine awp_seq ?_) | (show AWP _ _ (.seq (.region 8 _ _) _) _ _; refine awp_seq ?_) | (show AWP _ _ (.seq (.region 9 _ _) _) _ _; refine awp_seq ?_)) | (show IW _ _ _ _ _; first | (refine awp_region ?_) | (refine awp_block ?_) | (refine awp_exit ?_) | (refine awp_skip ?_) | (refine awp_if rfl (fun h hp => ?_) (fun h hp => ?_))) | (show thenQ _ _ _ _; first | (refine k_n ?_) | (refine k_x ?_)) | (show blockQ _ _ _ _; first | (refine b_hit rfl ?_)))
      all_goals try (exfalso; omega)
      refine iw_frzP 8 m rfl (find_at _ _ _) rfl ?_
      have h10 : Fr ⟨m, cs⟩ ⟨m + 1, (m, none) :: (m, some ⟨e.cs, 16, 94⟩) :: (m, some ⟨zRo.cs, 16, 94⟩) :: cs⟩ (fun _ => False) := fr3 _ _ _
      have sc := clashR_spec e.a (toAs x)
      by_cases hc : clash e.a (toAs x) = true
      · rw [hc] at sc
        have ht : clL l (toAs x) = true := by
          unfold clL
          rw [fst_hit (i := j) (by rw [hp0]; exact hc) q2 hj]
          exact decide_eq_true (by omega)
        rw [ht, if_pos rfl] at h2
        repeat' (first | (refine aops_nil ?_) | (show AOps _ _ _ _ _ _; first | (show AOps _ _ _ _ (⟨some _, .load _ _, _, _, _, none⟩ :: _) _; first | (refine o_y (y_vloadW rfl rfl) rfl ?_) | (refine o_y (y_vloadA rfl rfl) rfl ?_)) | (show AOps _ _ _ _ (⟨some _, .fieldAddr _ _ _, _, _, _, none⟩ :: _) _; first | (refine o_y (y_fld_vptr rfl rfl) rfl ?_)) | (show AOps _ _ _ _ (⟨some _, .assign _, _, _, _, none⟩ :: _) _; first | (refine o_y (v_assign (v := .sc _) rfl) rfl ?_)) | (show AOps _ _ _ _ (⟨some _, .call ⟨.value (.func 33), _, _⟩, _, _, _, none⟩ :: _) _; first | (refine o_q (q_call (sc)) rfl ?_))) | (show IW _ _ _ _ _; first | (refine awp_seq ?_) | (refine awp_region ?_) | (refine awp_ret ?_) | (refine awp_if_t rfl (by first | rfl | assumption | exact beq_self_eq_true _ | exact decide_eq_true rfl) ?_)) | (show thenQ _ _ _ _; first | (refine k_r ?_)) | (show blockQ _ _ _ _; first | (refine b_r ?_)))
        all_goals first
          | (exfalso; omega)
          | exact retA2 ⟨q4.trans h10, by rw [hE, h2]; rfl⟩
      · have hc : clash e.a (toAs x) = false := Bool.eq_false_iff.2 hc
        rw [hc] at sc
        repeat' (first | (refine aops_nil ?_) | (show AOps _ _ _ _ _ _; first | (show AOps _ _ _ _ (⟨some _, .move _, _, _, _, none⟩ :: _) _; first | (refine o_y (v_move (v := .sc _) rfl) rfl ?_)) | (show AOps _ _ _ _ (⟨some _, .load _ _, _, _, _, none⟩ :: _) _; first | (refine o_y (y_vloadW rfl rfl) rfl ?_) | (refine o_y (y_vloadA rfl rfl) rfl ?_)) | (show AOps _ _ _ _ (⟨some _, .fieldAddr _ _ _, _, _, _, none⟩ :: _) _; first | (refine o_y (y_fld_vptr rfl rfl) rfl ?_)) | (show AOps _ _ _ _ (⟨some _, .binOp .add _ _ _ _, _, _, _, none⟩ :: _) _; first | (refine o_y (z_add rfl rfl (by omega) (by omega)) rfl ?_)) | (show AOps _ _ _ _ (⟨some _, .call ⟨.value (.func 33), _, _⟩, _, _, _, none⟩ :: _) _; first | (refine o_q (q_call (sc)) rfl ?_))) | (show IW _ _ [.code (.seq _ _)] _ _; first | (show AWP _ _ (.seq (.region _ _ _) _) _ _; refine awp_seq ?_)) | (show IW _ _ _ _ _; first | (refine awp_region ?_) | (refine awp_skip ?_) | (refine awp_if_f rfl (by first | rfl | assumption) ?_)) | (show thenQ _ _ _ _; first | (refine k_n ?_)))
        all_goals first
          | (exfalso; omega)
          | exact iw_atA (ih2 (j + 1, ⟨m + 1, (m, none) :: (m, some ⟨e.cs, 16, 94⟩) :: (m, some ⟨zRo.cs, 16, 94⟩) :: cs⟩) ⟨hj, stepF q2 (by rw [hp0]; exact hc), q3.trans h10⟩ (by dsimp only; omega)) rfl ⟨rfl, rfl, rfl, rfl, rfl, rfl, rfl, rfl, rfl, trivial⟩ (hpEq_refl _)
    have ht : clL l (toAs x) = false := by
      unfold clL
      rw [fst_none fun q hq => q2 q (by omega)]
      rfl
    rw [ht, if_neg (by decide)] at h2
    repeat' (first | (refine aops_nil ?_) | (show AOps _ _ _ _ _ _; first | (show AOps _ _ _ _ (⟨some _, .binOp _ _ _ _ _, _, _, _, none⟩ :: _) _; first | (refine o_y (y_bin rfl rfl rfl) rfl ?_))) | (show IW _ _ [.code (.seq _ _)] _ _; first | (show AWP _ _ (.seq (.cond _ _ _) _) _ _; refine awp_seq ?_) | (show AWP _ _ (.seq (.block _ _) _) _ _; refine awp_seq ?_) | (show AWP _ _ (.seq (.region 8 _ _) _) _ _; refine awp_seq ?_) | (show AWP _ _ (.seq (.region 9 _ _) _) _ _; refine awp_seq ?_)) | (show IW _ _ _ _ _; first | (refine awp_region ?_) | (refine awp_block ?_) | (refine awp_exit ?_) | (refine awp_skip ?_) | (refine awp_if rfl (fun h hp => ?_) (fun h hp => ?_))) | (show thenQ _ _ _ _; first | (refine k_n ?_) | (refine k_x ?_)) | (show blockQ _ _ _ _; first | (refine b_hit rfl ?_)))
    all_goals try (exfalso; omega)
    have hnm2 : n ≤ m := q4.1
    have hnone : ∀ j, i + 1 ≤ j → upd1 T i (some (Ro.mk ((i : Int) + 1) (toAs x) 0 0 0)) j = none := fun j hj => by
      unfold upd1
      rw [if_neg (by omega)]
      exact h4 j (by omega)
    have h11 : Fr ⟨n, bs⟩ ⟨m + 1 + 1, (n + 1, some ⟨[.sl (m + 1) 0 (l.length + 1)], 1, 91⟩) :: (m + 1, some ⟨rws (l ++ [(Ro.mk ((i : Int) + 1) (toAs x) 0 0 0)]), 16, 94⟩) :: (k, none) :: (m, some ⟨(Ro.mk ((i : Int) + 1) (toAs x) 0 0 0).cs, 16, 94⟩) :: cs⟩ (fun _ => False) := (((q4.push (k := m) (m := m + 1) (.inr hnm2) (Nat.le_succ _)).push (k := k) (m := m + 1) (.inr h6) (Nat.le_refl _)).push (k := m + 1) (m := m + 1 + 1) (.inr (Nat.le_succ_of_le hnm2)) (Nat.le_succ _)).push (k := n + 1) (m := m + 1 + 1) (.inr (Nat.le_succ _)) (Nat.le_refl _)
    repeat' (first | (show AWP _ _ (.region 13 _ true) _ _; refine awp_any ?_; (first | (refine aany_take 0 rfl (p_move (v := .sc _) rfl) rfl (by decide +kernel) (fun _ _ h => h) ?_) | (refine aany_take 0 rfl (p_move (v := .ptr _ _) rfl) rfl (by decide +kernel) (fun _ _ h => h) ?_) | (refine aany_take 0 rfl (p_move (v := .sl _ _ _) rfl) rfl (by decide +kernel) (fun _ _ h => h) ?_) | (refine aany_take 0 rfl (p_move (v := .vsl _ _ _ _) rfl) rfl (by decide +kernel) (fun _ _ h => h) ?_) | (refine aany_take 0 rfl (p_move (v := .agg _) rfl) rfl (by decide +kernel) (fun _ _ h => h) ?_) | (refine aany_take 0 rfl (p_move (v := .vptr _ _) rfl) rfl (by decide +kernel) (fun _ _ h => h) ?_) | (refine aany_take 0 rfl (p_move (v := .tup _) rfl) rfl (by decide +kernel) (fun _ _ h => h) ?_) | (refine aany_take 0 rfl (p_move (v := .fn _ _) rfl) rfl (by decide +kernel) (fun _ _ h => h) ?_) | (refine aany_take 0 rfl (p_move (v := .ifc _ _) rfl) rfl (by decide +kernel) (fun _ _ h => h) ?_) | (refine aany_take 0 rfl (p_move (v := .junk) rfl) rfl (by decide +kernel) (fun _ _ h => h) ?_)); (first | (refine aany_take 1 rfl (p_move (v := .sc _) rfl) rfl (by decide +kernel) (fun _ _ h => h) ?_) | (refine aany_take 1 rfl (p_move (v := .ptr _ _) rfl) rfl (by decide +kernel) (fun _ _ h => h) ?_) | (refine aany_take 1 rfl (p_move (v := .sl _ _ _) rfl) rfl (by decide +kernel) (fun _ _ h => h) ?_) | (refine aany_take 1 rfl (p_move (v := .vsl _ _ _ _) rfl) rfl (by decide +kernel) (fun _ _ h => h) ?_) | (refine aany_take 1 rfl (p_move (v := .agg _) rfl) rfl (by decide +kernel) (fun _ _ h => h) ?_) | (refine aany_take 1 rfl (p_move (v := .vptr _ _) rfl) rfl (by decide +kernel) (fun _ _ h => h) ?_) | (refine aany_take 1 rfl (p_move (v := .tup _) rfl) rfl (by decide +kernel) (fun _ _ h => h) ?_) | (refine aany_take 1 rfl (p_move (v := .fn _ _) rfl) rfl (by decide +kernel) (fun _ _ h => h) ?_) | (refine aany_take 1 rfl (p_move (v := .ifc _ _) rfl) rfl (by decide +kernel) (fun _ _ h => h) ?_) | (refine aany_take 1 rfl (p_move (v := .junk) rfl) rfl (by decide +kernel) (fun _ _ h => h) ?_)); (first | (refine aany_take 2 rfl (p_nil rfl) rfl (by decide +kernel) (fun _ _ h => h) ?_)); (first | (refine aany_take 3 rfl (p_fld rfl rfl) rfl (by decide +kernel) (fun _ _ h => h) ?_) | (refine aany_take 3 rfl (p_fldV rfl rfl) rfl (by decide +kernel) (fun _ _ h => h) ?_)); (first | (refine aany_take 5 rfl (p_move (v := .sc _) rfl) rfl (by decide +kernel) (fun _ _ h => h) ?_) | (refine aany_take 5 rfl (p_move (v := .ptr _ _) rfl) rfl (by decide +kernel) (fun _ _ h => h) ?_) | (refine aany_take 5 rfl (p_move (v := .sl _ _ _) rfl) rfl (by decide +kernel) (fun _ _ h => h) ?_) | (refine aany_take 5 rfl (p_move (v := .vsl _ _ _ _) rfl) rfl (by decide +kernel) (fun _ _ h => h) ?_) | (refine aany_take 5 rfl (p_move (v := .agg _) rfl) rfl (by decide +kernel) (fun _ _ h => h) ?_) | (refine aany_take 5 rfl (p_move (v := .vptr _ _) rfl) rfl (by decide +kernel) (fun _ _ h => h) ?_) | (refine aany_take 5 rfl (p_move (v := .tup _) rfl) rfl (by decide +kernel) (fun _ _ h => h) ?_) | (refine aany_take 5 rfl (p_move (v := .fn _ _) rfl) rfl (by decide +kernel) (fun _ _ h => h) ?_) | (refine aany_take 5 rfl (p_move (v := .ifc _ _) rfl) rfl (by decide +kernel) (fun _ _ h => h) ?_) | (refine aany_take 5 rfl (p_move (v := .junk) rfl) rfl (by decide +kernel) (fun _ _ h => h) ?_)); (first | (refine aany_take 6 rfl (p_add rfl rfl (by omega) (by omega)) rfl (by decide +kernel) (fun _ _ h => h) ?_) | (refine aany_take 6 rfl (p_sub rfl rfl (by omega) (by omega)) rfl (by decide +kernel) (fun _ _ h => h) ?_) | (refine aany_take 6 rfl (p_bin rfl rfl rfl) rfl (by decide +kernel) (fun _ _ h => h) ?_))) | (show AAny _ _ _ _ _ _ _; first | (first | (refine aany_take 12 rfl (p_nil rfl) rfl (by decide +kernel) (fun _ _ h => h) ?_)) | (first | (refine aany_take 13 rfl (p_fld rfl rfl) rfl (by decide +kernel) (fun _ _ h => h) ?_) | (refine aany_take 13 rfl (p_fldV rfl rfl) rfl (by decide +kernel) (fun _ _ h => h) ?_)) | (refine aany_all [4, 7] (by decide +kernel) rfl (aall_cons rfl ?_ (aall_cons rfl ?_ (trivial)))) | (refine aany_all [7] (by decide +kernel) rfl (aall_cons rfl ?_ (trivial))) | (refine aany_all [8] (by decide +kernel) rfl (aall_cons rfl ?_ (trivial))) | (refine aany_all [9] (by decide +kernel) rfl (aall_cons rfl ?_ (trivial))) | (refine aany_all [10] (by decide +kernel) rfl (aall_cons rfl ?_ (trivial))) | (refine aany_all [11] (by decide +kernel) rfl (aall_cons rfl ?_ (trivial))) | (refine aany_all [14] (by decide +kernel) rfl (aall_cons rfl ?_ (trivial))) | (refine aany_all [4, 8] (by decide +kernel) rfl (aall_cons rfl ?_ (aall_cons rfl ?_ (trivial)))) | (refine aany_all [4, 9] (by decide +kernel) rfl (aall_cons rfl ?_ (aall_cons rfl ?_ (trivial)))) | (refine aany_all [4, 10] (by decide +kernel) rfl (aall_cons rfl ?_ (aall_cons rfl ?_ (trivial)))) | (refine aany_all [4] (by decide +kernel) rfl (aall_cons rfl ?_ (trivial))) | (refine aany_done (by decide +kernel) ?_)) | (refine aops_nil ?_) | (show AOps _ _ _ _ _ _; first | (show AOps _ _ _ _ (⟨some _, .build 92 _, _, _, _, none⟩ :: _) _; first | (refine o_y (y_build (cs := (Ro.mk ((i : Int) + 1) (toAs x) 0 0 0).en) rfl rfl) rfl ?_)) | (show AOps _ _ _ _ (⟨some _, .build 94 _, _, _, _, none⟩ :: _) _; first | (refine o_y (y_build (cs := (Ro.mk ((i : Int) + 1) (toAs x) 0 0 0).cs) rfl rfl) rfl ?_)) | (show AOps _ _ _ _ (⟨some _, .move _, _, _, _, none⟩ :: _) _; first | (refine o_y (v_move (v := .sc _) rfl) rfl ?_)) | (show AOps _ _ _ _ (⟨some _, .load _ _, _, _, _, none⟩ :: _) _; first | (refine o_y (y_load1 (v := .sl _ _ _) rfl (by first | rfl | (repeat (first | assumption | exact find_at _ _ _ | refine find_sk (by omega) ?_))) (by rfl)) rfl ?_) | (refine o_y (y_vloadW rfl rfl) rfl ?_)) | (show AOps _ _ _ _ (⟨some _, .binOp .add _ _ _ _, _, _, _, none⟩ :: _) _; first | (refine o_y (z_add rfl rfl (by omega) (by omega)) rfl ?_)) | (show AOps _ _ _ _ (⟨_, .store _ _ _, _, _, _, none⟩ :: _) _; first | (refine o_x (s_storeN (v := .sl _ _ _) rfl rfl (by first | rfl | (repeat (first | assumption | exact find_at _ _ _ | refine find_sk (by omega) ?_))) (by rfl) (by rfl) (by first | (simp only [List.set_cons_zero, List.set_cons_succ]; rfl) | rfl) ?_))) | (show AOps _ _ _ _ (⟨_, .buildSlice _ _ _, _, _, _, none⟩ :: _) _; first | (refine o_x (x_buildSlice (cs := (Ro.mk ((i : Int) + 1) (toAs x) 0 0 0).cs) (by rfl) (by rfl) (by rfl) (by rfl) (by rfl) (by rfl) rfl ?_))) | (show AOps _ _ _ _ (⟨_, .call ⟨.builtin .append, _, _⟩, _, _, _, none⟩ :: _) _; first | (refine o_x (x_append (X := .sl _ _ _) rfl rfl (by first | rfl | (repeat (first | assumption | exact find_at _ _ _ | refine find_sk (by omega) ?_))) (by first | rfl | assumption | exact prs_length _ | exact strs_len1 _ | exact byts_len1 _ | exact nums_len1 _ | (simp only [byts_length, strs_length, ints_length, prs_length, List.length_append, List.length_cons, List.length_nil]; omega)) (src_sl (by first | rfl | (repeat (first | assumption | exact find_at _ _ _ | refine find_sk (by omega) ?_))) (by first | exact Nat.le_of_ble_eq_true rfl | (simp only [strs_length, byts_length]; omega)) (by first | exact take_strs _ | exact take_byts _ | rfl | exact take_bytsE _ _ (by simp only [byts_length, ints_length, List.length_append, List.length_cons, List.length_nil]; omega) | exact take_strsE _ _ (by simp only [strs_length, List.length_append, List.length_cons, List.length_nil]; omega) | (simp; done)) (by first | rfl | exact strs_one _ | exact byts_one _ | exact prs_one _)) (by rfl) (by rfl) (by omega) (by omega) (by first | exact rws_snoc l (Ro.mk ((i : Int) + 1) (toAs x) 0 0 0) | exact prs_snoc _ _ _ | exact strs_snoc _ _ | exact byts_snoc _ _ | exact nums_snoc _ _ | exact strs_append _ _ | exact byts_append _ _ | exact byts_snoc [] _ | exact strs_snoc [] _ | exact byts_append [] _ | exact strs_append [] _ | exact byts_append _ [_, _] | rfl) (by first | exact Nat.zero_add _ | rfl) ?_)))) | (show IW _ _ _ _ _; first | (refine awp_region ?_)) | (show thenQ _ _ _ _; first | (refine k_n ?_)))
    all_goals try (exfalso; omega)
    all_goals exact iw_atA (ih (i + 1, upd1 T i (some (Ro.mk ((i : Int) + 1) (toAs x) 0 0 0)), m + 1, ⟨m + 1 + 1, (n + 1, some ⟨[.sl (m + 1) 0 (l.length + 1)], 1, 91⟩) :: (m + 1, some ⟨rws (l ++ [(Ro.mk ((i : Int) + 1) (toAs x) 0 0 0)]), 16, 94⟩) :: (k, none) :: (m, some ⟨(Ro.mk ((i : Int) + 1) (toAs x) 0 0 0).cs, 16, 94⟩) :: cs⟩) ⟨hi, h2, hok, hnone, by dsimp only; rw [hrn]; exact ⟨by rw [List.length_append]; exact find_at _ _ _, find_sk (show n + 1 ≠ m + 1 by omega) (find_at _ _ _), by omega, by dsimp only; omega, by dsimp only; omega⟩, by dsimp only; omega, h11⟩ (by dsimp only; omega)) rfl ⟨rfl, rfl, rfl, rfl, trivial⟩ (hpEq_refl _)
  · have h2' : newGo (c.f0.map toAs) 0 (fun _ => none) = some T := by
      rw [h2, List.drop_eq_nil_of_le (by simp; omega)]
      rfl
    repeat' (first | (refine aops_nil ?_) | (show AOps _ _ _ _ _ _; first | (show AOps _ _ _ _ (⟨some _, .move _, _, _, _, none⟩ :: _) _; first | (refine o_y (v_move (v := .sc _) rfl) rfl ?_) | (refine o_y (v_move (v := .ptr _ _) rfl) rfl ?_)) | (show AOps _ _ _ _ (⟨some _, .assign _, _, _, _, none⟩ :: _) _; first | (refine o_y (v_assign (v := .sc _) rfl) rfl ?_) | (refine o_y (v_assign (v := .ptr _ _) rfl) rfl ?_)) | (show AOps _ _ _ _ (⟨some _, .binOp _ _ _ _ _, _, _, _, none⟩ :: _) _; first | (refine o_y (y_bin rfl rfl rfl) rfl ?_))) | (show IW _ _ _ _ _; first | (refine awp_seq ?_) | (refine awp_region ?_) | (refine awp_block ?_) | (refine awp_exit ?_) | (refine awp_ret ?_) | (refine awp_skip ?_) | (refine awp_if rfl (fun h hp => ?_) (fun h hp => ?_))))
    all_goals first
      | (exfalso; omega)
      | exact retA2 ⟨h7, by rw [hE, h2']; exact ⟨n + 1, k, rfl, Nat.le_succ _, h6, h5⟩⟩
end Go.Proofs.Ytcidoghpacihpaa.Sx
namespace Go.Proofs.Ytcidoghpacihpaa.Sx
open Go Go.RowKit
attribute [local irreducible] IW AOps AQuiet GQ GY AExec QY Yld ACalls ACallsD
attribute [local irreducible] tvs tcs rows
structure JH (t d k : Nat) (T : Tb) (P : Nat → Nat) (l : List Ro) (S : Hp) : Prop where
  th : TH t T P S
  dh : DH d k l S
section
variable {t d k : Nat} {T : Tb} {P : Nat → Nat} {l : List Ro} {S S' : Hp}
theorem JH.td (h : JH t d k T P l S) : t ≠ d := fun e => by
  have a := h.th.tb
  have b := h.dh.tb
  rw [e, b] at a
  exact absurd (congrArg Blk.ety (Option.some.inj a)) (by simp)
theorem JH.tk (h : JH t d k T P l S) : t ≠ k := fun e => by
  have a := h.th.tb
  have b := h.dh.rw
  rw [e, b] at a
  exact absurd (congrArg Blk.ety (Option.some.inj a)) (by simp)
theorem JH.pd (h : JH t d k T P l S) {j : Nat} {e : Ro} (hj : j < 16) (hT : T j = some e) : P j ≠ d ∧ P j ≠ k := by
  have a := (h.th.sl j e hj hT).1
  refine ⟨fun e' => ?_, fun e' => ?_⟩
  · have b := h.dh.tb
    rw [e', b] at a
    exact absurd (congrArg Blk.ety (Option.some.inj a)) (by simp)
  · have b := h.dh.rw
    rw [e', b] at a
    exact absurd (congrArg Blk.ety (Option.some.inj a)) (by simp)
theorem JH.keep (h : JH t d k T P l S) (hf : Fr S S' fun _ => False) : JH t d k T P l S' :=
  ⟨h.th.keep hf (by simp) (fun _ _ _ _ => by simp), h.dh.keep hf (by simp) (by simp)⟩
theorem JH.prog {T' : Tb} {P' : Nat → Nat} (h : JH t d k T P l S) (hf : Fr S S' fun i => i = t) (hT : TH t T' P' S') : JH t d k T' P' l S' :=
  ⟨hT, h.dh.keep hf (fun e => h.td e.symm) (fun e => h.tk e.symm)⟩
theorem JH.set {id : Int} {f : Ro → Ro} (h : JH t d k T P l S) (hs : SetR t T P S id f S') : JH t d k (setT T id f) P l S' :=
  ⟨hs.2, h.dh.keep hs.1 (fun ⟨_, _, hj, hT, e⟩ => (h.pd hj hT).1 e.symm) (fun ⟨_, _, hj, hT, e⟩ => (h.pd hj hT).2 e.symm)⟩
theorem JH.doc {k' : Nat} {l' : List Ro} {x : Nat → Prop} (h : JH t d k T P l S) (hf : Fr S S' x) (hx : ∀ i, x i → i = d ∨ i = k) (hD : DH d k' l' S') : JH t d k' T P l' S' :=
  ⟨h.th.keep hf (fun e => by rcases hx _ e with e | e; exact h.td e; exact h.tk e) (fun j e hj hT e' => by
    rcases hx _ e' with e' | e'
    · exact (h.pd hj hT).1 e'
    · exact (h.pd hj hT).2 e'), hD⟩
/-! What is done to the program's table. -/
theorem jAdd (h : JH t d k T P l S) (a : As) (par now : Int) (hn : -9223372036854775808 ≤ now) : ACalls Try.prog 12 [.ptr t 0, .agg a.cs, .sc (.int .i64 par), .sc (.int .i64 now)] S (fun r S' => r = .tup [.sc (.int .i64 (addI T a par)), .sc (.int .i64 (addE T a par))] ∧ ∃ P', JH t d k (addT T a par now) P' l S') :=
  (add_spec h.th a par now hn).imp fun r S' ⟨h1, h2, P', h3, _⟩ => ⟨h1, P', h.prog h2 h3⟩
theorem jDrop (h : JH t d k T P l S) (hok : ok T) (id : Int) : ACalls Try.prog 21 [.ptr t 0, .sc (.int .i64 id)] S (fun r S' => ∃ G : Nat → Bool, r = .sc (.bool (decide (0 < (dids T G 16).length))) ∧ (∀ j, j < 16 → (G j = true ↔ Rch T (gD id) j)) ∧ JH t d k (delT T G) P l S') :=
  (dropB_spec h.th hok id).imp fun r S' ⟨G, h1, h2, h3, h4⟩ => ⟨G, h4, h1, h.prog h2 h3⟩
theorem jHeard (h : JH t d k T P l S) (id now : Int) (hn : -9223372036854775808 ≤ now) : ACalls Try.prog 36 [.ptr t 0, .sc (.int .i64 id), .sc (.int .i64 now)] S (fun r S' => r = .sc (.bool (get T id).isSome) ∧ JH t d k (setT T id (hearF now)) P l S') :=
  (heard_spec h.th id now hn).imp fun r S' ⟨h1, h2⟩ => ⟨h1, h.set h2⟩
theorem jHops (h : JH t d k T P l S) (hh : hopsOk T) (id : Int) : ACalls Try.prog 40 [.ptr t 0, .sc (.int .i64 id)] S (fun r S' => r = hopV T id ∧ JH t d k (setT T id hopG) P l S') :=
  (hops_spec h.th hh id).imp fun r S' ⟨h1, h2⟩ => ⟨h1, h.set h2⟩
theorem jExpire (h : JH t d k T P l S) (hok : ok T) (now : Int) : ACalls Try.prog 13 [.ptr t 0, .sc (.int .i64 now)] S (fun r S' => ∃ G q, r = .sl q 0 (dids T G 16).length ∧ find q S'.bs = some ⟨nums (dids T G 16), 1, 3⟩ ∧ S.nxt ≤ q ∧ q < S'.nxt ∧ (∀ j, j < 16 → (G j = true ↔ Rch T (gX now) j)) ∧ JH t d k (delT T G) P l S' ∧ Fr S S' fun i => i = t) :=
  (expire_spec h.th hok now).imp fun r S' ⟨G, h1, h2, h3, q, h4, h5, h6, h7⟩ => ⟨G, q, h6, h7, h4, h5, h1, h.prog h2 h3, h2⟩
theorem jMob (h : JH t d k T P l S) (act par : Int) (p : S45) (frm now : Int) (hn : -9223372036854775808 ≤ now) : ACalls Try.prog 14 [.ptr t 0, .sc (.int .i64 act), .sc (.int .i64 par), .agg p.cs, .sc (.int .u32 frm), .sc (.int .i64 now)] S (fun r S' => ∃ x y, r = .tup [.sc (.int .i64 x), .sc (.int .i64 y)] ∧ (x, y) = (match mob T act par p frm with | .error c => (0, c) | .ok (a, q) => (addI T a q, addE T a q)) ∧ ∃ P', JH t d k (mobT T act par p frm now) P' l S') :=
  (mob_spec h.th act par p frm now hn).imp fun r S' hR => by
    unfold MobR at hR
    unfold mobT
    cases hm : mob T act par p frm with
    | error c =>
      rw [hm] at hR
      obtain ⟨h1, h2, h3⟩ := hR
      exact ⟨_, _, h1, rfl, P, h.prog (Fr.mk' h2) h3⟩
    | ok aq =>
      obtain ⟨a, q⟩ := aq
      rw [hm] at hR
      obtain ⟨S1, h1, h2, h3, P', h4, _⟩ := hR
      exact ⟨_, _, h2, rfl, P', h.prog ((Fr.mk' h1).trans h3) h4⟩
/-! What is done to the document's. -/
theorem jAddD (h : JH t d k T P l S) (hl : l.length ≤ 16) (F : Int) (hF : l.length < 16 → FreeId l F) (a : As) (par now : Int) (hn : -9223372036854775808 ≤ now) : ACalls Try.prog 34 [.ptr d 0, .agg a.cs, .sc (.int .i64 par), .sc (.int .i64 now)] S (fun r S' => r = .tup [.sc (.int .i64 (if addEL l a par = 0 then F else 0)), .sc (.int .i64 (addEL l a par))] ∧ ∃ k', JH t d k' T P (if addEL l a par = 0 then addL l F a par now else l) S') :=
  (addD_spec h.dh hl F hF a par now hn).imp fun r S' ⟨h1, h2, k', _, h3⟩ => ⟨h1, k', h.doc h2 (fun i e => .inl e) h3⟩
theorem jDropD (h : JH t d k T P l S) (hl : l.length ≤ 16) (id : Int) : ACalls Try.prog 35 [.ptr d 0, .sc (.int .i64 id)] S (fun r S' => ∃ (b : Bool) (l' : List Ro), r = .sc (.bool b) ∧ ((id = 0 ∨ atL l id < 0) ∧ b = false ∧ l' = l ∨ (id ≠ 0 ∧ 0 ≤ atL l id) ∧ b = true ∧ ∃ L, Bel l id L ∧ l' = rest l L) ∧ ∃ k', JH t d k' T P l' S') :=
  (drop35_spec h.dh hl id).imp fun r S' ⟨k', _, h2, h3⟩ => by
    rcases h3 with ⟨a1, a2, a3⟩ | ⟨a1, a2, L, a3, a4⟩
    · exact ⟨false, l, a2, .inl ⟨a1, rfl, rfl⟩, k', h.doc h2 (fun i e => .inl e) a3⟩
    · exact ⟨true, _, a2, .inr ⟨a1, rfl, L, a3, rfl⟩, k', h.doc h2 (fun i e => .inl e) a4⟩
theorem jSetD {id : Int} {f : Ro → Ro} (h : JH t d k T P l S) (hs : SetD d k l id f S S') : ∃ l', (atL l id < 0 ∧ l' = l ∨ ∃ (i : Nat) (e : Ro), l[i]? = some e ∧ e.id = id ∧ l' = l.set i (f e)) ∧ JH t d k T P l' S' := by
  obtain ⟨h1, h2⟩ := hs
  rcases h2 with ⟨a1, a2⟩ | ⟨i, e, a1, a2, a3, a4⟩
  · exact ⟨l, .inl ⟨a1, rfl⟩, h.doc h1 (fun i e => .inr e) a2⟩
  · exact ⟨_, .inr ⟨i, e, a2, a3, rfl⟩, h.doc h1 (fun i e => .inr e) a4⟩
theorem jHeardD (h : JH t d k T P l S) (hl : l.length ≤ 16) (id now : Int) (hn : -9223372036854775808 ≤ now) : ACalls Try.prog 37 [.ptr d 0, .sc (.int .i64 id), .sc (.int .i64 now)] S (fun r S' => r = .sc (.bool (decide (0 ≤ atL l id))) ∧ ∃ l', (atL l id < 0 ∧ l' = l ∨ ∃ (i : Nat) (e : Ro), l[i]? = some e ∧ e.id = id ∧ l' = l.set i (hearF now e)) ∧ JH t d k T P l' S') :=
  (heardD_spec h.dh hl id now hn).imp fun r S' ⟨h1, h2⟩ => ⟨h1, jSetD h h2⟩
theorem jHopsD (h : JH t d k T P l S) (hl : l.length ≤ 16) (hh : ∀ e ∈ l, 0 ≤ e.hops ∧ e.hops ≤ 9223372036854775806) (id : Int) : ACalls Try.prog 41 [.ptr d 0, .sc (.int .i64 id)] S (fun r S' => r = hopL l id ∧ ∃ l', (atL l id < 0 ∧ l' = l ∨ ∃ (i : Nat) (e : Ro), l[i]? = some e ∧ e.id = id ∧ l' = l.set i (hopG e)) ∧ JH t d k T P l' S') :=
  (hopsD_spec h.dh hl hh id).imp fun r S' ⟨h1, h2⟩ => ⟨h1, jSetD h h2⟩
theorem jExpireD (h : JH t d k T P l S) (hl : l.length ≤ 16) (now : Int) : ACalls Try.prog 39 [.ptr d 0, .sc (.int .i64 now)] S (fun r S' => ∃ L q, r = .sl q 0 (gone l L).length ∧ find q S'.bs = some ⟨nums (gone l L), 1, 3⟩ ∧ S.nxt ≤ q ∧ q < S'.nxt ∧ (∀ n, n ∈ L ↔ XL l now l.length n) ∧ (∃ k', JH t d k' T P (rest l L) S') ∧ Fr S S' fun i => i = d) :=
  (expireD_spec h.dh hl now).imp fun r S' ⟨L, h1, k', g, a1, a2, a3, a4, a5, a6, a7⟩ => ⟨L, g, a1, a2, a3, a4, h1, ⟨k', h.doc a7 (fun i e => .inl e) a5⟩, a7⟩
theorem jMobD (h : JH t d k T P l S) (hl : l.length ≤ 16) (F : Int) (hF : l.length < 16 → FreeId l F) (act par : Int) (p : S45) (frm now : Int) (hn : -9223372036854775808 ≤ now) : ACalls Try.prog 43 [.ptr d 0, .sc (.int .i64 act), .sc (.int .i64 par), .agg p.cs, .sc (.int .u32 frm), .sc (.int .i64 now)] S (fun r S' => ∃ x y l', r = .tup [.sc (.int .i64 x), .sc (.int .i64 y)] ∧ ((x, y), l') = (match mobO (getLr l par) act par p frm with | .error c => ((0, c), l) | .ok (a, q) => ((if addEL l a q = 0 then F else 0, addEL l a q), if addEL l a q = 0 then addL l F a q now else l)) ∧ ∃ k', JH t d k' T P l' S') :=
  (mobD_spec h.dh hl F hF act par p frm now hn).imp fun r S' hR => by
    unfold MobDR at hR
    cases hm : mobO (getLr l par) act par p frm with
    | error c =>
      rw [hm] at hR
      obtain ⟨h1, h2, h3⟩ := hR
      exact ⟨_, _, _, h1, rfl, k, h.doc h2 (fun i e => e.elim) h3⟩
    | ok aq =>
      obtain ⟨a, q⟩ := aq
      rw [hm] at hR
      obtain ⟨S1, h1, h2, h3, k', _, h4⟩ := hR
      exact ⟨_, _, _, h2, rfl, k', h.doc ((Fr.mk' h1).trans h3) (fun i e => .inl e) h4⟩
end
end Go.Proofs.Ytcidoghpacihpaa.Sx
namespace Go.Proofs.Ytcidoghpacihpaa.Sx
open Go Go.RowKit
attribute [local irreducible] tvs tcs
theorem eq40g (D : Nat) (a b : As) (w : World) : (Op.equalIn (D + 2) 40 (.agg a.vs.toArray) (.agg b.vs.toArray)).run Try.prog w = .ok (asEq a b) w := by
  rw [run_equalIn_struct w (D + 1) 40 _ _ (by kernel_rfl) (by kernel_rfl)]
  rw [show (Try.prog.fieldsOf 40).toList = [{ name := "Kind", type := 3, offset := 0, embedded := false, tag := "", pkgPath := "", byteOffset := 0 }, { name := "Addr", type := 38, offset := 1, embedded := false, tag := "", pkgPath := "", byteOffset := 8 }, { name := "Key", type := 3, offset := 2, embedded := false, tag := "", pkgPath := "", byteOffset := 16 }, { name := "MinPoll", type := 3, offset := 3, embedded := false, tag := "", pkgPath := "", byteOffset := 24 }, { name := "MaxPoll", type := 3, offset := 4, embedded := false, tag := "", pkgPath := "", byteOffset := 32 }, { name := "Burst", type := 4, offset := 5, embedded := false, tag := "", pkgPath := "", byteOffset := 40 }, { name := "Iburst", type := 4, offset := 6, embedded := false, tag := "", pkgPath := "", byteOffset := 41 }, { name := "Prefer", type := 4, offset := 7, embedded := false, tag := "", pkgPath := "", byteOffset := 42 }, { name := "TTL", type := 3, offset := 8, embedded := false, tag := "", pkgPath := "", byteOffset := 48 }, { name := "Pulse", type := 4, offset := 9, embedded := false, tag := "", pkgPath := "", byteOffset := 56 }, { name := "Fudge", type := 30, offset := 10, embedded := false, tag := "", pkgPath := "", byteOffset := 64 }, { name := "Stratum", type := 3, offset := 11, embedded := false, tag := "", pkgPath := "", byteOffset := 72 }] by kernel_rfl]
  refine eqF_cons (a := .int .i64 a.kind) (b := .int .i64 b.kind) (by decide) (part_one inferInstance rfl) (part_one inferInstance rfl) (run_equalIn_int _ D 3 _ _ _ _ Try.underlying3) ?_
  refine eqF_cons (a := .int .u32 a.addr) (b := .int .u32 b.addr) (by decide) (part_one inferInstance rfl) (part_one inferInstance rfl) (run_equalIn_int _ D 38 _ _ _ _ Try.underlying38) ?_
  refine eqF_cons (a := .int .i64 a.key) (b := .int .i64 b.key) (by decide) (part_one inferInstance rfl) (part_one inferInstance rfl) (run_equalIn_int _ D 3 _ _ _ _ Try.underlying3) ?_
  refine eqF_cons (a := .int .i64 a.minp) (b := .int .i64 b.minp) (by decide) (part_one inferInstance rfl) (part_one inferInstance rfl) (run_equalIn_int _ D 3 _ _ _ _ Try.underlying3) ?_
  refine eqF_cons (a := .int .i64 a.maxp) (b := .int .i64 b.maxp) (by decide) (part_one inferInstance rfl) (part_one inferInstance rfl) (run_equalIn_int _ D 3 _ _ _ _ Try.underlying3) ?_
  refine eqF_cons (a := .bool a.burst) (b := .bool b.burst) (by decide) (part_one inferInstance rfl) (part_one inferInstance rfl) (run_equalIn_bool _ D 4 _ _ Try.underlying4) ?_
  refine eqF_cons (a := .bool a.iburst) (b := .bool b.iburst) (by decide) (part_one inferInstance rfl) (part_one inferInstance rfl) (run_equalIn_bool _ D 4 _ _ Try.underlying4) ?_
  refine eqF_cons (a := .bool a.prefer) (b := .bool b.prefer) (by decide) (part_one inferInstance rfl) (part_one inferInstance rfl) (run_equalIn_bool _ D 4 _ _ Try.underlying4) ?_
  refine eqF_cons (a := .int .i64 a.ttl) (b := .int .i64 b.ttl) (by decide) (part_one inferInstance rfl) (part_one inferInstance rfl) (run_equalIn_int _ D 3 _ _ _ _ Try.underlying3) ?_
  refine eqF_cons (a := .bool a.pulse) (b := .bool b.pulse) (by decide) (part_one inferInstance rfl) (part_one inferInstance rfl) (run_equalIn_bool _ D 4 _ _ Try.underlying4) ?_
  refine eqF_cons (a := .int .i64 a.fudge) (b := .int .i64 b.fudge) (by decide) (part_one inferInstance rfl) (part_one inferInstance rfl) (run_equalIn_int _ D 30 _ _ _ _ Try.underlying30) ?_
  refine eqF_cons (a := .int .i64 a.stratum) (b := .int .i64 b.stratum) (by decide) (part_one inferInstance rfl) (part_one inferInstance rfl) (run_equalIn_int _ D 3 _ _ _ _ Try.underlying3) ?_
  exact eqF_nil
def Ro.vs (e : Ro) : List Value := .int .i64 e.id :: e.a.vs ++ [.int .i64 e.par, .int .i64 e.ends]
theorem part_agg {P : Program} {w : World} {t : TypeId} {cs : Array Value} {off size bytes : Nat} {zero : Value} [h : Agg P t true] [hi : Inf P t size bytes zero] : (part t cs off).run P w = .ok (.agg (cs.extract off (off + size))) w := by
  obtain ⟨i, hi1, hi2, _, _⟩ := hi.get
  simp [part, run_isAgg' h, run_sizeOf' hi1, hi2]
theorem eq56s (e : Ro) (w : World) : (Op.equalIn 10000 56 (.agg e.vs.toArray) (.agg e.vs.toArray)).run Try.prog w = .ok true w := by
  rw [run_equalIn_struct w 9999 56 _ _ (by kernel_rfl) (by kernel_rfl)]
  rw [show (Try.prog.fieldsOf 56).toList = [{ name := "ID", type := 3, offset := 0, embedded := false, tag := "", pkgPath := "", byteOffset := 0 }, { name := "Assoc", type := 40, offset := 1, embedded := false, tag := "", pkgPath := "", byteOffset := 8 }, { name := "Parent", type := 3, offset := 13, embedded := false, tag := "", pkgPath := "", byteOffset := 88 }, { name := "Ends", type := 3, offset := 14, embedded := false, tag := "", pkgPath := "", byteOffset := 96 }] by kernel_rfl]
  have h40 := eq40g 9997 e.a e.a w
  rw [asEq_self] at h40
  have hp : (part 40 e.vs.toArray 1).run Try.prog w = .ok (.agg e.a.vs.toArray) w := by
    rw [part_agg]
    rfl
  have h3 : ∀ n : Int, (Op.equalIn 9999 3 (.int .i64 n) (.int .i64 n)).run Try.prog w = .ok true w := fun n => by
    have := run_equalIn_int (P := Try.prog) w 9998 3 .i64 .i64 n n Try.underlying3
    rw [this]
    simp
  exact eqF_cons (a := .int .i64 e.id) (b := .int .i64 e.id) (r := true) (q := true) (by decide) (part_one inferInstance rfl) (part_one inferInstance rfl) (h3 _)
    (eqF_cons (r := true) (q := true) (by decide) hp hp h40
    (eqF_cons (a := .int .i64 e.par) (b := .int .i64 e.par) (r := true) (q := true) (by decide) (part_one inferInstance rfl) (part_one inferInstance rfl) (h3 _)
    (eqF_cons (a := .int .i64 e.ends) (b := .int .i64 e.ends) (r := true) (q := true) (by decide) (part_one inferInstance rfl) (part_one inferInstance rfl) (h3 _) eqF_nil)))
theorem rch_ds {T : Tb} (h : ok T) {g : Ro → Bool} : (∀ j, Rch T g j → ∃ r ∈ rows T 16, g r = true ∧ Ds (rows T 16) r.id ((j : Int) + 1)) ∧ ∀ r ∈ rows T 16, g r = true → ∀ n, Ds (rows T 16) r.id n → 1 ≤ n ∧ n ≤ 16 ∧ Rch T g (n - 1).toNat := by
  have mem : ∀ {j : Nat} {e : Ro}, j < 16 → T j = some e → e ∈ rows T 16 := fun {j e} hj hT => by
    have := get_L h (e.id)
    rw [getLr_find] at this
    have he := h j e hj hT
    unfold get at this
    rw [if_pos (by omega), show (e.id - 1).toNat = j by omega, hT] at this
    exact List.mem_of_find?_eq_some this.symm
  refine ⟨fun j hr => ?_, fun r hr hg n hd => ?_⟩
  · induction hr with
    | @base j e hj hT hg =>
      have he := h j e hj hT
      exact ⟨e, mem hj hT, hg, by rw [← he]; exact .base⟩
    | @step j e hj hT h1 h16 _ ih =>
      obtain ⟨r, a1, a2, a3⟩ := ih
      have he := h j e hj hT
      rw [show (((e.par - 1).toNat : Nat) : Int) + 1 = e.par by omega] at a3
      exact ⟨r, a1, a2, by rw [← he]; exact .step (mem hj hT) a3⟩
  · induction hd with
    | base =>
      obtain ⟨j, hj, hT⟩ := rows_mem hr
      have he := h j r hj hT
      refine ⟨by omega, by omega, ?_⟩
      rw [show (r.id - 1).toNat = j by omega]
      exact .base hj hT hg
    | @step e he _ ih =>
      obtain ⟨j, hj, hT⟩ := rows_mem he
      have hid := h j e hj hT
      refine ⟨by omega, by omega, ?_⟩
      rw [show (e.id - 1).toNat = j by omega]
      exact .step hj hT ih.1 ih.2.1 ih.2.2
theorem addSync {T : Tb} (h : ok T) (a : As) (par now : Int) : (if addEL (rows T 16) a par = 0 then addL (rows T 16) (free T + 1) a par now else rows T 16) = rows (addT T a par now) 16 := by
  rw [← addE_L h]
  by_cases he : addE T a par = 0
  · rw [if_pos he, addT_L h he]
  · rw [if_neg he, add_no he]
theorem dropSync {T : Tb} (h : ok T) {id : Int} {G : Nat → Bool} (hG : ∀ j, j < 16 → (G j = true ↔ Rch T (gD id) j)) {b : Bool} {l' : List Ro} (hd : (id = 0 ∨ atL (rows T 16) id < 0) ∧ b = false ∧ l' = rows T 16 ∨ (id ≠ 0 ∧ 0 ≤ atL (rows T 16) id) ∧ b = true ∧ ∃ L, Bel (rows T 16) id L ∧ l' = rest (rows T 16) L) : decide (0 < (dids T G 16).length) = b ∧ l' = rows (delT T G) 16 := by
  rcases hd with ⟨h0, rfl, rfl⟩ | ⟨⟨h0, h1⟩, rfl, L, hL, rfl⟩
  · have hno : ∀ r ∈ rows T 16, gD id r = false := fun r hr => by
      obtain ⟨q, hq, e'⟩ := List.getElem_of_mem hr
      have hid := rows_id h (Nat.le_refl 16) hr
      refine decide_eq_false fun e => ?_
      rcases h0 with h0 | h0
      · omega
      · rcases atL_cases (rows T 16) id with ⟨_, hn⟩ | ⟨i, e, a, _⟩
        · exact hn q r (by rw [List.getElem?_eq_getElem hq, e']) e
        · omega
    have hGf : ∀ j e, j < 16 → T j = some e → G j = false := fun j e hj hT => by
      cases hGj : G j with
      | false => rfl
      | true =>
        obtain ⟨r, a1, a2, _⟩ := (rch_ds h).1 j ((hG j hj).1 hGj)
        rw [hno r a1] at a2
        cases a2
    rw [dids_none 16 hGf]
    exact ⟨rfl, rows_cong fun j hj => (del_same hGf j hj).symm⟩
  · have hm : ∀ j e, j < 16 → T j = some e → (G j = true ↔ e.id ∈ L) := fun j e hj hT => by
      have he := h j e hj hT
      rw [hG j hj, hL.iff]
      constructor
      · intro hr
        obtain ⟨r, a1, a2, a3⟩ := (rch_ds h).1 j hr
        rw [show r.id = id from of_decide_eq_true a2, ← he] at a3
        exact a3
      · intro hd
        rcases atL_cases (rows T 16) id with ⟨a, _⟩ | ⟨i, r, a, _, b, c⟩
        · omega
        · rw [← c] at hd
          have := ((rch_ds h (g := gD id)).2 r (List.mem_of_getElem? b) (decide_eq_true c) e.id hd).2.2
          rwa [show (e.id - 1).toNat = j by omega] at this
    obtain ⟨d1, d2⟩ := del_L (L := L) 16 hm
    refine ⟨?_, d1.symm⟩
    rw [d2]
    refine decide_eq_true ?_
    rcases atL_cases (rows T 16) id with ⟨a, _⟩ | ⟨i, r, a, _, b, c⟩
    · omega
    · have : r.id ∈ gone (rows T 16) L := List.mem_map_of_mem (List.mem_filter.2 ⟨List.mem_of_getElem? b, decide_eq_true (by rw [c]; exact hL.me)⟩)
      exact List.length_pos_of_mem this
theorem expSync {T : Tb} (h : ok T) {now : Int} {G : Nat → Bool} (hG : ∀ j, j < 16 → (G j = true ↔ Rch T (gX now) j)) {L : List Int} (hL : ∀ n, n ∈ L ↔ XL (rows T 16) now (rows T 16).length n) : dids T G 16 = gone (rows T 16) L ∧ rest (rows T 16) L = rows (delT T G) 16 := by
  have hm : ∀ j e, j < 16 → T j = some e → (G j = true ↔ e.id ∈ L) := fun j e hj hT => by
    have he := h j e hj hT
    rw [hG j hj, hL]
    constructor
    · intro hr
      obtain ⟨r, a1, a2, a3⟩ := (rch_ds h).1 j hr
      rw [← he] at a3
      obtain ⟨q, hq, e'⟩ := List.getElem_of_mem a1
      exact ⟨q, r, hq, by rw [List.getElem?_eq_getElem hq, e'], a2, a3⟩
    · rintro ⟨q, r, _, a1, a2, a3⟩
      have := ((rch_ds h).2 r (List.mem_of_getElem? a1) a2 e.id a3).2.2
      rwa [show (e.id - 1).toNat = j by omega] at this
  obtain ⟨d1, d2⟩ := del_L (L := L) 16 hm
  exact ⟨d2, d1.symm⟩
theorem setSync {T : Tb} (h : ok T) {id : Int} {f : Ro → Ro} {l' : List Ro} (hl : atL (rows T 16) id < 0 ∧ l' = rows T 16 ∨ ∃ (i : Nat) (e : Ro), (rows T 16)[i]? = some e ∧ e.id = id ∧ l' = (rows T 16).set i (f e)) : l' = rows (setT T id f) 16 := by
  rcases hl with ⟨a, rfl⟩ | ⟨i, e, a, b, rfl⟩
  · exact ((set_L h f).1 a).symm
  · exact ((set_L h f).2 i e a b).symm
theorem mobSync {T : Tb} (h : ok T) {act par : Int} {p : S45} {frm now x y x' y' : Int} {l' : List Ro} (h1 : (x, y) = (match mob T act par p frm with | .error c => (0, c) | .ok (a, q) => (addI T a q, addE T a q))) (h2 : ((x', y'), l') = (match mobO (getLr (rows T 16) par) act par p frm with | .error c => ((0, c), rows T 16) | .ok (a, q) => ((if addEL (rows T 16) a q = 0 then free T + 1 else 0, addEL (rows T 16) a q), if addEL (rows T 16) a q = 0 then addL (rows T 16) (free T + 1) a q now else rows T 16))) : x' = x ∧ y' = y ∧ l' = rows (mobT T act par p frm now) 16 := by
  unfold mobT
  rw [mob_O, get_L h] at h1 ⊢
  cases hm : mobO (getLr (rows T 16) par) act par p frm with
  | error c =>
    rw [hm] at h1 h2
    cases h1
    cases h2
    exact ⟨rfl, rfl, rfl⟩
  | ok aq =>
    obtain ⟨a, q⟩ := aq
    rw [hm] at h1 h2
    dsimp only at h1 h2 ⊢
    rw [addSync h, ← addE_L h] at h2
    cases h1
    cases h2
    exact ⟨rfl, rfl, rfl⟩
def hopsLe (n : Int) (T : Tb) : Prop := ∀ j e, j < 16 → T j = some e → 0 ≤ e.hops ∧ e.hops ≤ n
theorem hopsLe.add {n : Int} {T : Tb} (h : hopsLe n T) (hn : 0 ≤ n) (a : As) (par now : Int) : hopsLe (n + 1) (addT T a par now) := fun j e hj hT => by
  unfold addT at hT
  split at hT
  · unfold upd1 at hT
    split at hT
    · cases hT
      exact ⟨Int.le_refl 0, show (0 : Int) ≤ n + 1 by omega⟩
    · have := h j e hj hT
      omega
  · have := h j e hj hT
    omega
theorem hopsLe.mono {n m : Int} {T : Tb} (h : hopsLe n T) (hm : n ≤ m) : hopsLe m T := fun j e hj hT => by
  have := h j e hj hT
  omega
theorem hopsLe.mob {n : Int} {T : Tb} (h : hopsLe n T) (hn : 0 ≤ n) (act par : Int) (p : S45) (frm now : Int) : hopsLe (n + 1) (mobT T act par p frm now) := by
  unfold mobT
  split
  · exact h.mono (by omega)
  · exact h.add hn _ _ _
theorem hopsLe.del {n : Int} {T : Tb} (h : hopsLe n T) (G : Nat → Bool) : hopsLe (n + 1) (delT T G) := fun j e hj hT => by
  unfold delT at hT
  split at hT
  · cases hT
  · have := h j e hj hT
    omega
theorem hopsLe.set {n : Int} {T : Tb} (h : hopsLe n T) (id : Int) {f : Ro → Ro} (hf : ∀ e, 0 ≤ e.hops → e.hops ≤ n → 0 ≤ (f e).hops ∧ (f e).hops ≤ n + 1) : hopsLe (n + 1) (setT T id f) := fun j e hj hT => by
  unfold setT at hT
  split at hT
  · cases hT' : T j with
    | none => rw [hT'] at hT; cases hT
    | some x =>
      rw [hT'] at hT
      cases hT
      have := h j x hj hT'
      exact hf x this.1 this.2
  · have := h j e hj hT
    omega
theorem delOk {T : Tb} (h : ok T) (G : Nat → Bool) : ok (delT T G) := fun j e hj hT => by
  unfold delT at hT
  split at hT
  · cases hT
  · exact h j e hj hT
theorem hops_rows {T : Tb} {n : Int} (h : hopsLe n T) : ∀ e ∈ rows T 16, 0 ≤ e.hops ∧ e.hops ≤ n := fun e he => by
  obtain ⟨j, hj, hT⟩ := rows_mem he
  exact h j e hj hT
end Go.Proofs.Ytcidoghpacihpaa.Sx
