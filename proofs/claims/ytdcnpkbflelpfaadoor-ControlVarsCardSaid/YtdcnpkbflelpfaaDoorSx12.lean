/- The arguments of a row, opened: whatever can be read stands for abstract values of its type; the row's end. -/
import Derived.Test.YtdcnpkbflelpfaaDoorSx11
import Derived.ChangeArms
import Derived.OpenShut
import Derived.DataReads
import Derived.Carry
import Derived.ChangeSame
import Derived.RowKitTokens
namespace Go.Proofs.YtdcnpkbflelpfaaDoor.Sx
open Go Go.RowKit Go.ChangeShapes

/-- The fields lie one behind the other. -/
def tiles (P : Program) : List Field → Nat → Option Nat
  | [], o => some o
  | f :: l, o => match Nat.beq f.offset o with | true => tiles P l (o + P.cellsOf f.type) | false => none
/-- Values of a type, as one reads them. -/
def Typ (P : Program) : Nat → TypeId → List AV → Prop
  | 0, _, _ => False
  | n + 1, t, avs => match P.underlying t with
    | some .bool => ∃ b, avs = [.sc (.bool b)]
    | some (.int k) => ∃ m, avs = [.sc (.int k m)] ∧ (Lit.int k m).wf = true
    | some .string => ∃ s : ByteArray, avs = [.sc (.string s)] ∧ s.size ≤ maxLen
    | some (.slice e) => ∃ (len : Nat) (cells : List AV), (avs = [.vsl cells (P.cellsOf e) 0 len] ∨ P.cellsOf e = 0) ∧ len ≤ maxLen ∧ cells.length = len * P.cellsOf e ∧ ∀ i, i < len → Typ P n e ((cells.drop (i * P.cellsOf e)).take (P.cellsOf e))
    | some (.struct fs) => tiles P fs.toList 0 = some (P.cellsOf t) → avs.length = P.cellsOf t ∧ ∀ f ∈ fs.toList, Typ P n f.type ((avs.drop f.offset).take (P.cellsOf f.type))
    | some (.array k e) => P.cellsOf t = k * P.cellsOf e → avs.length = P.cellsOf t ∧ ∀ i, i < k → Typ P n e ((avs.drop (i * P.cellsOf e)).take (P.cellsOf e))
    | _ => True
theorem tiles_le {P : Program} : ∀ {l : List Field} {o e : Nat}, tiles P l o = some e → o ≤ e ∧ ∀ f ∈ l, o ≤ f.offset ∧ f.offset + P.cellsOf f.type ≤ e
  | [], o, e, h => by simp [tiles] at h; subst h; exact ⟨Nat.le_refl _, by simp⟩
  | f :: l, o, e, h => by
    unfold tiles at h
    cases hb : Nat.beq f.offset o with
    | false => rw [hb] at h; cases h
    | true =>
      rw [hb] at h
      have ho := Nat.eq_of_beq_eq_true hb
      obtain ⟨h1, h2⟩ := tiles_le h
      refine ⟨by omega, fun g hg => ?_⟩
      rcases List.mem_cons.1 hg with rfl | hg
      · omega
      · have := h2 g hg; omega
theorem glue {P : Program} {ρ : Nat → Option Geo} {Z : Nat → Option Obj} {n : Nat} {cs : List Value} : ∀ {l : List Field} {o : Nat}, tiles P l o = some cs.length →
    (∀ f ∈ l, ∃ avs, avs.length = P.cellsOf f.type ∧ RelP ρ Z avs ((cs.drop f.offset).take (P.cellsOf f.type)) ∧ Typ P n f.type avs) →
    ∃ avs, avs.length = cs.length - o ∧ RelP ρ Z avs (cs.drop o) ∧ ∀ f ∈ l, Typ P n f.type ((avs.drop (f.offset - o)).take (P.cellsOf f.type))
  | [], o, h, _ => by simp [tiles] at h; subst h; exact ⟨[], by simp, trivial, by simp⟩
  | f :: l, o, h, hf => by
    have hle := tiles_le h
    unfold tiles at h
    cases hb : Nat.beq f.offset o with
    | false => rw [hb] at h; cases h
    | true =>
      rw [hb] at h
      have ho := Nat.eq_of_beq_eq_true hb
      obtain ⟨as, h1, h2, h3⟩ := hf f (by simp)
      obtain ⟨bs, g1, g2, g3⟩ := glue h (fun g hg => hf g (by simp [hg]))
      have hle' := tiles_le h
      rw [ho] at h2
      have hlen : ((cs.drop o).take (P.cellsOf f.type)).length = as.length := by simp; omega
      refine ⟨as ++ bs, by simp; omega, ?_, fun g hg => ?_⟩
      · have := RelP.append hlen.symm h2 g2
        rwa [show cs.drop (o + P.cellsOf f.type) = (cs.drop o).drop (P.cellsOf f.type) by simp [List.drop_drop], List.take_append_drop] at this
      · rcases List.mem_cons.1 hg with rfl | hg
        · rw [show g.offset - o = 0 by omega, List.drop_zero, List.take_append_of_le_length (by omega), List.take_of_length_le (by omega)]
          exact h3
        · have := (hle'.2 g hg).1
          have e : (as ++ bs).drop (g.offset - o) = bs.drop (g.offset - (o + P.cellsOf f.type)) := by
            rw [List.drop_append, List.drop_eq_nil_of_le (by omega), List.nil_append]
            congr 1; omega
          rw [e]
          exact g3 g hg
theorem row_glue {P : Program} {ρ : Nat → Option Geo} {Z : Nat → Option Obj} {n : Nat} {e : TypeId} {esz : Nat} {c : List Value} : ∀ len : Nat,
    (∀ i, i < len → ∃ avs cs', avs.length = esz ∧ cs'.length = esz ∧ RelP ρ Z avs cs' ∧ (∀ j, j < esz → c[i * esz + j]? = cs'[j]?) ∧ Typ P n e avs) →
    ∃ cells, cells.length = len * esz ∧ RelP ρ Z cells c ∧ ∀ i, i < len → Typ P n e ((cells.drop (i * esz)).take esz)
  | 0, _ => ⟨[], by simp, trivial, by simp⟩
  | len + 1, h => by
    obtain ⟨cells, h1, h2, h3⟩ := row_glue len (fun i hi => h i (by omega))
    obtain ⟨avs, cs', g1, g2, g3, g4, g5⟩ := h len (by omega)
    have hs : (len + 1) * esz = len * esz + esz := Nat.succ_mul ..
    have hc : len * esz + esz ≤ c.length ∨ esz = 0 := by
      rcases Nat.eq_zero_or_pos esz with h0 | h0
      · exact .inr h0
      · left
        have := g4 (esz - 1) (by omega)
        rw [List.getElem?_eq_getElem (l := cs') (by omega)] at this
        have := (List.getElem?_eq_some_iff.1 this).1
        omega
    have hcl : len * esz ≤ c.length := by have := h2.length; omega
    refine ⟨cells ++ avs, by simp [h1, g1, hs], ?_, fun i hi => ?_⟩
    · have e1 : c = c.take (len * esz) ++ (cs' ++ c.drop (len * esz + esz)) := by
        have e2 : c.drop (len * esz) = cs' ++ c.drop (len * esz + esz) := by
          apply List.ext_getElem?
          intro j
          rw [List.getElem?_drop]
          by_cases hj : j < esz
          · rw [g4 j hj, List.getElem?_append_left (by omega)]
          · rw [List.getElem?_append_right (by omega), List.getElem?_drop]
            congr 1; omega
        rw [← e2, List.take_append_drop]
      rw [e1]
      have a := h2.take (len * esz)
      rw [List.take_of_length_le (by omega)] at a
      exact RelP.append (by simp; omega) a g3.more
    · by_cases hi' : i < len
      · have hm : (i + 1) * esz ≤ len * esz := Nat.mul_le_mul_right _ hi'
        rw [Nat.succ_mul] at hm
        rw [List.drop_append_of_le_length (by omega), List.take_append_of_le_length (by simp; omega)]
        exact h3 i hi'
      · obtain rfl : i = len := by omega
        rw [List.drop_append, List.drop_eq_nil_of_le (by omega), List.nil_append, show i * esz - cells.length = 0 by omega, List.drop_zero, List.take_of_length_le (by omega)]
        exact g5
theorem relP_junk (ρ : Nat → Option Geo) (Z : Nat → Option Obj) : ∀ cs : List Value, RelP ρ Z (cs.map fun _ => .junk) cs
  | [] => trivial
  | _ :: cs => ⟨trivial, relP_junk ρ Z cs⟩
theorem open_avs {H : Type} {enc : TypeId × Value → H} {P : Program} (W : World) (ρ : Nat → Option Geo) : ∀ (fuel : Nat) (t : TypeId) (cs : List Value) (x : DataW H × List MemPlace), DataW.trod enc P W 0 (fun _ => true) true fuel t cs = some x →
    ∃ avs, avs.length = cs.length ∧ RelP ρ (fun b => W.heap[b]?) avs cs ∧ Typ P fuel t avs
  | 0, t, cs, x, h => by simp [DataW.trod] at h
  | n + 1, t, cs, x, h => by
    have other : (∀ avs, Typ P (n + 1) t avs) → ∃ avs, avs.length = cs.length ∧ RelP ρ (fun b => W.heap[b]?) avs cs ∧ Typ P (n + 1) t avs := fun hT =>
      ⟨cs.map fun _ => .junk, by simp, relP_junk _ _ _, hT _⟩
    cases hu : P.underlying t with
    | none => exact other fun avs => by unfold Typ; rw [hu]; trivial
    | some d =>
      cases d with
      | bool =>
        obtain ⟨b, rfl, _⟩ := DataW.trod_bool hu h
        exact ⟨[.sc (.bool b)], rfl, ⟨rfl, trivial⟩, by unfold Typ; rw [hu]; exact ⟨b, rfl⟩⟩
      | int k =>
        obtain ⟨m, rfl, _, hw⟩ := DataW.trod_int hu h
        exact ⟨[.sc (.int k m)], rfl, ⟨rfl, trivial⟩, by unfold Typ; rw [hu]; exact ⟨m, rfl, hw⟩⟩
      | string =>
        obtain ⟨s, rfl, _, hs⟩ := DataW.trod_string hu h
        exact ⟨[.sc (.string s)], rfl, ⟨rfl, trivial⟩, by unfold Typ; rw [hu]; exact ⟨s, rfl, hs⟩⟩
      | struct fs =>
        obtain ⟨xs, m, hm, _, hlen, hxs, hf⟩ := DataW.trod_struct hu h
        cases hm
        by_cases ht : tiles P fs.toList 0 = some (P.cellsOf t)
        case neg =>
          exact ⟨cs.map fun _ => .junk, by simp, relP_junk _ _ _, by unfold Typ; rw [hu]; exact fun h => absurd h ht⟩
        rw [← hlen] at ht
        have hle := tiles_le ht
        obtain ⟨avs, h1, h2, h3⟩ := glue (ρ := ρ) (Z := fun b => W.heap[b]?) (n := n) ht (fun f hfm => by
          obtain ⟨i, hi⟩ := List.getElem?_of_mem hfm
          have hi' : fs[i]? = some f := by simpa using hi
          have hlt : i < xs.length := by
            have := (Array.getElem?_eq_some_iff.1 hi').1
            omega
          have := hf i f hi'
          rw [List.getElem?_eq_getElem hlt] at this
          obtain ⟨avs, a1, a2, a3⟩ := open_avs W ρ n f.type _ _ this
          refine ⟨avs, ?_, a2, a3⟩
          rw [a1]
          have := (hle.2 f hfm).2
          simp; omega)
        refine ⟨avs, by simpa using h1, by simpa using h2, ?_⟩
        unfold Typ
        rw [hu]
        exact fun _ => ⟨by omega, fun f hf => by simpa using h3 f hf⟩
      | array k e =>
        obtain ⟨xs, m, hm, _, hlen, hxs, hf⟩ := DataW.trod_array hu h
        cases hm
        by_cases ht : P.cellsOf t = k * P.cellsOf e
        case neg =>
          exact ⟨cs.map fun _ => .junk, by simp, relP_junk _ _ _, by unfold Typ; rw [hu]; exact fun h => absurd h ht⟩
        obtain ⟨avs, g1, g2, g3⟩ := row_glue (P := P) (ρ := ρ) (Z := fun b => W.heap[b]?) (n := n) (e := e) (esz := P.cellsOf e) (c := cs) k (fun i hi => by
          have h0 := hf i hi
          rw [List.getElem?_eq_getElem (by omega)] at h0
          obtain ⟨avs, a1, a2, a3⟩ := open_avs W ρ n e _ _ h0
          have hm : (i + 1) * P.cellsOf e ≤ k * P.cellsOf e := Nat.mul_le_mul_right _ hi
          rw [Nat.succ_mul] at hm
          have hl : ((cs.drop (i * P.cellsOf e)).take (P.cellsOf e)).length = P.cellsOf e := by simp; omega
          refine ⟨avs, _, by omega, hl, a2, fun j hj => ?_, a3⟩
          rw [List.getElem?_take_of_lt hj, List.getElem?_drop])
        refine ⟨avs, by omega, g2, ?_⟩
        unfold Typ
        rw [hu]
        exact fun _ => ⟨by omega, g3⟩
      | slice e =>
        rcases DataW.trod_slice hu h with ⟨rfl, _⟩ | ⟨a, len, cap, elems, rest, m, hm, rfl, _, hb, hlc, hc, hel, hx, _⟩
        · exact ⟨[.vsl [] (P.cellsOf e) 0 0], rfl, ⟨⟨none, 0, rfl, Nat.le_refl _, by simp, fun h => by omega⟩, trivial⟩, by
            unfold Typ; rw [hu]; exact ⟨0, [], .inl rfl, by simp, by simp, by simp⟩⟩
        · cases hm
          have step : ∀ i, i < len → ∃ cs' y, W.cells? 0 (a.add (i * P.cellsOf e)) (P.cellsOf e) = some cs' ∧ DataW.trod enc P W 0 (fun _ => true) true n e cs' = some y := fun i hi => by
            have := hx i hi
            rw [List.getElem?_eq_getElem (by omega), Option.bind_eq_some_iff] at this
            obtain ⟨cs', h1, h2⟩ := this
            exact ⟨cs', _, h1, h2⟩
          rcases Nat.eq_zero_or_pos (P.cellsOf e) with hz | hz
          · -- elements that hold nothing
            refine ⟨[.junk], rfl, ⟨trivial, trivial⟩, ?_⟩
            unfold Typ
            rw [hu]
            refine ⟨len, [], .inr hz, Nat.le_trans hlc hc, by simp [hz], fun i hi => ?_⟩
            obtain ⟨cs', y, h1, h2⟩ := step i hi
            obtain ⟨_, hlen, _⟩ := World.cells?_some h1
            obtain ⟨avs, a1, _, a3⟩ := open_avs W ρ n e _ _ h2
            have : avs = [] := List.length_eq_zero_iff.1 (by omega)
            subst this
            simpa using a3
          · rcases Nat.eq_zero_or_pos len with h0 | h0
            · subst h0
              exact ⟨[.vsl [] (P.cellsOf e) 0 0], rfl, ⟨⟨some a, cap, rfl, by omega, by simp, fun h => by omega⟩, trivial⟩, by
                unfold Typ; rw [hu]; exact ⟨0, [], .inl rfl, by simp, by simp, by simp⟩⟩
            · -- the block
              obtain ⟨c0, _, h1, _⟩ := step 0 h0
              obtain ⟨_, hl0, hc0⟩ := World.cells?_some h1
              have hcell := hc0 0 hz
              rw [List.getElem?_eq_getElem (by omega)] at hcell
              simp only [Nat.zero_mul, Addr.add, if_true] at hcell
              obtain ⟨b, off, spot⟩ := a
              unfold World.cell? at hcell
              cases hbk : W.heap[b]? with
              | none => simp only [hbk] at hcell; cases hcell
              | some o =>
                cases o with
                | cells c ety fr =>
                  simp only [hbk] at hcell
                  cases spot with
                  | some s => simp at hcell
                  | none =>
                    obtain ⟨cells, g1, g2, g3⟩ := row_glue (P := P) (ρ := fun _ => none) (Z := fun b => W.heap[b]?) (n := n) (e := e) (esz := P.cellsOf e) (c := c.toList.drop off) len (fun i hi => by
                      obtain ⟨cs', y, h1, h2⟩ := step i hi
                      obtain ⟨_, hlen, hcs⟩ := World.cells?_some h1
                      obtain ⟨avs, a1, a2, a3⟩ := open_avs W (fun _ => none) n e _ _ h2
                      refine ⟨avs, cs', by omega, hlen, a2, fun j hj => ?_, a3⟩
                      rw [← hcs j hj]
                      have key : ((Addr.mk b off none).add (i * P.cellsOf e)).add j = ⟨b, off + (i * P.cellsOf e + j), none⟩ := by
                        unfold Addr.add
                        split <;> split <;> simp_all <;> omega
                      rw [key]
                      unfold World.cell?
                      simp only [hbk]
                      simp)
                    refine ⟨[.vsl cells (P.cellsOf e) 0 len], rfl, ⟨⟨some ⟨b, off, none⟩, cap, rfl, hlc, by omega, fun _ => ⟨b, off, c, ety, fr, by simp, hbk, g2⟩⟩, trivial⟩, ?_⟩
                    unfold Typ
                    rw [hu]
                    exact ⟨len, cells, .inl rfl, Nat.le_trans hlc hc, g1, g3⟩
                | map es clock => simp only [hbk] at hcell; cases hcell
                | _ => simp only [hbk] at hcell; cases hcell
      | _ => exact other fun avs => by unfold Typ; rw [hu]; trivial

theorem typ_bool {P : Program} {n : Nat} {t : TypeId} {l : List AV} (hu : P.underlying t = some .bool) (h : Typ P n t l) : ∃ b, l = [.sc (.bool b)] := by
  cases n with
  | zero => exact h.elim
  | succ n => unfold Typ at h; rw [hu] at h; exact h
theorem typ_int {P : Program} {n : Nat} {t : TypeId} {k : IntKind} {l : List AV} (hu : P.underlying t = some (.int k)) (h : Typ P n t l) : ∃ m, l = [.sc (.int k m)] ∧ (Lit.int k m).wf = true := by
  cases n with
  | zero => exact h.elim
  | succ n => unfold Typ at h; rw [hu] at h; exact h
theorem typ_string {P : Program} {n : Nat} {t : TypeId} {l : List AV} (hu : P.underlying t = some .string) (h : Typ P n t l) : ∃ s : ByteArray, l = [.sc (.string s)] ∧ s.size ≤ maxLen := by
  cases n with
  | zero => exact h.elim
  | succ n => unfold Typ at h; rw [hu] at h; exact h
theorem typ_slice {P : Program} {n : Nat} {t e : TypeId} {l : List AV} (hu : P.underlying t = some (.slice e)) (esz : Nat) (hs : P.cellsOf e = esz) (h0 : Nat.blt 0 esz = true) (h : Typ P n t l) :
    ∃ (n' len : Nat) (cells : List AV), l = [.vsl cells esz 0 len] ∧ len ≤ maxLen ∧ cells.length = len * esz ∧ ∀ i, i < len → Typ P n' e ((cells.drop (i * esz)).take esz) := by
  subst hs
  cases n with
  | zero => exact h.elim
  | succ n =>
    unfold Typ at h
    rw [hu] at h
    obtain ⟨len, cells, h1, h2, h3, h4⟩ := h
    rcases h1 with h1 | h1
    · exact ⟨n, len, cells, h1, h2, h3, h4⟩
    · rw [h1] at h0; cases h0
theorem typ_struct {P : Program} {n : Nat} {t : TypeId} {fs : Array Field} {l : List AV} (hu : P.underlying t = some (.struct fs)) (sz : Nat) (hs : P.cellsOf t = sz) (hT : tiles P fs.toList 0 = some sz) (h : Typ P n t l) :
    ∃ n', l.length = sz ∧ ∀ (i : Nat) (f : Field), fs.toList[i]? = some f → Typ P n' f.type ((l.drop f.offset).take (P.cellsOf f.type)) := by
  subst hs
  cases n with
  | zero => exact h.elim
  | succ n =>
    unfold Typ at h
    rw [hu] at h
    obtain ⟨h1, h2⟩ := h hT
    exact ⟨n, h1, fun i f hf => h2 f (List.mem_of_getElem? hf)⟩
theorem typ_arr {P : Program} {n : Nat} {t e : TypeId} {k : Nat} {l : List AV} (hu : P.underlying t = some (.array k e)) (esz : Nat) (hs : P.cellsOf e = esz) (ht : P.cellsOf t = k * esz) (h : Typ P n t l) :
    ∃ n', l.length = k * esz ∧ ∀ i, i < k → Typ P n' e ((l.drop (i * esz)).take esz) := by
  subst hs
  cases n with
  | zero => exact h.elim
  | succ n =>
    unfold Typ at h
    rw [hu] at h
    obtain ⟨h1, h2⟩ := h ht
    exact ⟨n, by omega, h2⟩
theorem wf_int {k : IntKind} {m : Int} (h : (Lit.int k m).wf = true) : k.min ≤ m ∧ m ≤ k.max := by
  simpa [Lit.wf] using h
/-- A parameter's value. -/
def TypA (P : Program) (n : Nat) (t : TypeId) (a : AV) : Prop := match P.underlying t with
  | some (.struct _) => ∃ avs, a = .agg avs ∧ Typ P n t avs
  | some (.array _ _) => ∃ avs, a = .agg avs ∧ Typ P n t avs
  | _ => Typ P n t [a]
def TypAs (P : Program) : List TypeId → List AV → Prop
  | [], [] => True
  | t :: ts, a :: as => (∃ n, TypA P n t a) ∧ TypAs P ts as
  | _, _ => False
theorem typA_bool {P : Program} {n : Nat} {t : TypeId} {a : AV} (hu : P.underlying t = some .bool) (h : TypA P n t a) : ∃ b, a = .sc (.bool b) := by
  unfold TypA at h; rw [hu] at h
  obtain ⟨b, e⟩ := typ_bool hu h
  exact ⟨b, by simpa using e⟩
theorem typA_int {P : Program} {n : Nat} {t : TypeId} {k : IntKind} {a : AV} (hu : P.underlying t = some (.int k)) (h : TypA P n t a) : ∃ m, a = .sc (.int k m) ∧ k.min ≤ m ∧ m ≤ k.max := by
  unfold TypA at h; rw [hu] at h
  obtain ⟨m, e, hw⟩ := typ_int hu h
  exact ⟨m, by simpa using e, wf_int hw⟩
theorem typA_string {P : Program} {n : Nat} {t : TypeId} {a : AV} (hu : P.underlying t = some .string) (h : TypA P n t a) : ∃ s : ByteArray, a = .sc (.string s) ∧ s.size ≤ maxLen := by
  unfold TypA at h; rw [hu] at h
  obtain ⟨m, e, hw⟩ := typ_string hu h
  exact ⟨m, by simpa using e, hw⟩
theorem typA_slice {P : Program} {n : Nat} {t e : TypeId} {a : AV} (hu : P.underlying t = some (.slice e)) (esz : Nat) (hs : P.cellsOf e = esz) (h0 : Nat.blt 0 esz = true) (h : TypA P n t a) :
    ∃ (n' len : Nat) (cells : List AV), a = .vsl cells esz 0 len ∧ len ≤ maxLen ∧ cells.length = len * esz ∧ ∀ i, i < len → Typ P n' e ((cells.drop (i * esz)).take esz) := by
  unfold TypA at h; rw [hu] at h
  obtain ⟨n', len, cells, e, h1⟩ := typ_slice hu esz hs h0 h
  exact ⟨n', len, cells, by simpa using e, h1⟩
theorem typA_struct {P : Program} {n : Nat} {t : TypeId} {fs : Array Field} {a : AV} (hu : P.underlying t = some (.struct fs)) (sz : Nat) (hs : P.cellsOf t = sz) (hT : tiles P fs.toList 0 = some sz) (h : TypA P n t a) :
    ∃ n' l, a = .agg l ∧ l.length = sz ∧ ∀ (i : Nat) (f : Field), fs.toList[i]? = some f → Typ P n' f.type ((l.drop f.offset).take (P.cellsOf f.type)) := by
  unfold TypA at h; rw [hu] at h
  obtain ⟨l, e, h'⟩ := h
  obtain ⟨n', h1⟩ := typ_struct hu sz hs hT h'
  exact ⟨n', l, e, h1⟩
theorem typA_arr {P : Program} {n : Nat} {t e : TypeId} {k : Nat} {a : AV} (hu : P.underlying t = some (.array k e)) (esz : Nat) (hs : P.cellsOf e = esz) (ht : P.cellsOf t = k * esz) (h : TypA P n t a) :
    ∃ n' l, a = .agg l ∧ l.length = k * esz ∧ ∀ i, i < k → Typ P n' e ((l.drop (i * esz)).take esz) := by
  unfold TypA at h; rw [hu] at h
  obtain ⟨l, e, h'⟩ := h
  obtain ⟨n', h1⟩ := typ_arr hu esz hs ht h'
  exact ⟨n', l, e, h1⟩
theorem cells_plain {v : Value} (h : ∀ cs, v ≠ .agg cs) : v.cells.toList = [v] := by
  cases v <;> first | rfl | exact absurd rfl (h _)
theorem open_arg {H : Type} {enc : TypeId × Value → H} {P : Program} {W : World} {ρ : Nat → Option Geo} {base : Nat} {t : TypeId} {v : Value} {d : DataW H} {ps : List MemPlace} (hv : Value.okWide P W .any base t v) (hd : DataW.Trod enc P W 0 (fun _ => true) true t v d ps) :
    ∃ n a, Rel ρ (fun b => W.heap[b]?) a v ∧ TypA P n t a := by
  obtain ⟨n, hn⟩ := hd
  obtain ⟨avs, h1, h2, h3⟩ := open_avs W ρ n t _ _ hn
  have plain : (∀ cs, v ≠ .agg cs) → (∀ a, TypA P n t a = Typ P n t [a]) → ∃ n a, Rel ρ (fun b => W.heap[b]?) a v ∧ TypA P n t a := fun hna hT => by
    rw [cells_plain hna] at h1 h2
    match avs, h1, h2, h3 with
    | [a], _, h2, h3 => exact ⟨n, a, h2.1, by rw [hT]; exact h3⟩
  unfold Value.okWide at hv
  cases hu : P.underlying t with
  | none => rw [hu] at hv; exact plain (fun cs e => by subst e; simp [Cell.okWide, Cell.ok, hu] at hv) (fun a => by unfold TypA; rw [hu])
  | some dsc =>
    rw [hu] at hv
    cases dsc with
    | struct fs =>
      obtain ⟨cs, rfl, _⟩ := hv
      refine ⟨n, .agg avs, ⟨cs, rfl, by simpa [Value.cells] using h1.symm, h2⟩, ?_⟩
      unfold TypA; rw [hu]; exact ⟨avs, rfl, h3⟩
    | array k e =>
      obtain ⟨cs, rfl, _⟩ := hv
      refine ⟨n, .agg avs, ⟨cs, rfl, by simpa [Value.cells] using h1.symm, h2⟩, ?_⟩
      unfold TypA; rw [hu]; exact ⟨avs, rfl, h3⟩
    | _ => exact plain (fun cs e => by subst e; simp [Cell.okWide, Cell.ok, hu] at hv) (fun a => by unfold TypA; rw [hu])
theorem open_args {H : Type} {enc : TypeId × Value → H} {P : Program} {W : World} {ρ : Nat → Option Geo} {base : Nat} : ∀ {ts : List TypeId} {vs : List Value} {ds : List (DataW H)} {ps : List MemPlace}, DataW.TrodAll enc P W 0 (fun _ => true) true ts vs ds ps →
    (∀ (j : Nat) t v, ts[j]? = some t → vs[j]? = some v → Value.okWide P W .any base t v) → ∃ as, as.length = vs.length ∧ RelP ρ (fun b => W.heap[b]?) as vs ∧ TypAs P ts as ∧ ds.length = ts.length
  | [], _, _, _, h, _ => by
    obtain ⟨rfl, rfl, rfl⟩ := trodAll_nil h
    exact ⟨[], rfl, trivial, trivial, rfl⟩
  | t :: ts, _, _, _, h, hv => by
    obtain ⟨v, vs, d, ds, p, q, rfl, rfl, rfl, h1, h2⟩ := trodAll_cons h
    obtain ⟨n, a, g1, g2⟩ := open_arg (ρ := ρ) (hv 0 t v rfl rfl) h1
    obtain ⟨as, a1, a2, a3, a4⟩ := open_args (ρ := ρ) h2 (fun j t v h h' => hv (j + 1) t v (by simpa using h) (by simpa using h'))
    exact ⟨a :: as, by simp [a1], ⟨g1, a2⟩, ⟨⟨n, g2⟩, a3⟩, by simp [a4]⟩
theorem stays_all {H : Type} {enc : TypeId × Value → H} {P : Program} (hl : laidOutB P = true) {W W' : World} (hb : Below W.heap.size W W') : ∀ {ts : List TypeId} {vs : List Value} {ds : List (DataW H)} {ps : List MemPlace}, (ts.all fun t => P.readableRec t && decide (t < P.types.size)) = true →
    DataW.TrodAll enc P W 0 (fun _ => true) true ts vs ds ps → (∀ p ∈ ps, p.block < W.heap.size) → ∀ sp : Nat → Bool, (∀ p ∈ ps, sp p.block = true) → DataW.TrodAll enc P W' 0 sp true ts vs ds ps
  | [], _, _, _, _, h, _, _, _ => by
    obtain ⟨rfl, rfl, rfl⟩ := trodAll_nil h
    exact rfl
  | t :: ts, _, _, _, ht, h, hlt, sp, hsp => by
    obtain ⟨v, vs, d, ds, p, q, rfl, rfl, rfl, h1, h2⟩ := trodAll_cons h
    simp only [List.all_cons, Bool.and_eq_true, decide_eq_true_eq] at ht
    exact ⟨p, q, WideElems.Trod_stays hl ht.1.1 ht.1.2 h1 (fun x hx => hb.same (hlt x (by simp [hx]))) (fun x hx => hsp x (by simp [hx])),
      stays_all hl hb ht.2 h2 (fun x hx => hlt x (by simp [hx])) sp (fun x hx => hsp x (by simp [hx])), rfl⟩
theorem bare_hp (W : World) (hpin : ∀ b cs, pinT b = some cs → ∃ t st, W.heap[b]? = some (.cells cs t st)) : HpRel (fun _ => none) (fun b => W.heap[b]?) ⟨fun _ => none, fun _ => none⟩ ⟨0, []⟩ W :=
  ⟨fun i b h => (by cases h), fun i j bi bj gi gj h => (by cases h), fun i b g h => (by cases h), fun i b g h => (by cases h), fun _ _ h => h, fun _ _ h => (by cases h), fun _ _ => rfl, fun _ _ _ => rfl, fun _ _ h => (by cases h), hpin⟩
/-- A law's row, from its contract. -/
theorem law_row {H : Type} {enc : TypeId × Value → H} {P : Program} {fn : Func} {f : FuncId} {s : ChangeSpec} {apart fresh handsOn again : Bool} {W : World} {base : Nat} {args : Array Value} {ds gs : List (DataW H)} {before : List MemPlace} {tb : TypeId}
    (hl : laidOutB P = true) (hp : (fn.params.toList.all fun t => P.readableRec t && decide (t < P.types.size)) = true) (hr : fn.resultTypes = #[tb]) (htb : P.underlying tb = some .bool) (hv : s.vars = [])
    (hs : ∀ ds : List (DataW H), ds.length = fn.params.toList.length → s.fn H ds = { results := [.lit (.bool true)], args := ds })
    (hval : ∀ (j : Nat) t v, fn.params[j]? = some t → args[j]? = some v → Value.okWide P W .any base t v)
    (hW : DataW.Whole enc P fn.params.toList s.vars apart W args.toList ds gs before)
    (h : ∀ as, TypAs P fn.params.toList as → ACalls P f as ⟨0, []⟩ (fun r _ => r = .sc (.bool true))) (hpin : ∀ b cs, pinT b = some cs → ∃ t st, W.heap[b]? = some (.cells cs t st) := by intro _ _ h; cases h) :
    Calls P f args W (fun e W' => ∃ v, e = .returned v ∧ s.post enc P fn apart fresh handsOn again W args v W') := by
  have hlt := hW.lt
  have hW' := hW
  obtain ⟨p, q, hA, hV, rfl, hfz, hnd⟩ := hW
  rw [hv] at hV
  obtain ⟨rfl, rfl⟩ := trodVars_none hV
  obtain ⟨as, a1, a2, a3, a4⟩ := open_args (ρ := fun _ => none) hA (fun j t v h h' => hval j t v (by simpa using h) (by simpa using h'))
  refine (h as a3 (fun _ => none) (fun b => W.heap[b]?) ⟨fun _ => none, fun _ => none⟩ W args (bare_hp W hpin) (fun _ _ => rfl) (by simpa using a1.symm) a2).mono ?_
  rintro e W' ⟨u, ρ', Z', r, S', rfl, hx, hh, hrel, rfl⟩
  have hu : u = .bool true := hrel
  subst hu
  have hb : Below W.heap.size W W' := ⟨hx.os, hx.tape, hx.output, hx.size, fun k hk => by
    have ho : W.heap[k]? = some W.heap[k] := by simp [hk]
    rw [ho]; exact hh.fixZ k _ (hx.Z_le k _ ho)⟩
  have hfn : s.fn H (ds ++ []) = { results := [.lit (.bool true)], args := ds } := by rw [List.append_nil]; exact hs ds a4
  have hres : ∀ (b : Nat) (sp : Nat → Bool) (hd : Bool), DataW.TrodAll enc P W' b sp hd fn.resultTypes.toList ((Value.bool true).resultList fn.resultTypes.size) (s.fn H (ds ++ [])).results [] := fun b sp hd => by
    rw [hfn, hr]
    exact trodAll_mk1 (shut_bool htb true)
  have hargs : ∀ sp : Nat → Bool, (∀ x ∈ p ++ [], sp x.block = true) → DataW.TrodAll enc P W' 0 sp true fn.params.toList args.toList (s.fn H (ds ++ [])).args p := fun sp hsp => by
    rw [hfn]
    exact stays_all hl hb hp hA (fun x hx => by simpa using hlt x (by simp [hx])) sp (fun x hx => hsp x (by simp [hx]))
  have hvars : ∀ sp : Nat → Bool, DataW.TrodVars enc P W' sp s.vars (s.fn H (ds ++ [])).vars [] := fun sp => by
    rw [hfn, hv]; exact rfl
  refine ⟨_, rfl, ds, [], _, [], p, [], hW', hres _ _ _, hargs _ (fun x hx => by simpa using hlt x hx), hvars _, hb.frame _, fun _ => ⟨?_, ?_⟩⟩
  · intro j t' r hj hv'
    rw [hr] at hj hv'
    have hj0 : j = 0 := by
      rcases Nat.eq_zero_or_pos j with h0 | h0
      · exact h0
      · simp [show j ≠ 0 by omega] at hj
    subst hj0
    simp [Value.resultList] at hj hv'
    subst hj; subst hv'
    simp [Value.okWide, htb, Cell.okWide, Cell.ok]
  · refine ⟨_, _, ([] ++ p) ++ [], ⟨[] ++ p, [], trodAll_append (hargs _ (fun _ _ => rfl)) (hres _ _ _), hvars _, rfl, ?_, ?_⟩, ?_⟩
    · intro b off hp'
      have hm : MemPlace.cell b off ∈ p ++ [] := by simpa using hp'
      have hbk : b < W.heap.size := hlt _ hm
      rw [hb.frozen (p := ⟨b, off, none⟩) hbk]
      exact hfz b off hm
    · intro ha
      simpa using hnd ha
    · intro x hx _
      simpa using hx
end Go.Proofs.YtdcnpkbflelpfaaDoor.Sx
