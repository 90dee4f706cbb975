/- Nil slices; slices built; slices appended to. -/
import Derived.Test.YtdcnpkbflelpfaaDoorSx18
namespace Go.Proofs.YtdcnpkbflelpfaaDoor.Sx
open Go Go.RowKit

/-! ### What is appended -/
theorem run_firstCells_str {P : Program} {w : World} (size : Nat) (s : ByteArray) : (Builtin.firstCells size s.size (.string s)).run P w = .ok (s.data.toList.map fun b => Value.int .u8 b.toNat).toArray w := by
  simp only [Builtin.firstCells]
  have : (s.extract 0 s.size).data.map (fun b => Value.int .u8 (b.toNat : Int)) = (s.data.toList.map fun b => Value.int .u8 (b.toNat : Int)).toArray := by
    apply Array.ext'
    simp
  rw [this]
  rfl
/-- The cells of a slice's or a string's first elements, in whatever memory that keeps what is there. -/
def Firsts (P : Program) (size m : Nat) (u : Value) (news : List Value) (w : World) : Prop :=
  (Builtin.lenOf u = pure m) ∧ ∀ w' : World, w'.heap = w.heap → (Builtin.firstCells size m u).run P w' = .ok news.toArray w'
/-- What a value is, to one who appends it: how many elements; their cells. -/
class Src (P : Program) (σ : St) (u : TypeId) (size : Nat) (x : AV) (m : outParam Nat) (news : outParam (List AV)) : Prop where
  und : (∃ e, P.underlying u = some (.slice e)) ∨ P.underlying u = some .string
  out : ∀ ρ Z F w v N a, StRel N ρ Z F σ a w → Rel ρ Z x v → ∃ vs : List Value, Firsts P size m v vs w ∧ vs.length = m * size ∧ vs.length = news.length ∧ RelP ρ Z news vs ∧ ∀ y ∈ vs, y.oneCell' = true

theorem firsts_cells {P : Program} {w : World} {size m b q : Nat} {c : Array Value} {e : TypeId} {fr : Nat × Nat} {len cap : Nat} (h : w.heap[b]? = some (.cells c e fr)) (hl : q + m * size ≤ c.size) (hm : len = m) :
    Firsts P size m (.slice (some ⟨b, q, none⟩) len cap) ((c.toList.drop q).take (m * size)) w := by
  subst hm
  refine ⟨rfl, fun w' hw => ?_⟩
  refine run_firstCells_some w' size len ⟨b, q, none⟩ len cap _ (by simp; omega) fun j v hj => ?_
  rw [add_off]
  have h' : w'.heap[b]? = some (.cells c e fr) := by rw [hw]; exact h
  rw [cell_of h']
  rw [List.getElem?_take] at hj
  split at hj
  · simpa using hj
  · cases hj
theorem firsts_none {P : Program} {w : World} {size : Nat} {A : Option Addr} {cap : Nat} : Firsts P size 0 (.slice A 0 cap) [] w :=
  ⟨rfl, fun w' _ => by cases A <;> simp [Builtin.firstCells, loadCells, loadCellsFrom]⟩
theorem src_sl {P : Program} {σ : St} {u e : TypeId} {size id o len : Nat} {cs news : List AV} {et : TypeId} [hu : Und P u (.slice e)] (hb : σ.hp.get id = some ⟨cs, size, et⟩) (hl : (o + len) * size ≤ cs.length) (hn : (cs.drop (o * size)).take (len * size) = news) (h1 : news.all AV.one = true) : Src P σ u size (.sl id o len) len news where
  und := .inl ⟨_, hu.out⟩
  out := fun ρ Z F w v N a hr hv => by
    obtain ⟨g, A, hg, rfl, hle, hA⟩ := hv
    have hnl : news.length = len * size := by rw [← hn, List.length_take, List.length_drop]; rw [Nat.add_mul] at hl; omega
    rcases Nat.eq_zero_or_pos len with h0 | h0
    · subst h0
      have hn0 : news = [] := List.eq_nil_of_length_eq_zero (by simpa using hnl)
      subst hn0
      exact ⟨[], firsts_none, by simp, rfl, trivial, fun _ h => by cases h⟩
    · obtain ⟨cur, g1, g2, g3, g4⟩ := hr.hp.liveAt hb hg (by omega)
      have hA' := hA (by omega)
      subst hA'
      have g3' : g.esz = size := g3
      rw [g3'] at g2
      rw [g3']
      have hsz : o * size + len * size ≤ cur.size := by rw [← Nat.add_mul]; exact Nat.le_trans (Nat.mul_le_mul_right _ hle) g2
      have hp := (g4.drop (o * size)).take (len * size)
      rw [hn] at hp
      have hl2 : ((cur.toList.drop (o * size)).take (len * size)).length = len * size := by simp; omega
      exact ⟨_, firsts_cells g1 hsz rfl, hl2, by omega, hp, all_one hp (by omega) h1⟩
theorem src_vsl {P : Program} {σ : St} {u e : TypeId} {size o len : Nat} {cs news : List AV} [hu : Und P u (.slice e)] (hn : (cs.drop (o * size)).take (len * size) = news) (h1 : news.all AV.one = true) : Src P σ u size (.vsl cs size o len) len news where
  und := .inl ⟨_, hu.out⟩
  out := fun ρ Z F w v N a hr hv => by
    obtain ⟨A, cap, rfl, hc, hle, hA⟩ := hv
    have hnl : news.length = len * size := by rw [← hn, List.length_take, List.length_drop]; omega
    rcases Nat.eq_zero_or_pos len with h0 | h0
    · subst h0
      have hn0 : news = [] := List.eq_nil_of_length_eq_zero (by simpa using hnl)
      subst hn0
      exact ⟨[], firsts_none, by simp, rfl, trivial, fun _ h => by cases h⟩
    · obtain ⟨b, q, c, e', fr, rfl, hz, hp⟩ := hA h0
      have g1 := hr.hp.fixZ b _ hz
      have hp' := ((hp.mono (ρ' := ρ) (fun _ _ h => by cases h) (.refl _)).drop (o * size)).take (len * size)
      rw [hn] at hp'
      have hlen := hp'.length
      have hl2 : ((((c.toList.drop q).drop (o * size))).take (len * size)).length = len * size := by rw [List.length_take] at hlen ⊢; omega
      rw [List.drop_drop] at hp' hl2
      rcases Nat.eq_zero_or_pos size with hs0 | hs0
      · subst hs0
        have hn0 : news = [] := List.eq_nil_of_length_eq_zero (by simpa using hnl)
        subst hn0
        refine ⟨[], ⟨rfl, fun w' _ => ?_⟩, by simp, rfl, trivial, fun _ h => by cases h⟩
        simp [Builtin.firstCells, loadCells, loadCellsFrom]
      · have hsz : q + o * size + len * size ≤ c.size := by
          have : 0 < len * size := Nat.mul_pos h0 hs0
          rw [List.length_take, List.length_drop, Array.length_toList] at hl2
          omega
        exact ⟨_, firsts_cells g1 hsz rfl, hl2, by omega, hp', all_one hp' (by omega) h1⟩
def bytesOf (s : ByteArray) : List AV := s.data.toList.map fun b => .sc (.int .u8 b.toNat)
theorem bytesOf_length (s : ByteArray) : (bytesOf s).length = s.size := by simp [bytesOf]
theorem src_str {P : Program} {σ : St} {u : TypeId} {s : ByteArray} [hu : Und P u .string] : Src P σ u 1 (.sc (.string s)) s.size (bytesOf s) where
  und := .inr hu.out
  out := fun ρ Z F w v N a hr hv => by
    have e : v = .string s := hv
    subst e
    refine ⟨s.data.toList.map fun b => Value.int .u8 b.toNat, ⟨rfl, fun w' _ => run_firstCells_str 1 s⟩, ?_, ?_, ?_, ?_⟩
    · simp
    · simp [bytesOf]
    · unfold bytesOf
      have := RelP_sc ρ Z (s.data.toList.map fun b => Value.int .u8 (b.toNat : Int))
      rw [List.map_map] at this
      exact this
    · intro y hy
      simp only [List.mem_map] at hy
      obtain ⟨b, _, rfl⟩ := hy
      rfl

/-! ### append, run -/
section
variable {P : Program} {w : World}
theorem run_append_room' {t u ty e : TypeId} (ht : P.underlying t = some (.slice e)) (hu : (∃ e, P.underlying u = some (.slice e)) ∨ P.underlying u = some .string) {i : TypeInfo} (hinf : P.info? e = some i) {g len cap : Nat} {cur : Array Value} (hg : w.heap[g]? = some (.cells cur e (0, 0)))
    {x : Value} {m : Nat} {news : List Value} (hx : Firsts P i.size m x news w) (h1 : ∀ y ∈ news, y.oneCell' = true) (hroom : len + m ≤ cap) (hfit : len * i.size + news.length ≤ cur.size) :
    (Builtin.append_ #[t, u] ty #[.slice (some ⟨g, 0, none⟩) len cap, x]).run P w =
      .ok (.slice (some ⟨g, 0, none⟩) (len + m) cap) (w.setRow g (cur.toList.take (len * i.size) ++ news ++ cur.toList.drop (len * i.size + news.length)).toArray) := by
  have hst := run_storeCells_at P g (len * i.size) e news 0 cur w hg (by simpa using hfit) h1
  simp only [Nat.add_zero] at hst
  have hf := hx.2 w rfl
  rcases hu with ⟨e', hu⟩ | hu <;> simp [Builtin.append_, run_underlying ht, run_underlying hu, sizeOf, typeInfo, hinf, hx.1, hroom, hf, Addr.add_lit, hst]
theorem run_append_zero' {t u ty e : TypeId} (ht : P.underlying t = some (.slice e)) (hu : (∃ e, P.underlying u = some (.slice e)) ∨ P.underlying u = some .string) {i : TypeInfo} (hinf : P.info? e = some i) {A : Option Addr}
    {x : Value} (hx : Firsts P i.size 0 x [] w) :
    (Builtin.append_ #[t, u] ty #[.slice A 0 0, x]).run P w = .ok (.slice A 0 0) w := by
  have hf := hx.2 w rfl
  rcases hu with ⟨e', hu⟩ | hu <;> cases A <;> simp [Builtin.append_, run_underlying ht, run_underlying hu, sizeOf, typeInfo, hinf, hx.1, hf, storeCells]
theorem run_append_grow' {t u ty e : TypeId} (ht : P.underlying t = some (.slice e)) (hu : (∃ e, P.underlying u = some (.slice e)) ∨ P.underlying u = some .string) {i : TypeInfo} {z : Value} (hinf : P.info? e = some i) (hz : i.zero = some z) {A : Option Addr} {len cap : Nat} {olds : List Value}
    (ho : ∀ w' : World, w'.heap = w.heap → (Builtin.firstCells i.size len (.slice A len cap)).run P w' = .ok olds.toArray w')
    {x : Value} {m : Nat} {news : List Value} (hx : Firsts P i.size m x news w) (hg : cap < len + m) (h63 : ((len + m : Nat) : Int) ≤ 9223372036854775807) (hfit : Builtin.nextslicecap (len + m) cap * i.bytes ≤ 281474976710656) :
    (Builtin.append_ #[t, u] ty #[.slice A len cap, x]).run P w =
      .ok (.slice (some ⟨w.heap.size, 0, none⟩) (len + m) (grownCap w (len + m) cap e)) (w.drew.alloc (.cells (olds.toArray ++ news.toArray ++ Builtin.zeroCells z.cells (grownCap w (len + m) cap e - (len + m))) e)) := by
  have hn : ¬ (len + m ≤ cap) := by omega
  have h63' : ¬ (9223372036854775807 < ((len : Int) + (m : Int))) := by omega
  have h48' : ¬ (281474976710656 < Builtin.nextslicecap (len + m) cap * i.bytes) := by omega
  have hf := hx.2 w.drew rfl
  have hfo := ho w.drew rfl
  rcases hu with ⟨e', hu⟩ | hu
  · simp [Builtin.append_, run_underlying ht, run_underlying hu, sizeOf, typeInfo, zeroValue, hinf, hz, hx.1, hn, h63', h48', Question.forced, hf, hfo, newRow, grownCap]
    congr 2
    apply Array.ext'
    simp [List.append_assoc]
  · simp [Builtin.append_, run_underlying ht, run_underlying hu, sizeOf, typeInfo, zeroValue, hinf, hz, hx.1, hn, h63', h48', Question.forced, hf, hfo, newRow, grownCap]
    congr 2
    apply Array.ext'
    simp [List.append_assoc]
end
end Go.Proofs.YtdcnpkbflelpfaaDoor.Sx
