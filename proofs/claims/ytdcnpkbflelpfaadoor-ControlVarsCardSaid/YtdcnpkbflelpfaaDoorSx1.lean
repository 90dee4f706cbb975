/- Abstract values, the state of a walk, what they stand for in the model's world; the rules of control. -/
import Derived.Test.YtdcnpkbflelpfaaDoorSx0
namespace Go.Proofs.YtdcnpkbflelpfaaDoor.Sx
open Go Go.RowKit

/-- A block of the call's own, where it lies: its number, how many elements it has room for, how many cells an element has, their type. -/
structure Geo where
  blk : Nat
  cap : Nat
  esz : Nat
  mp : Bool
/-- There is something at its place: a row of cells, or a map. -/
def Geo.sol (g : Geo) : Prop := 0 < g.cap ∨ g.mp = true

/-- Abstract values. 'sc': a value as it is. 'ptr', 'sl': into a block of the call's own, by its abstract number. 'vptr', 'vsl': into memory that stays as it is, with what it holds. -/
inductive AV where
  | sc (v : Value)
  | ptr (id off : Nat)
  | sl (id o len : Nat)
  | vptr (cells : List AV) (off : Nat)
  | vsl (cells : List AV) (esz o len : Nat)
  | agg (cs : List AV)
  | tup (cs : List AV)
  | fn (f : FuncId) (cap : List AV)
  | ifc (t : TypeId) (v : AV)
  | junk
  | opq
  | mp (id : Nat)
  | it (id : Nat)

mutual
def Rel (ρ : Nat → Option Geo) (Z : Nat → Option Obj) : AV → Value → Prop
  | .sc v, u => u = v
  | .ptr id off, u => ∃ g, ρ id = some g ∧ 0 < g.cap ∧ u = .pointer (some ⟨g.blk, off, none⟩)
  | .sl id o len, u => ∃ g A, ρ id = some g ∧ u = .slice A len (g.cap - o) ∧ o + len ≤ g.cap ∧ (o < g.cap → A = some ⟨g.blk, o * g.esz, none⟩)
  | .vptr cs off, u => ∃ b q c e fr, u = .pointer (some ⟨b, q + off, none⟩) ∧ Z b = some (.cells c e fr) ∧ RelP (fun _ => none) Z cs (c.toList.drop q)
  | .vsl cs esz o len, u => ∃ A cap, u = .slice A len cap ∧ len ≤ cap ∧ o * esz + len * esz ≤ cs.length ∧
      (0 < len → ∃ b q c e fr, A = some ⟨b, q + o * esz, none⟩ ∧ Z b = some (.cells c e fr) ∧ RelP (fun _ => none) Z cs (c.toList.drop q))
  | .agg cs, u => ∃ vs, u = .agg vs ∧ vs.size = cs.length ∧ RelP ρ Z cs vs.toList
  | .tup cs, u => ∃ vs, u = .tuple vs ∧ vs.size = cs.length ∧ RelP ρ Z cs vs.toList
  | .fn f cap, u => ∃ vs, u = .func (.func f) #[] vs ∧ vs.size = cap.length ∧ RelP ρ Z cap vs.toList
  | .ifc t v, u => ∃ x, u = .iface t x ∧ Rel ρ Z v x
  | .junk, _ => True
  | .opq, u => u.oneCell' = true
  | .mp id, u => ∃ g, ρ id = some g ∧ g.cap = 0 ∧ g.mp = true ∧ u = .map (some g.blk)
  | .it id, u => ∃ g, ρ id = some g ∧ g.cap = 0 ∧ g.mp = true ∧ u = .pointer (some ⟨g.blk, 0, none⟩)
/-- A row of values begins so. -/
def RelP (ρ : Nat → Option Geo) (Z : Nat → Option Obj) : List AV → List Value → Prop
  | [], _ => True
  | a :: as, v :: vs => Rel ρ Z a v ∧ RelP ρ Z as vs
  | _ :: _, [] => False
end

def Le {α : Type} (f f' : Nat → Option α) : Prop := ∀ i x, f i = some x → f' i = some x
theorem Le.refl {α : Type} (f : Nat → Option α) : Le f f := fun _ _ h => h
theorem Le.trans {α : Type} {f g h : Nat → Option α} (a : Le f g) (b : Le g h) : Le f h := fun i x e => b i x (a i x e)

mutual
theorem Rel.mono {ρ ρ' : Nat → Option Geo} {Z Z' : Nat → Option Obj} (hρ : Le ρ ρ') (hZ : Le Z Z') : ∀ (a : AV) (u : Value), Rel ρ Z a u → Rel ρ' Z' a u
  | .sc _, _, h => h
  | .ptr _ _, _, ⟨g, h, e⟩ => ⟨g, hρ _ _ h, e⟩
  | .sl _ _ _, _, ⟨g, A, h, e⟩ => ⟨g, A, hρ _ _ h, e⟩
  | .vptr cs _, _, ⟨b, q, c, e, fr, h1, h2, h3⟩ => ⟨b, q, c, e, fr, h1, hZ _ _ h2, RelP.mono (Le.refl _) hZ cs _ h3⟩
  | .vsl cs _ _ _, _, ⟨A, cap, h1, h2, h3, h4⟩ => ⟨A, cap, h1, h2, h3, fun hl => let ⟨b, q, c, e, fr, g1, g2, g3⟩ := h4 hl; ⟨b, q, c, e, fr, g1, hZ _ _ g2, RelP.mono (Le.refl _) hZ cs _ g3⟩⟩
  | .agg cs, _, ⟨vs, h1, h2, h3⟩ => ⟨vs, h1, h2, RelP.mono hρ hZ cs _ h3⟩
  | .tup cs, _, ⟨vs, h1, h2, h3⟩ => ⟨vs, h1, h2, RelP.mono hρ hZ cs _ h3⟩
  | .fn _ cs, _, ⟨vs, h1, h2, h3⟩ => ⟨vs, h1, h2, RelP.mono hρ hZ cs _ h3⟩
  | .ifc _ v, _, ⟨x, h1, h2⟩ => ⟨x, h1, Rel.mono hρ hZ v _ h2⟩
  | .junk, _, _ => trivial
  | .opq, _, h => h
  | .mp _, _, ⟨g, h, e⟩ => ⟨g, hρ _ _ h, e⟩
  | .it _, _, ⟨g, h, e⟩ => ⟨g, hρ _ _ h, e⟩
theorem RelP.mono {ρ ρ' : Nat → Option Geo} {Z Z' : Nat → Option Obj} (hρ : Le ρ ρ') (hZ : Le Z Z') : ∀ (as : List AV) (us : List Value), RelP ρ Z as us → RelP ρ' Z' as us
  | [], _, _ => trivial
  | a :: as, u :: us, ⟨h1, h2⟩ => ⟨Rel.mono hρ hZ a u h1, RelP.mono hρ hZ as us h2⟩
  | _ :: _, [], h => h
end

theorem RelP.get {ρ : Nat → Option Geo} {Z : Nat → Option Obj} : ∀ {as : List AV} {us : List Value} {i : Nat} {a : AV}, RelP ρ Z as us → as[i]? = some a → ∃ u, us[i]? = some u ∧ Rel ρ Z a u
  | [], _, i, _, _, h => by simp at h
  | a :: as, u :: us, 0, _, ⟨h1, _⟩, h => by simp at h; subst h; exact ⟨u, by simp, h1⟩
  | a :: as, u :: us, i + 1, _, ⟨_, h2⟩, h => by simp at h; simpa using h2.get h
  | _ :: _, [], _, _, h, _ => h.elim
theorem RelP.length {ρ : Nat → Option Geo} {Z : Nat → Option Obj} : ∀ {as : List AV} {us : List Value}, RelP ρ Z as us → as.length ≤ us.length
  | [], _, _ => by simp
  | _ :: as, _ :: us, ⟨_, h2⟩ => by simpa using h2.length
  | _ :: _, [], h => h.elim
theorem RelP.set {ρ : Nat → Option Geo} {Z : Nat → Option Obj} : ∀ {as : List AV} {us : List Value} {i : Nat} {a : AV} {u : Value}, RelP ρ Z as us → Rel ρ Z a u → RelP ρ Z (as.set i a) (us.set i u)
  | [], _, _, _, _, _, _ => by simp [RelP]
  | _ :: _, _ :: _, 0, _, _, ⟨_, h2⟩, h => ⟨h, h2⟩
  | _ :: _, _ :: _, i + 1, _, _, ⟨h1, h2⟩, h => ⟨h1, h2.set h⟩
  | _ :: _, [], _, _, _, h, _ => h.elim
theorem RelP.drop {ρ : Nat → Option Geo} {Z : Nat → Option Obj} : ∀ {as : List AV} {us : List Value} (k : Nat), RelP ρ Z as us → RelP ρ Z (as.drop k) (us.drop k)
  | _, _, 0, h => by simpa using h
  | [], _, _ + 1, _ => by simp [RelP]
  | _ :: _, _ :: _, k + 1, ⟨_, h2⟩ => by simpa using h2.drop k
  | _ :: _, [], _ + 1, h => h.elim
theorem RelP.take {ρ : Nat → Option Geo} {Z : Nat → Option Obj} : ∀ {as : List AV} {us : List Value} (k : Nat), RelP ρ Z as us → RelP ρ Z (as.take k) (us.take k)
  | _, _, 0, _ => by simp [RelP]
  | [], _, _ + 1, _ => by simp [RelP]
  | _ :: _, _ :: _, k + 1, ⟨h1, h2⟩ => by simpa [RelP] using ⟨h1, h2.take k⟩
  | _ :: _, [], _ + 1, h => h.elim
theorem RelP.append {ρ : Nat → Option Geo} {Z : Nat → Option Obj} : ∀ {as : List AV} {us : List Value} {bs : List AV} {vs : List Value}, as.length = us.length → RelP ρ Z as us → RelP ρ Z bs vs → RelP ρ Z (as ++ bs) (us ++ vs)
  | [], [], _, _, _, _, h => by simpa using h
  | [], _ :: _, _, _, hl, _, _ => by simp at hl
  | _ :: _, _ :: _, _, _, hl, ⟨h1, h2⟩, h => ⟨h1, h2.append (by simpa using hl) h⟩
  | _ :: _, [], _, _, _, h, _ => h.elim
theorem RelP.more {ρ : Nat → Option Geo} {Z : Nat → Option Obj} : ∀ {as : List AV} {us vs : List Value}, RelP ρ Z as us → RelP ρ Z as (us ++ vs)
  | [], _, _, _ => by simp [RelP]
  | _ :: _, _ :: _, _, ⟨h1, h2⟩ => ⟨h1, h2.more⟩
  | _ :: _, [], _, h => h.elim

/-! ### The state -/
structure Blk where
  cells : List AV
  esz : Nat
  ety : TypeId
structure Hp where
  nxt : Nat
  bs : List (Nat × Option Blk)
def find (i : Nat) : List (Nat × Option Blk) → Option Blk
  | [] => none
  | (k, b) :: r => match Nat.beq k i with | true => b | false => find i r
def Hp.get (S : Hp) (i : Nat) : Option Blk := find i S.bs
def Hp.put (S : Hp) (i : Nat) (b : Blk) : Hp := ⟨S.nxt, (i, some b) :: S.bs⟩
def Hp.kill (S : Hp) (i : Nat) : Hp := ⟨S.nxt, (i, none) :: S.bs⟩
def Hp.new (S : Hp) (b : Blk) : Hp := ⟨S.nxt + 1, (S.nxt, some b) :: S.bs⟩
theorem find_cons (i k : Nat) (b : Option Blk) (r) : find i ((k, b) :: r) = if k = i then b else find i r := by
  show (match Nat.beq k i with | true => b | false => find i r) = _
  cases h : Nat.beq k i with
  | true => rw [if_pos (Nat.eq_of_beq_eq_true h)]
  | false => rw [if_neg (Nat.ne_of_beq_eq_false h)]
theorem Hp.get_put (S : Hp) (i j : Nat) (b : Blk) : (S.put i b).get j = if i = j then some b else S.get j := find_cons ..
theorem Hp.get_kill (S : Hp) (i j : Nat) : (S.kill i).get j = if i = j then none else S.get j := find_cons ..
theorem Hp.get_new (S : Hp) (j : Nat) (b : Blk) : (S.new b).get j = if S.nxt = j then some b else S.get j := find_cons ..

structure St where
  env : List (Nat × AV)
  dfs : List (FuncId × List AV)
  hp : Hp
def look (t : Nat) : List (Nat × AV) → AV
  | [] => .junk
  | (k, v) :: r => match Nat.beq k t with | true => v | false => look t r
def St.get (σ : St) (t : Nat) : AV := look t σ.env
def St.set (σ : St) (t : Nat) (v : AV) : St := ⟨(t, v) :: σ.env, σ.dfs, σ.hp⟩
def St.put (σ : St) (d : Option Tmp) (v : AV) : St := match d with | some t => σ.set t v | none => σ
theorem look_cons (i k : Nat) (b : AV) (r) : look i ((k, b) :: r) = if k = i then b else look i r := by
  show (match Nat.beq k i with | true => b | false => look i r) = _
  cases h : Nat.beq k i with
  | true => rw [if_pos (Nat.eq_of_beq_eq_true h)]
  | false => rw [if_neg (Nat.ne_of_beq_eq_false h)]
theorem St.get_set (σ : St) (t i : Nat) (v : AV) : (σ.set t v).get i = if t = i then v else σ.get i := look_cons ..
/-- A constant of the program's text. -/
def AV.ofV : Value → AV
  | .agg cs => .agg (cs.toList.map .sc)
  | v => .sc v
theorem RelP_sc (ρ : Nat → Option Geo) (Z : Nat → Option Obj) : ∀ l : List Value, RelP ρ Z (l.map .sc) l
  | [] => trivial
  | _ :: l => ⟨rfl, RelP_sc ρ Z l⟩
theorem Rel_ofV (ρ : Nat → Option Geo) (Z : Nat → Option Obj) (v : Value) : Rel ρ Z (.ofV v) v := by
  cases v <;> first | rfl | exact ⟨_, rfl, by simp, RelP_sc ρ Z _⟩
def St.ev (σ : St) : Operand → AV
  | .tmp t => σ.get t
  | .const v => .ofV v
  | .global g => .sc (.pointer (some ⟨g, 0, none⟩))
  | .func f => .fn f []

def DfRel (ρ : Nat → Option Geo) (Z : Nat → Option Obj) : List (FuncId × List AV) → List Deferred → Prop
  | [], [] => True
  | (f, cs) :: r, d :: ds => (∃ cap args, d = ⟨.fn (.func f) cap, args⟩ ∧ args.size + cap.size = cs.length ∧ RelP ρ Z cs (args ++ cap).toList) ∧ DfRel ρ Z r ds
  | _, _ => False
theorem DfRel.mono {ρ ρ' : Nat → Option Geo} {Z Z' : Nat → Option Obj} (hρ : Le ρ ρ') (hZ : Le Z Z') : ∀ (l : List (FuncId × List AV)) (ds : List Deferred), DfRel ρ Z l ds → DfRel ρ' Z' l ds
  | [], [], _ => trivial
  | (_, _) :: _, _ :: _, ⟨⟨cap, args, h1, h2, h3⟩, h4⟩ => ⟨⟨cap, args, h1, h2, h3.mono hρ hZ⟩, h4.mono hρ hZ⟩
  | [], _ :: _, h => h
  | _ :: _, [], h => h

/-- A map's entries, one by one. -/
def entV (e : MapEntry) : Value := .tuple #[e.key, e.val]
/-- What a map or a string's walk holds, as a row of pairs. -/
def stampB (es : Array MapEntry) (c : Nat) : Bool := es.toList.all (fun e => decide (e.born < c)) && decide ((es.toList.map (·.born)).Nodup)
def ents (z : Nat) (o : Obj) : Option (List Value) := match z, o with
  | 0, .map es c => if stampB es c then some (es.toList.map entV) else none
  | 1, .stringIter s pos => some [.tuple #[.string s, .int .i64 (pos : Int)]]
  | _, _ => none
theorem ents_pair {z : Nat} {o : Obj} {l : List Value} {i : Nat} {u : Value} (h : ents z o = some l) (hi : l[i]? = some u) : ∃ a b, u = .tuple #[a, b] := by
  unfold ents at h
  split at h
  · split at h
    · cases h
      simp only [List.getElem?_map, Option.map_eq_some_iff] at hi
      obtain ⟨e, _, rfl⟩ := hi
      exact ⟨_, _, rfl⟩
    · cases h
  · cases h
    cases i with
    | zero => simp at hi; exact ⟨_, _, hi.symm⟩
    | succ i => simp at hi
  · cases h
/-- Where there is no room at all, there need be no block; a map has no room of its own: its cells are its entries. -/
def BlkRel (ρ : Nat → Option Geo) (Z : Nat → Option Obj) (g : Geo) (b : Blk) (w : World) : Prop :=
  (0 < g.cap → ∃ cur, w.heap[g.blk]? = some (.cells cur b.ety (0, 0)) ∧ g.cap * g.esz ≤ cur.size ∧ g.esz = b.esz ∧ RelP ρ Z b.cells cur.toList) ∧ (g.cap = 0 → g.esz = b.esz ∧ (g.mp = false → b.cells = []) ∧ (g.mp = true → ∃ o l, w.heap[g.blk]? = some o ∧ ents b.esz o = some l ∧ l.length = b.cells.length ∧ RelP ρ Z b.cells l))
theorem BlkRel.of {ρ : Nat → Option Geo} {Z : Nat → Option Obj} {g : Geo} {b : Blk} {w : World} (hm : 0 < g.cap) (h : ∃ cur, w.heap[g.blk]? = some (.cells cur b.ety (0, 0)) ∧ g.cap * g.esz ≤ cur.size ∧ g.esz = b.esz ∧ RelP ρ Z b.cells cur.toList) : BlkRel ρ Z g b w :=
  ⟨fun _ => h, fun h0 => by omega⟩
theorem BlkRel.ofN {ρ : Nat → Option Geo} {Z : Nat → Option Obj} {g : Geo} {b : Blk} {w : World} (hm : g.mp = false) (h : ∃ cur, w.heap[g.blk]? = some (.cells cur b.ety (0, 0)) ∧ cur.size = g.cap * g.esz ∧ g.esz = b.esz ∧ RelP ρ Z b.cells cur.toList) : BlkRel ρ Z g b w :=
  ⟨fun _ => let ⟨cur, h1, h2, h3, h4⟩ := h; ⟨cur, h1, Nat.le_of_eq h2.symm, h3, h4⟩, fun h0 => by
    obtain ⟨cur, _, h2, h3, h4⟩ := h
    refine ⟨h3, fun _ => List.eq_nil_of_length_eq_zero ?_, fun hmp => by rw [hm] at hmp; cases hmp⟩
    have := h4.length
    rw [h0, Nat.zero_mul] at h2
    simp [h2] at this
    simp [this]⟩
theorem BlkRel.imp {ρ ρ' : Nat → Option Geo} {Z Z' : Nat → Option Obj} {g : Geo} {b : Blk} {w w' : World} (h : BlkRel ρ Z g b w) (hw : ∀ o, g.sol → w.heap[g.blk]? = some o → w'.heap[g.blk]? = some o) (hρ : Le ρ ρ') (hZ : Le Z Z') : BlkRel ρ' Z' g b w' :=
  ⟨fun h0 => let ⟨cur, h1, h2, h3, h4⟩ := h.1 h0; ⟨cur, hw _ (.inl h0) h1, h2, h3, h4.mono hρ hZ⟩, fun h0 => let ⟨h1, h2, h3⟩ := h.2 h0; ⟨h1, h2, fun hm => let ⟨o, l, k1, k2, k3, k4⟩ := h3 hm; ⟨o, l, hw _ (.inr hm) k1, k2, k3, k4.mono hρ hZ⟩⟩⟩
theorem BlkRel.obj {ρ : Nat → Option Geo} {Z : Nat → Option Obj} {g : Geo} {b : Blk} {w : World} (h : BlkRel ρ Z g b w) (h0 : g.sol) : ∃ o, w.heap[g.blk]? = some o := by
  rcases Nat.eq_zero_or_pos g.cap with hc | hc
  · obtain ⟨o, l, k1, _⟩ := (h.2 hc).2.2 (h0.resolve_left (by omega))
    exact ⟨_, k1⟩
  · obtain ⟨cur, h1, _⟩ := h.1 hc
    exact ⟨_, h1⟩
/-- What is in a cell that is a slice's tells that there is room. -/
theorem BlkRel.room {ρ : Nat → Option Geo} {Z : Nat → Option Obj} {g : Geo} {b : Blk} {w : World} (h : BlkRel ρ Z g b w) {off : Nat} {v : AV} (hc : b.cells[off]? = some v) (hv : ∀ u u' : Value, ¬ Rel ρ Z v (.tuple #[u, u'])) : 0 < g.cap := by
  rcases Nat.eq_zero_or_pos g.cap with h0 | h0
  · obtain ⟨_, k1, k2⟩ := h.2 h0
    cases hm : g.mp with
    | false => rw [k1 hm] at hc; cases hc
    | true =>
      obtain ⟨o, l, _, ke, _, k3⟩ := k2 hm
      obtain ⟨u, hu, hr⟩ := k3.get hc
      obtain ⟨a, b, rfl⟩ := ents_pair ke hu
      exact absurd hr (hv _ _)
  · exact h0

/-- What a call leaves alone: blocks of its callers; the numbers that it was handed, and where these lie. -/
structure Ctx where
  F : Nat → Option Obj
  β : Nat → Option Geo
/-- Package variables that hold the same all along: the seat's own list (none but where a row is tied to a table). -/
def pinT : Nat → Option (Array Value) := fun b => if b = 0 then some #[.int .u64 1, .int .u64 10, .int .u64 100, .int .u64 1000, .int .u64 10000, .int .u64 100000, .int .u64 1000000, .int .u64 10000000, .int .u64 100000000, .int .u64 1000000000, .int .u64 10000000000, .int .u64 100000000000, .int .u64 1000000000000, .int .u64 10000000000000, .int .u64 100000000000000, .int .u64 1000000000000000, .int .u64 10000000000000000, .int .u64 100000000000000000, .int .u64 1000000000000000000, .int .u64 10000000000000000000] else none
structure HpRel (ρ : Nat → Option Geo) (Z : Nat → Option Obj) (F : Ctx) (S : Hp) (w : World) : Prop where
  live : ∀ i b, S.get i = some b → ∃ g, ρ i = some g ∧ BlkRel ρ Z g b w
  inj : ∀ i j bi bj gi gj, S.get i = some bi → S.get j = some bj → ρ i = some gi → ρ j = some gj → gi.sol → gj.sol → gi.blk = gj.blk → i = j
  offZ : ∀ i b g, S.get i = some b → ρ i = some g → g.sol → Z g.blk = none
  offF : ∀ i b g, S.get i = some b → ρ i = some g → g.sol → F.F g.blk = none
  fixZ : ∀ b o, Z b = some o → w.heap[b]? = some o
  fixF : ∀ b o, F.F b = some o → w.heap[b]? = some o
  fresh : ∀ i, S.nxt ≤ i → ρ i = none
  disj : ∀ b o, Z b = some o → F.F b = none
  anch : Le F.β ρ
  pin : ∀ b cs, pinT b = some cs → ∃ t st, Z b = some (.cells cs t st)

structure Sg where
  n : Nat
  k : Nat
theorem HpRel.liveAt {ρ : Nat → Option Geo} {Z : Nat → Option Obj} {F : Ctx} {S : Hp} {w : World} (h : HpRel ρ Z F S w) {i : Nat} {b : Blk} {g : Geo} (hb : S.get i = some b) (hg : ρ i = some g) (h0 : 0 < g.cap) :
    ∃ cur, w.heap[g.blk]? = some (.cells cur b.ety (0, 0)) ∧ g.cap * g.esz ≤ cur.size ∧ g.esz = b.esz ∧ RelP ρ Z b.cells cur.toList := by
  obtain ⟨g', hg', hr⟩ := h.live i b hb
  rw [hg] at hg'; cases hg'
  exact hr.1 h0
theorem HpRel.esz {ρ : Nat → Option Geo} {Z : Nat → Option Obj} {F : Ctx} {S : Hp} {w : World} (h : HpRel ρ Z F S w) {i : Nat} {b : Blk} {g : Geo} (hb : S.get i = some b) (hg : ρ i = some g) : g.esz = b.esz := by
  obtain ⟨g', hg', hr⟩ := h.live i b hb
  rw [hg] at hg'; cases hg'
  rcases Nat.eq_zero_or_pos g.cap with h0 | h0
  · exact (hr.2 h0).1
  · exact let ⟨_, _, _, h3, _⟩ := hr.1 h0; h3
theorem HpRel.objAt {ρ : Nat → Option Geo} {Z : Nat → Option Obj} {F : Ctx} {S : Hp} {w : World} (h : HpRel ρ Z F S w) {i : Nat} {b : Blk} {g : Geo} (hb : S.get i = some b) (hg : ρ i = some g) (h0 : g.sol) : ∃ o, w.heap[g.blk]? = some o := by
  obtain ⟨g', hg', hr⟩ := h.live i b hb
  rw [hg] at hg'; cases hg'
  exact hr.obj h0
/-- A function's shape: how many slots; how many numbers it was handed. -/
structure StRel (N : Sg) (ρ : Nat → Option Geo) (Z : Nat → Option Obj) (F : Ctx) (σ : St) (a : Act) (w : World) : Prop where
  size : a.tmps.size = N.n
  env : ∀ t, Rel ρ Z (σ.get t) (a.tmps.getD t undef)
  dfs : DfRel ρ Z σ.dfs a.defers
  hp : HpRel ρ Z F σ.hp w
  kk : ∀ i, N.k ≤ i → F.β i = none

structure Ext (Z : Nat → Option Obj) (w : World) (Z' : Nat → Option Obj) (w' : World) : Prop where
  Z_le : Le Z Z'
  os : w'.os = w.os
  tape : w'.tape = w.tape
  output : w'.output = w.output
  size : w.heap.size ≤ w'.heap.size
theorem Ext.refl (Z w) : Ext Z w Z w := ⟨.refl _, rfl, rfl, rfl, Nat.le_refl _⟩
theorem Ext.trans {Z w Z1 w1 Z2 w2} (a : Ext Z w Z1 w1) (b : Ext Z1 w1 Z2 w2) : Ext Z w Z2 w2 :=
  ⟨a.Z_le.trans b.Z_le, b.os.trans a.os, b.tape.trans a.tape, b.output.trans a.output, Nat.le_trans a.size b.size⟩

theorem StRel.ev {N ρ Z F σ a w} (h : StRel N ρ Z F σ a w) (x : Operand) : Rel ρ Z (σ.ev x) (a.eval x) := by
  cases x with
  | tmp t => exact h.env t
  | const v => exact Rel_ofV ρ Z v
  | global g => rfl
  | func f => exact ⟨#[], rfl, rfl, trivial⟩

theorem HpRel.below {ρ Z F S w w'} (h : HpRel ρ Z F S w) (hb : Below w.heap.size w w') : HpRel ρ Z F S w' := by
  have blk : ∀ b o, w.heap[b]? = some o → w'.heap[b]? = some o := fun b o hb' => (hb.block b (Array.getElem?_eq_some_iff.1 hb').1).trans hb'
  exact ⟨fun i b hi => let ⟨g, h1, h2⟩ := h.live i b hi; ⟨g, h1, h2.imp (fun _ _ h => blk _ _ h) (.refl _) (.refl _)⟩, h.inj, h.offZ, h.offF, fun b o hz => blk _ _ (h.fixZ b o hz), fun b o hz => blk _ _ (h.fixF b o hz), h.fresh, h.disj, h.anch, h.pin⟩
theorem StRel.below {N ρ Z F σ a w w'} (h : StRel N ρ Z F σ a w) (hb : Below w.heap.size w w') : StRel N ρ Z F σ a w' := ⟨h.size, h.env, h.dfs, h.hp.below hb, h.kk⟩
theorem Ext.of_below {Z w w'} (hb : Below w.heap.size w w') : Ext Z w Z w' := ⟨.refl _, hb.os, hb.tape, hb.output, hb.size⟩

theorem getD_set {xs : Array Value} {d t : Nat} {v : Value} (h : d < xs.size) : (xs.setIfInBounds d v).getD t undef = if d = t then v else xs.getD t undef := by
  simp only [Array.getD_eq_getD_getElem?, Array.getElem?_setIfInBounds]
  by_cases e : d = t
  · subst e; simp [h]
  · simp [e]
theorem StRel.put {N ρ Z F σ a w} (h : StRel N ρ Z F σ a w) {d : Option Tmp} {v : AV} {u : Value} (hd : ∀ t, d = some t → t < N.n) (hv : Rel ρ Z v u) : StRel N ρ Z F (σ.put d v) (a.put d u) w := by
  cases d with
  | none => exact h
  | some d =>
    refine ⟨by simp [Act.put, h.size], fun t => ?_, h.dfs, h.hp, h.kk⟩
    show Rel ρ Z ((σ.set d v).get t) ((a.tmps.setIfInBounds d u).getD t undef)
    rw [getD_set (by rw [h.size]; exact hd d rfl), St.get_set]
    split
    · exact hv
    · exact h.env t
theorem StRel.mono {N ρ Z F σ a w ρ' Z' w'} (h : StRel N ρ Z F σ a w) (hρ : Le ρ ρ') (hZ : Le Z Z') (hp : HpRel ρ' Z' F σ.hp w') : StRel N ρ' Z' F σ a w' :=
  ⟨h.size, fun t => (h.env t).mono hρ hZ, h.dfs.mono hρ hZ, hp, h.kk⟩

/-! ### The walk's predicates -/
def CQ (N : Sg) (Z : Nat → Option Obj) (F : Ctx) (w : World) (Q : Exit → St → Prop) : Exit → Act → World → Prop := fun e a' w' =>
  ∃ ρ' Z' σ', Ext Z w Z' w' ∧ StRel N ρ' Z' F σ' a' w' ∧ Q e σ'
theorem CQ.ext {N Z F w Q Z1 w1 e a' w'} (h : Ext Z w Z1 w1) (c : CQ N Z1 F w1 Q e a' w') : CQ N Z F w Q e a' w' :=
  let ⟨ρ', Z', σ', h1, h2, h3⟩ := c; ⟨ρ', Z', σ', h.trans h1, h2, h3⟩
theorem CQ.imp {N Z F w Q Q' e a' w'} (h : ∀ σ, Q e σ → Q' e σ) (c : CQ N Z F w Q e a' w') : CQ N Z F w Q' e a' w' :=
  let ⟨ρ', Z', σ', h1, h2, h3⟩ := c; ⟨ρ', Z', σ', h1, h2, h _ h3⟩

def IWp (P : Program) (is : List Item) (Q : Exit → Act → World → Prop) (a : Act) (w : World) : Prop :=
  ∀ (b : Frame) (k : List Item) (cs : List Frame), ∃ e a' w', Q e a' w' ∧ Arrives P (lone (b.at a (is ++ k)) cs w) b k cs e a' w'
def IW (P : Program) (N : Sg) (is : List Item) (Q : Exit → St → Prop) (σ : St) : Prop :=
  ∀ ρ Z F a w, StRel N ρ Z F σ a w → IWp P is (CQ N Z F w Q) a w
abbrev AWP (P : Program) (N : Sg) (c : Code) (Q : Exit → St → Prop) (σ : St) : Prop := IW P N [.code c] Q σ

section
variable {P : Program} {N : Sg} {Q : Exit → St → Prop} {σ : St}

theorem IW.imp {is : List Item} {Q' : Exit → St → Prop} (h : IW P N is Q σ) (hq : ∀ e σ, Q e σ → Q' e σ) : IW P N is Q' σ := fun ρ Z F a w hr b k cs =>
  let ⟨e, a', w', q, r⟩ := h ρ Z F a w hr b k cs; ⟨e, a', w', q.imp (hq e), r⟩
theorem awp_of {c : Code} (h : ∀ ρ Z F a w, StRel N ρ Z F σ a w → c.wp P (CQ N Z F w Q) a w) : AWP P N c Q σ := h
theorem cq_now {ρ Z F a w e} (hr : StRel N ρ Z F σ a w) (h : Q e σ) : CQ N Z F w Q e a w := ⟨ρ, Z, σ, .refl _ _, hr, h⟩
theorem awp_skip (h : Q .normal σ) : AWP P N .skip Q σ := awp_of fun _ _ _ _ _ hr => wp_skip (cq_now hr h)
theorem awp_label {l : Nat} (h : Q .normal σ) : AWP P N (.label l) Q σ := awp_of fun _ _ _ _ _ hr => wp_label (cq_now hr h)
theorem awp_exit {id : Nat} (h : Q (.exit id) σ) : AWP P N (.exit id) Q σ := awp_of fun _ _ _ _ _ hr => wp_exit (cq_now hr h)
theorem awp_goto {l : Nat} (h : Q (.goto l) σ) : AWP P N (.goto l) Q σ := awp_of fun _ _ _ _ _ hr => wp_goto (cq_now hr h)
theorem awp_ret (h : Q .ret σ) : AWP P N .ret Q σ := awp_of fun _ _ _ _ _ hr => wp_ret (cq_now hr h)

/-- What is asked behind a piece: K, if it ends normally. -/
def thenQ (K : St → Prop) (Q : Exit → St → Prop) : Exit → St → Prop
  | .normal, σ => K σ
  | e, σ => Q e σ
theorem awp_seq {x y : Code} (h : AWP P N x (thenQ (AWP P N y Q) Q) σ) : AWP P N (.seq x y) Q σ := awp_of fun ρ Z F a w hr =>
  wp_seq (Code.wp_mono (fun e a' w' q => by
    obtain ⟨ρ', Z', σ', h1, h2, h3⟩ := q
    cases e <;> first
      | exact Code.wp_mono (fun _ _ _ q => q.ext h1) (h3 ρ' Z' F a' w' h2)
      | exact ⟨ρ', Z', σ', h1, h2, h3⟩) (h ρ Z F a w hr))
theorem awp_cond {c : Operand} {x y : Code} {b : Bool} (hc : σ.ev c = .sc (.bool b)) (ht : b = true → AWP P N x Q σ) (hf : b = false → AWP P N y Q σ) : AWP P N (.cond c x y) Q σ := awp_of fun ρ Z F a w hr => by
  have he : a.eval c = .bool b := by have := hr.ev c; rw [hc] at this; exact this
  exact wp_cond_split he (fun h => ht h ρ Z F a w hr) (fun h => hf h ρ Z F a w hr)
/-- Behind a block: its own exit ends it. -/
def blockQ (id : Nat) (Q : Exit → St → Prop) : Exit → St → Prop
  | .exit i, σ => match Nat.beq i id with | true => Q .normal σ | false => Q (.exit i) σ
  | e, σ => Q e σ
theorem awp_block {id : Nat} {c : Code} (h : AWP P N c (blockQ id Q) σ) : AWP P N (.block id c) Q σ := awp_of fun ρ Z F a w hr =>
  wp_block (Code.wp_mono (fun e a' w' q => by
    obtain ⟨ρ', Z', σ', h1, h2, h3⟩ := q
    cases e with
    | exit i =>
      show if i = id then CQ N Z F w Q .normal a' w' else CQ N Z F w Q (.exit i) a' w'
      simp only [blockQ] at h3
      cases hb : Nat.beq i id with
      | true => rw [hb] at h3; rw [if_pos (Nat.eq_of_beq_eq_true hb)]; exact ⟨ρ', Z', σ', h1, h2, h3⟩
      | false => rw [hb] at h3; rw [if_neg (Nat.ne_of_beq_eq_false hb)]; exact ⟨ρ', Z', σ', h1, h2, h3⟩
    | _ => exact ⟨ρ', Z', σ', h1, h2, h3⟩) (h ρ Z F a w hr))

theorem iw_inLoop {c : Code} (h : AWP P N c (thenQ (IW P N [.inLoop c] Q) Q) σ) : IW P N [.inLoop c] Q σ := fun ρ Z F a w hr b k cs => by
  obtain ⟨e, a', w', ⟨ρ', Z', σ', h1, h2, h3⟩, harr⟩ := h ρ Z F a w hr b (.inLoop c :: k) cs
  have harr' := Arrives.of_steps (.one (step_inLoop (P := P) (b := b) (a := a) (k := k) (cs := cs) (w := w) (c := c))) harr
  cases e with
  | normal =>
    obtain ⟨e2, a2, w2, q2, harr2⟩ := h3 ρ' Z' F a' w' h2 b k cs
    exact ⟨e2, a2, w2, q2.ext h1, .of_steps harr' harr2⟩
  | _ => exact ⟨_, a', w', ⟨ρ', Z', σ', h1, h2, h3⟩, .pass (x := .inLoop c) rfl (fun _ _ => .inl (by simp)) harr'⟩
theorem awp_loop {c : Code} (h : AWP P N c (thenQ (IW P N [.inLoop c] Q) Q) σ) : AWP P N (.loop c) Q σ := fun ρ Z F a w hr b k cs => by
  obtain ⟨e, a', w', ⟨ρ', Z', σ', h1, h2, h3⟩, harr⟩ := h ρ Z F a w hr b (.inLoop c :: k) cs
  have harr' := Arrives.of_steps (.one (step_loop (P := P) (b := b) (a := a) (k := k) (cs := cs) (w := w) (c := c))) harr
  cases e with
  | normal =>
    obtain ⟨e2, a2, w2, q2, harr2⟩ := h3 ρ' Z' F a' w' h2 b k cs
    exact ⟨e2, a2, w2, q2.ext h1, .of_steps harr' harr2⟩
  | _ => exact ⟨_, a', w', ⟨ρ', Z', σ', h1, h2, h3⟩, .pass (x := .inLoop c) rfl (fun _ _ => .inl (by simp)) harr'⟩
/-- Behind a piece of a scope: its labels are jumped to. -/
def scopeQ (P : Program) (N : Sg) (body : Code) (Q : Exit → St → Prop) : Exit → St → Prop
  | .goto l, σ => match findLabel body l with | some rest => IW P N [.code rest, .inScope body] Q σ | none => Q (.goto l) σ
  | e, σ => Q e σ
theorem iw_scope {c body : Code} (h : AWP P N c (scopeQ P N body Q) σ) : IW P N [.code c, .inScope body] Q σ := fun ρ Z F a w hr b k cs => by
  obtain ⟨e, a', w', ⟨ρ', Z', σ', h1, h2, h3⟩, harr⟩ := h ρ Z F a w hr b (.inScope body :: k) cs
  cases e with
  | normal => exact ⟨.normal, a', w', ⟨ρ', Z', σ', h1, h2, h3⟩, Steps.trans harr (.one step_inScope)⟩
  | exit id => exact ⟨.exit id, a', w', ⟨ρ', Z', σ', h1, h2, h3⟩, fun k' hk => harr k' (by simp [exitTo, hk])⟩
  | goto l =>
    simp only [scopeQ] at h3
    cases hf : findLabel body l with
    | none =>
      rw [hf] at h3
      exact ⟨.goto l, a', w', ⟨ρ', Z', σ', h1, h2, h3⟩, fun k' hk => harr k' (by simp [gotoIn, hf, hk])⟩
    | some rest =>
      rw [hf] at h3
      obtain ⟨e2, a2, w2, q2, harr2⟩ := h3 ρ' Z' F a' w' h2 b k cs
      exact ⟨e2, a2, w2, q2.ext h1, .of_steps (harr _ (by simp [gotoIn, hf])) harr2⟩
  | ret => exact ⟨_, a', w', ⟨ρ', Z', σ', h1, h2, h3⟩, harr⟩
  | panic ch => exact ⟨_, a', w', ⟨ρ', Z', σ', h1, h2, h3⟩, harr⟩
  | outgrown => exact ⟨_, a', w', ⟨ρ', Z', σ', h1, h2, h3⟩, harr⟩
theorem awp_scope {body : Code} (h : IW P N [.code body, .inScope body] Q σ) : AWP P N (.scope body) Q σ := fun ρ Z F a w hr b k cs => by
  obtain ⟨e, a', w', q, harr⟩ := h ρ Z F a w hr b k cs
  exact ⟨e, a', w', q, .of_steps (.one step_scope) harr⟩
end
end Go.Proofs.YtdcnpkbflelpfaaDoor.Sx
