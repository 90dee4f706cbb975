/- Slices of slices; bytes as a string; a block of one's own under a new number. -/
import Derived.Test.YtdcnpkbflelpfaaDoorSx20
import Derived.Laws.BytesString
import Derived.Laws.Slices
namespace Go.Proofs.YtdcnpkbflelpfaaDoor.Sx
open Go Go.RowKit
def strOf (l : List Int) : ByteArray := ⟨(l.map fun n => UInt8.ofNat n.toNat).toArray⟩
theorem foldl_push (l : List Int) : ∀ s : ByteArray, l.foldl (fun r n => r.push (UInt8.ofNat n.toNat)) s = s ++ strOf l := by
  induction l with
  | nil => intro s; apply ByteArray.ext; simp [strOf]
  | cons n l ih =>
    intro s
    rw [List.foldl_cons, ih]
    apply ByteArray.ext
    simp [strOf, ByteArray.data_push]
theorem strOf_nil : strOf [] = ByteArray.empty := rfl
theorem strOf_size (l : List Int) : (strOf l).size = l.length := by show (List.toArray _).size = _; simp
theorem strOf_append (l m : List Int) : strOf (l ++ m) = strOf l ++ strOf m := by apply ByteArray.ext; simp [strOf]
theorem strOf_ints (s : ByteArray) : strOf (ints s) = s := by
  apply ByteArray.ext
  apply Array.ext'
  simp only [strOf, ints, List.map_map]
  have : ((fun n : Int => UInt8.ofNat n.toNat) ∘ fun b : UInt8 => (b.toNat : Int)) = id := by funext b; simp
  rw [this]; simp
def isByte (n : Int) : Prop := 0 ≤ n ∧ n ≤ 255
theorem byte_back {n : Int} (h : isByte n) : ((UInt8.ofNat n.toNat).toNat : Int) = n := by
  unfold isByte at h
  rw [UInt8.toNat_ofNat']
  omega
theorem ints_strOf {l : List Int} (h : ∀ n ∈ l, isByte n) : ints (strOf l) = l := by
  unfold ints strOf
  simp only [List.map_map]
  conv => rhs; rw [← List.map_id l]
  exact List.map_congr_left fun n hn => byte_back (h n hn)
theorem strOf_inj {l m : List Int} (hl : ∀ n ∈ l, isByte n) (hm : ∀ n ∈ m, isByte n) (h : strOf l = strOf m) : l = m := by
  rw [← ints_strOf hl, ← ints_strOf hm, h]
theorem ints_byte (s : ByteArray) : ∀ n ∈ ints s, isByte n := fun n hn => by
  simp only [ints, List.mem_map] at hn
  obtain ⟨b, _, rfl⟩ := hn
  have := b.toNat_lt
  unfold isByte
  omega
theorem ints_empty : ints ⟨#[]⟩ = [] := rfl
theorem ints_append (s t : ByteArray) : ints (s ++ t) = ints s ++ ints t := by simp [ints]

theorem src_strB {P : Program} {σ : St} {u : TypeId} {s : ByteArray} [hu : Und P u .string] : Src P σ u 1 (.sc (.string s)) s.size (byts (ints s)) := by
  rw [← bytesOf_eq]; exact src_str
section
variable {P : Program} {N : Sg} {σ : St} {d : Option Tmp} {ty : TypeId} {pos : String} {af : Array Edge} {gd : Option (Nat × Bool)} {K : St → Prop} {Q : Exit → St → Prop}
  {env : List (Nat × AV)} {dfs : List (FuncId × List AV)} {n : Nat} {bs : List (Nat × Option Blk)} {tt : Tmp}
theorem relP_byts {ρ : Nat → Option Geo} {Z : Nat → Option Obj} : ∀ {l : List Int} {us : List Value}, RelP ρ Z (byts l) us → us.take l.length = l.map (Value.int .u8)
  | [], us, _ => by simp
  | n :: l, u :: us, ⟨h1, h2⟩ => by
    have e : u = .int .u8 n := h1
    subst e
    simpa using relP_byts h2
  | _ :: _, [], h => h.elim
theorem run_toStr {src dst e : TypeId} [hs : Und P src (.slice e)] [he : Und P e (.int .u8)] [hd : Und P dst .string] {w : World} {A : Option Addr} {cap : Nat} {l : List Int}
    (h : 0 < l.length → ∃ b q c t fr, A = some ⟨b, q, none⟩ ∧ w.heap[b]? = some (.cells c t fr) ∧ (c.toList.drop q).take l.length = l.map (Value.int .u8)) :
    (convert src dst (.slice A l.length cap)).run P w = .ok (.string (strOf l)) w := by
  rw [run_convert_bytes_string w src dst e A l.length cap hs.out he.out hd.out]
  have cons : ∀ a, A = some a → (loadCells a l.length).run P w = .ok (l.map (Value.int .u8)).toArray w → (Conv.bytesToString (.slice A l.length cap)).run P w = .ok (.string (strOf l)) w := fun a ha hl => by
    rw [ha, run_bytesToString w a l.length cap l hl, foldl_push]
    have e0 : ByteArray.empty ++ strOf l = strOf l := by apply ByteArray.ext; simp
    rw [e0]
  rcases Nat.eq_zero_or_pos l.length with h0 | h0
  · have : l = [] := List.eq_nil_of_length_eq_zero h0
    subst this
    cases A with
    | none => rfl
    | some a => exact cons a rfl (by simp [loadCells, loadCellsFrom])
  · obtain ⟨b, q, c, t, fr, hA, hw, hc⟩ := h h0
    refine cons _ hA ?_
    have hlen : ((c.toList.drop q).take l.length).length = l.length := by rw [hc]; simp
    have := run_loadCells_list (P := P) (w := w) ⟨b, q, none⟩ ((c.toList.drop q).take l.length) (fun j v hj => by
      rw [add_off, cell_of hw]
      rw [List.getElem?_take] at hj
      split at hj
      · simpa using hj
      · cases hj)
    rw [hlen, hc] at this
    exact this
theorem y_toStr_sl {src dst e et : TypeId} {x : Operand} {id len : Nat} {cs : List AV} {l : List Int} [hs : Und P src (.slice e)] [he : Und P e (.int .u8)] [hd : Und P dst .string] (hx : σ.ev x = .sl id 0 len) (hb : σ.hp.get id = some ⟨cs, 1, et⟩) (hc : cs.take len = byts l) (hl : len = l.length) :
    Yld P N ⟨d, .convert src dst x, ty, pos, af, gd⟩ σ (.sc (.string (strOf l))) := fun ρ Z F a w hr => by
  subst hl
  have := hr.ev x
  rw [hx] at this
  obtain ⟨g, A, hg, e1, hle, hA⟩ := this
  have key : ∀ w', Below w.heap.size w w' → (execOp a.eval ⟨d, .convert src dst x, ty, pos, af, gd⟩).run P w' = .ok (.value (.string (strOf l))) w' := fun w' hw => by
    have hrun := run_toStr (P := P) (src := src) (dst := dst) (e := e) (w := w') (A := A) (cap := g.cap - 0) (l := l) fun h0 => by
      obtain ⟨cur, g1, g2, g3, g4⟩ := hr.hp.liveAt hb hg (by omega)
      have hp := g4.take l.length
      have hc' : List.take l.length (Blk.cells ⟨cs, 1, et⟩) = byts l := hc
      rw [hc'] at hp
      have h5 := relP_byts hp
      rw [List.take_take, Nat.min_self] at h5
      exact ⟨g.blk, 0, cur, et, (0, 0), by rw [hA (by omega)]; simp, (hw.block _ (Array.getElem?_eq_some_iff.1 g1).1).trans g1, by simpa using h5⟩
    simp only [execOp, e1, Sem.run_bind, hrun, Result.andThen_ok, Sem.run_pure]
  exact ⟨_, rfl, key w (.refl _ _), key⟩
theorem y_toStr_vsl {src dst e : TypeId} {x : Operand} {o len : Nat} {cs : List AV} {l : List Int} [hs : Und P src (.slice e)] [he : Und P e (.int .u8)] [hd : Und P dst .string] (hx : σ.ev x = .vsl cs 1 o len) (hc : (cs.drop o).take len = byts l) (hl : len = l.length) :
    Yld P N ⟨d, .convert src dst x, ty, pos, af, gd⟩ σ (.sc (.string (strOf l))) := fun ρ Z F a w hr => by
  subst hl
  have := hr.ev x
  rw [hx] at this
  obtain ⟨A, cap, e1, hle, hb, hA⟩ := this
  have key : ∀ w', Below w.heap.size w w' → (execOp a.eval ⟨d, .convert src dst x, ty, pos, af, gd⟩).run P w' = .ok (.value (.string (strOf l))) w' := fun w' hw => by
    have hrun := run_toStr (P := P) (src := src) (dst := dst) (e := e) (w := w') (A := A) (cap := cap) (l := l) fun h0 => by
      obtain ⟨b, q, c, t, fr, hA', hz, hp⟩ := hA h0
      have g1 := hr.hp.fixZ b _ hz
      have hp' := (hp.drop o).take l.length
      rw [hc] at hp'
      have h5 := relP_byts hp'
      rw [List.take_take, Nat.min_self, List.drop_drop] at h5
      exact ⟨b, q + o * 1, c, t, fr, hA', (hw.block _ (Array.getElem?_eq_some_iff.1 g1).1).trans g1, by simpa using h5⟩
    simp only [execOp, e1, Sem.run_bind, hrun, Result.andThen_ok, Sem.run_pure]
  exact ⟨_, rfl, key w (.refl _ _), key⟩

theorem take_bytsE (l : List Int) (n : Nat) (h : (byts l).length ≤ n * 1) : ((byts l).drop (0 * 1)).take (n * 1) = byts l := by simp only [Nat.zero_mul, List.drop_zero]; exact List.take_of_length_le h
theorem take_strsE (l : List ByteArray) (n : Nat) (h : (strs l).length ≤ n * 1) : ((strs l).drop (0 * 1)).take (n * 1) = strs l := by simp only [Nat.zero_mul, List.drop_zero]; exact List.take_of_length_le h
theorem take_byts0 (l : List Int) : (byts l).take l.length = byts l := List.take_of_length_le (by simp [byts])
theorem take_byts00 (l : List Int) : ((byts l).drop 0).take l.length = byts l := List.take_of_length_le (by simp [byts])
/-! ### Slices of slices -/
theorem und_elem {t e : TypeId} [ht : Und P t (.slice e)] : P.underlying t = some (.slice (P.elem t)) ∧ P.elem t = e := by
  have h := ht.out
  have : P.elem t = e := by simp [Program.elem, h]
  exact ⟨by rw [this]; exact h, this⟩
theorem run_slice_bounds {t e : TypeId} {size bytes : Nat} {zero : Value} [ht : Und P t (.slice e)] [hi : Inf P e size bytes zero] {A : Option Addr} {len cap : Nat} {lo hi' mx : Option Value} {l h m : Nat} {w : World}
    (hb : (Instr.sliceBounds true len cap lo hi' mx).run P w = .ok (l, h, m) w) : (Instr.sliceAt t (.slice A len cap) lo hi' mx).run P w = .ok (.slice (if m = l then A else A.map (·.add (l * size))) (h - l) (m - l)) w := by
  obtain ⟨h1, h2⟩ := und_elem (P := P) (t := t) (e := e)
  obtain ⟨I, hI, hIs, _, _⟩ := hi.get
  rw [run_sliceAt_slice w t _ _ _ _ h1, run_slice_any w t A len cap h1, hb, h2]
  simp [Result.andThen, run_sizeOf' hI, hIs, sliced]
theorem rel_sliced_sl {ρ : Nat → Option Geo} {Z : Nat → Option Obj} {id o len l h size : Nat} {u : Value} (hr : Rel ρ Z (.sl id o len) u) (hlh : l ≤ h) (hh : h ≤ len) (hz : ∀ g, ρ id = some g → g.esz = size) :
    ∃ A cap, u = .slice A len cap ∧ h ≤ cap ∧ Rel ρ Z (.sl id (o + l) (h - l)) (.slice (if cap = l then A else A.map (·.add (l * size))) (h - l) (cap - l)) := by
  obtain ⟨g, A, hg, e1, hle, hA⟩ := hr
  have hsz := hz g hg
  refine ⟨A, _, e1, by omega, g, _, hg, by rw [Nat.sub_sub], by omega, fun hlt => ?_⟩
  have hA' := hA (by omega)
  subst hA'
  rw [if_neg (by omega), hsz]
  simp [add_off, Nat.add_mul]
theorem rel_sliced_vsl {ρ : Nat → Option Geo} {Z : Nat → Option Obj} {cs : List AV} {o len l h size : Nat} {u : Value} (hr : Rel ρ Z (.vsl cs size o len) u) (hlh : l ≤ h) (hh : h ≤ len) :
    ∃ A cap, u = .slice A len cap ∧ h ≤ cap ∧ Rel ρ Z (.vsl cs size (o + l) (h - l)) (.slice (if cap = l then A else A.map (·.add (l * size))) (h - l) (cap - l)) := by
  obtain ⟨A, cap, e1, hle, hb, hA⟩ := hr
  have hm1 : l * size + (h - l) * size = h * size := by rw [← Nat.add_mul]; congr 1; omega
  have hm2 : h * size ≤ len * size := Nat.mul_le_mul_right _ hh
  refine ⟨A, cap, e1, by omega, _, _, rfl, by omega, by rw [Nat.add_mul]; omega, fun h0 => ?_⟩
  obtain ⟨b, q, c, e', fr, hA', hz, hp⟩ := hA (by omega)
  refine ⟨b, q, c, e', fr, ?_, hz, hp⟩
  subst hA'
  rw [if_neg (by omega)]
  simp [add_off, Nat.add_mul, Nat.add_assoc]
theorem bounds_h {len cap : Nat} {k : IntKind} {h : Int} (h0 : 0 ≤ h) (h1 : h ≤ cap) (w : World) : (Instr.sliceBounds true len cap none (some (.int k h)) none).run P w = .ok (0, h.toNat, cap) w := by
  simp [Instr.sliceBounds, run_sliceBound, h0, h1]
theorem bounds_l {len cap : Nat} {k : IntKind} {l : Int} (h0 : 0 ≤ l) (h1 : l ≤ len) (hc : len ≤ cap) (w : World) : (Instr.sliceBounds true len cap (some (.int k l)) none none).run P w = .ok (l.toNat, len, cap) w := by
  simp [Instr.sliceBounds, run_sliceBound, h0, h1]
theorem bounds_lh {len cap : Nat} {k k' : IntKind} {l h : Int} (h0 : 0 ≤ l) (h1 : l ≤ h) (h2 : h ≤ cap) (w : World) : (Instr.sliceBounds true len cap (some (.int k l)) (some (.int k' h)) none).run P w = .ok (l.toNat, h.toNat, cap) w := by
  simp [Instr.sliceBounds, run_sliceBound, show 0 ≤ h by omega, h0, h2, show l ≤ max h 0 by omega]
theorem y_slice_sl_h {t e : TypeId} {size bytes : Nat} {zero : Value} {x hi : Operand} {id o len : Nat} {k : IntKind} {h : Int} {b : Blk} [ht : Und P t (.slice e)] [hI : Inf P e size bytes zero] (hx : σ.ev x = .sl id o len) (hh : σ.ev hi = .sc (.int k h)) (hb : σ.hp.get id = some b) (hz : b.esz = size) (h0 : 0 ≤ h) (h1 : h ≤ len) :
    Yld P N ⟨d, .slice t x none (some hi) none, ty, pos, af, gd⟩ σ (.sl id o h.toNat) :=
  yld_pure fun ρ Z F a w hr => by
    have := hr.ev x
    rw [hx] at this
    obtain ⟨A, cap, e1, hc, hrel⟩ := rel_sliced_sl (l := 0) (h := h.toNat) (size := size) this (Nat.zero_le _) (by omega) (fun g hg => (hr.hp.esz hb hg).trans hz)
    refine ⟨_, hrel, fun w' => ?_⟩
    simp only [execOp, e1, ev_sc hr hh, Option.map, run_slice_bounds (bounds_h (P := P) (k := k) (w := w') (len := len) h0 (by omega : h ≤ cap)), Sem.run_bind, Result.andThen_ok, Sem.run_pure]
theorem y_slice_vsl_h {t e : TypeId} {size bytes : Nat} {zero : Value} {x hi : Operand} {cs : List AV} {o len : Nat} {k : IntKind} {h : Int} [ht : Und P t (.slice e)] [hI : Inf P e size bytes zero] (hx : σ.ev x = .vsl cs size o len) (hh : σ.ev hi = .sc (.int k h)) (h0 : 0 ≤ h) (h1 : h ≤ len) :
    Yld P N ⟨d, .slice t x none (some hi) none, ty, pos, af, gd⟩ σ (.vsl cs size o h.toNat) :=
  yld_pure fun ρ Z F a w hr => by
    have := hr.ev x
    rw [hx] at this
    obtain ⟨A, cap, e1, hc, hrel⟩ := rel_sliced_vsl (l := 0) (h := h.toNat) (size := size) this (Nat.zero_le _) (by omega)
    refine ⟨_, hrel, fun w' => ?_⟩
    simp only [execOp, e1, ev_sc hr hh, Option.map, run_slice_bounds (bounds_h (P := P) (k := k) (w := w') (len := len) h0 (by omega : h ≤ cap)), Sem.run_bind, Result.andThen_ok, Sem.run_pure]

theorem o_nilH {ops : Array Oper} {rest : List Oper} (id off ez : Nat) (et : TypeId) {cs : List AV} {bz : Nat} {bt : TypeId} (hb : find id bs = some ⟨cs, bz, bt⟩) (hc : cs[off]? = some (.sc (.slice none 0 0))) (hk : AOps P N ops Q rest ⟨env, dfs, ⟨n + 1, (id, some ⟨cs.set off (.sl n 0 0), bz, bt⟩) :: (n, some ⟨[], ez, et⟩) :: bs⟩⟩) : AOps P N ops Q rest ⟨env, dfs, ⟨n, bs⟩⟩ := fun ρ Z F a w hr => by
  have hle := upd_le (g := ⟨0, 0, ez, false⟩) (hr.hp.fresh n (Nat.le_refl _))
  have hgrow : HpRel (upd ρ n ⟨0, 0, ez, false⟩) Z F ⟨n + 1, (n, some ⟨[], ez, et⟩) :: bs⟩ w := hr.hp.grow (S := ⟨n, bs⟩) (b := ⟨[], ez, et⟩) (g := ⟨0, 0, ez, false⟩) nosol (.of0 rfl rfl) (fun _ _ => rfl)
  have hlt : id < n := hr.hp.lt_nxt (S := ⟨n, bs⟩) hb
  have hb' : find id ((n, some (⟨[], ez, et⟩ : Blk)) :: bs) = some ⟨cs, bz, bt⟩ := by rw [find_cons, if_neg (by omega)]; exact hb
  obtain ⟨g, hg, hbl⟩ := hgrow.live id ⟨cs, bz, bt⟩ hb'
  have h0 : 0 < g.cap := hbl.room hc fun u u' h => by have h' : Value.tuple #[u, u'] = .slice none 0 0 := h; cases h'
  obtain ⟨cur, h1, h2, h3, h4⟩ := hbl.1 h0
  obtain ⟨v, hv, hvr⟩ := h4.get hc
  have hv' : v = .slice none 0 0 := hvr
  subst hv'
  have hset : HpRel (upd ρ n ⟨0, 0, ez, false⟩) Z F (Hp.put ⟨n + 1, (n, some ⟨[], ez, et⟩) :: bs⟩ id ⟨cs.set off (.sl n 0 0), bz, bt⟩) w := by
    refine hgrow.set (b := ⟨cs, bz, bt⟩) hb' hg (.of h0 ⟨cur, h1, h2, h3, ?_⟩) (.inl h0) (fun _ _ => rfl)
    have := h4.set (i := off) (a := .sl n 0 0) (u := .slice none 0 0) ⟨⟨0, 0, ez, false⟩, none, upd_same .., rfl, Nat.le_refl _, fun h => absurd h (Nat.lt_irrefl _)⟩
    have e : cur.toList.set off (.slice none 0 0) = cur.toList := by
      apply List.ext_getElem?
      intro j
      rw [List.getElem?_set]
      split
      · rename_i e; subst e
        rw [hv]; split
        · rfl
        · rename_i hlt; rw [List.getElem?_eq_none (by omega)] at hv; cases hv
      · rfl
    rwa [e] at this
  exact hk _ Z F a w ⟨hr.size, fun i => (hr.env i).mono hle (.refl _), hr.dfs.mono hle (.refl _), hset, hr.kk⟩

/-! ### A block under a new number -/
/-- A slice that lies in a block's cell: the block that it is of gets a new number; whoever held the old one has it no more. -/
theorem iw_reown {is : List Item} (id off : Nat) {j o len bz : Nat} {bt : TypeId} {cs : List AV} {b : Blk} (hb : find id bs = some ⟨cs, bz, bt⟩) (hc : cs[off]? = some (.sl j o len)) (hj : find j bs = some b) (hne : Nat.beq j id = false)
    (hk : IW P N is Q ⟨env, dfs, ⟨n + 1, (id, some ⟨cs.set off (.sl n o len), bz, bt⟩) :: (n, some b) :: (j, none) :: bs⟩⟩) : IW P N is Q ⟨env, dfs, ⟨n, bs⟩⟩ := fun ρ Z F a w hr => by
  obtain ⟨g, hg, hbl⟩ := hr.hp.live j b hj
  have hle := upd_le (g := g) (hr.hp.fresh n (Nat.le_refl _))
  have h1 : HpRel (upd ρ n g) Z F ⟨n + 1, (n, some b) :: (j, none) :: bs⟩ w := hr.hp.regrow' (S := ⟨n, bs⟩) (i := j) hj hg (fun h => .inl ⟨rfl, h⟩) hbl (fun _ _ _ => rfl)
  have hlt : id < n := hr.hp.lt_nxt (S := ⟨n, bs⟩) hb
  have hb' : find id ((n, some b) :: (j, none) :: bs) = some ⟨cs, bz, bt⟩ := by
    rw [find_cons, if_neg (by omega), find_cons, if_neg (Nat.ne_of_beq_eq_false hne)]; exact hb
  obtain ⟨g1, hg1, hbl1⟩ := h1.live id ⟨cs, bz, bt⟩ hb'
  have h0 : 0 < g1.cap := hbl1.room hc fun _ _ ⟨_, _, _, h, _⟩ => by cases h
  obtain ⟨cur, k1, k2, k3, k4⟩ := hbl1.1 h0
  obtain ⟨v, hv, hvr⟩ := k4.get hc
  have hvn : Rel (upd ρ n g) Z (.sl n o len) v := by
    obtain ⟨g', A, e1, e2⟩ := hvr
    have : upd ρ n g j = some g := hle j g hg
    rw [this] at e1; cases e1
    exact ⟨g, A, upd_same .., e2⟩
  have hset : HpRel (upd ρ n g) Z F (Hp.put ⟨n + 1, (n, some b) :: (j, none) :: bs⟩ id ⟨cs.set off (.sl n o len), bz, bt⟩) w := by
    refine h1.set (b := ⟨cs, bz, bt⟩) hb' hg1 (.of h0 ⟨cur, k1, k2, k3, ?_⟩) (.inl h0) (fun _ _ => rfl)
    have := k4.set (i := off) hvn
    have e : cur.toList.set off v = cur.toList := by
      apply List.ext_getElem?
      intro i
      rw [List.getElem?_set]
      split
      · rename_i e; subst e
        rw [hv]; split
        · rfl
        · rename_i hlt; rw [List.getElem?_eq_none (by omega)] at hv; cases hv
      · rfl
    rwa [e] at this
  exact hk _ Z F a w ⟨hr.size, fun i => (hr.env i).mono hle (.refl _), hr.dfs.mono hle (.refl _), hset, hr.kk⟩
/-- A call, with blocks handed over that are told one by one. -/
theorem s_callH {hp : Hp} {t : Tmp} {f : FuncId} {xs : List Operand} {ts : Array TypeId} {R : AV → Hp → Prop} {b : List (Nat × Option Blk)} {k : Nat} [hc : Callable P f] (m : List Nat) (hn : m.Nodup) (hm : allLive hp m = true) (hd : Nat.blt t N.n = true)
    (spec : ACalls P f (renL (idx m) (xs.map (St.ev ⟨env, dfs, hp⟩))) ⟨k, b⟩ R) (hl : m.length = k) (hS : HpIs hp (idx m) m 0 b)
    (hk : ∀ r S', R r S' → K ⟨(t, r.ren (rOut m hp.nxt)) :: env, dfs, hp.back m S'⟩) : AExec P N ⟨some t, .call ⟨.value (.func f), xs.toArray, ts⟩, ty, pos, af, gd⟩ K ⟨env, dfs, hp⟩ :=
  s_call m hn hm hd (by rw [hp_is hS, hl]; exact spec) hk
end
end Go.Proofs.YtdcnpkbflelpfaaDoor.Sx
