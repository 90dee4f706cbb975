/- A string walked by its letters. -/
import Derived.Test.YtdcnpkbflelpfaaDoorSx34
namespace Go.Proofs.YtdcnpkbflelpfaaDoor.Sx
open Go Go.RowKit
section
variable {P : Program} {N : Sg} {d : Option Tmp} {ty : TypeId} {pos : String} {af : Array Edge} {gd : Option (Nat × Bool)} {K : St → Prop}
  {env : List (Nat × AV)} {dfs : List (FuncId × List AV)} {t n : Nat} {bs : List (Nat × Option Blk)} {x : Operand} {s : ByteArray}
/-- What such a walk's block holds. -/
def itc (s : ByteArray) (p : Nat) : Blk := ⟨[.tup [.sc (.string s), .sc (.int .i64 (p : Int))]], 1, 0⟩
theorem HpRel.itAt {ρ Z F S w} (h : HpRel ρ Z F S w) {i p : Nat} {g : Geo} (hb : S.get i = some (itc s p)) (hg : ρ i = some g) (h0 : g.cap = 0) (hm : g.mp = true) : w.heap[g.blk]? = some (.stringIter s p) := by
  obtain ⟨g', hg', hr⟩ := h.live i _ hb
  rw [hg] at hg'; cases hg'
  obtain ⟨o, l, k1, k2, k3, k4⟩ := (hr.2 h0).2.2 hm
  rw [show (itc s p).esz = 1 from rfl] at k2
  unfold ents at k2
  split at k2
  · exact absurd ‹(1 : Nat) = 0› (by decide)
  · cases k2
    obtain ⟨⟨vs, e, _, h3⟩, _⟩ := k4
    cases e
    obtain ⟨h5, h6, _⟩ := h3
    have e1 := (Value.string.inj (show Value.string _ = Value.string _ from h5))
    have e2 := (Value.int.inj (show Value.int _ _ = Value.int _ _ from h6)).2
    rw [k1, e1, Int.ofNat_inj.1 e2]
  · cases k2
theorem itBlk {ρ : Nat → Option Geo} {Z : Nat → Option Obj} {g : Geo} {w : World} {p : Nat} (h0 : g.cap = 0) (h1 : g.esz = 1) (hm : g.mp = true) (hw : w.heap[g.blk]? = some (.stringIter s p)) : BlkRel ρ Z g (itc s p) w :=
  ⟨fun h => by omega, fun _ => ⟨h1, fun h => (by rw [hm] at h; cases h), fun _ => ⟨_, _, hw, rfl, rfl, ⟨_, rfl, rfl, rfl, rfl, trivial⟩, trivial⟩⟩⟩
theorem x_rangeS {T : TypeId} [hT : Und P T .string] (hx : St.ev ⟨env, dfs, ⟨n, bs⟩⟩ x = .sc (.string s)) (hd : Nat.blt t N.n = true) (hk : K ⟨(t, .it n) :: env, dfs, ⟨n + 1, (n, some (itc s 0)) :: bs⟩⟩) : AExec P N ⟨some t, .range T x, ty, pos, af, gd⟩ K ⟨env, dfs, ⟨n, bs⟩⟩ := fun ρ Z F a w hr next Qc hn => by
  have hrun : (execOp a.eval ⟨some t, .range T x, ty, pos, af, gd⟩).run P w = .ok (.value (.pointer (some ⟨w.heap.size, 0, none⟩))) (w.alloc (.stringIter s 0)) := by
    simp [execOp, Instr.range, ev_sc hr hx, run_underlying hT.out]
  unfold Oper.wp
  rw [hrun]
  have hle := upd_le (g := ⟨w.heap.size, 0, 1, true⟩) (hr.hp.fresh n (Nat.le_refl _))
  have hbl : BlkRel (upd ρ n ⟨w.heap.size, 0, 1, true⟩) Z ⟨w.heap.size, 0, 1, true⟩ (itc s 0) (w.alloc (.stringIter s 0)) := itBlk rfl rfl rfl (heap_push_new w _)
  refine hn _ _ (upd ρ n ⟨w.heap.size, 0, 1, true⟩) Z _ ⟨.refl _, rfl, rfl, rfl, by simp⟩ (StRel.put (σ := ⟨env, dfs, ⟨n + 1, (n, some (itc s 0)) :: bs⟩⟩) (d := some t) (v := .it n) ?_ (by rintro _ ⟨⟩; rwa [Nat.blt_eq] at hd) ⟨_, upd_same .., rfl, rfl, rfl⟩) hk
  exact ⟨hr.size, fun t => (hr.env t).mono hle (.refl _), hr.dfs.mono hle (.refl _), hr.hp.grow (S := ⟨n, bs⟩) (fun _ => Nat.le_refl _) hbl (fun k hk => heap_push_old w _ hk), hr.kk⟩
theorem x_nextE {id p : Nat} (hx : St.ev ⟨env, dfs, ⟨n, bs⟩⟩ x = .it id) (hb : find id bs = some (itc s p)) (hp : s.size ≤ p) (hd : Nat.blt t N.n = true) (hk : K ⟨(t, .tup [.sc (.bool false)]) :: env, dfs, ⟨n, bs⟩⟩) : AExec P N ⟨some t, .next x true, ty, pos, af, gd⟩ K ⟨env, dfs, ⟨n, bs⟩⟩ := fun ρ Z F a w hr next Qc hn => by
  have hx' := hr.ev x
  rw [hx] at hx'
  obtain ⟨g, hg, g0, gm, e⟩ := hx'
  have h1 := hr.hp.itAt (S := ⟨n, bs⟩) hb hg g0 gm
  have hrun : (execOp a.eval ⟨some t, .next x true, ty, pos, af, gd⟩).run P w = .ok (.value (.tuple #[.bool false])) w := by
    have k1 : (getObj g.blk).run P w = .ok (.stringIter s p) w := by simp [getObj, Sem.run, h1]
    simp only [execOp, Instr.next, e, Sem.run_bind, k1, Result.andThen_ok, if_neg (Nat.not_lt.2 hp), Sem.run_pure]
  unfold Oper.wp
  rw [hrun]
  exact hn _ _ ρ Z _ ⟨.refl _, rfl, rfl, rfl, Nat.le_refl _⟩ (StRel.put (σ := ⟨env, dfs, ⟨n, bs⟩⟩) (d := some t) (v := .tup [.sc (.bool false)]) hr (by rintro _ ⟨⟩; rwa [Nat.blt_eq] at hd) ⟨_, rfl, rfl, rfl, trivial⟩) hk
theorem x_nextS {id p c wd : Nat} (hx : St.ev ⟨env, dfs, ⟨n, bs⟩⟩ x = .it id) (hb : find id bs = some (itc s p)) (hp : p < s.size) (hc : Utf8.decode s p = (c, wd)) (hd : Nat.blt t N.n = true)
    (hk : K ⟨(t, .tup [.sc (.bool true), .sc (.int .i64 (p : Int)), .sc (.int .i32 (c : Int))]) :: env, dfs, ⟨n, (id, some (itc s (p + wd))) :: bs⟩⟩) : AExec P N ⟨some t, .next x true, ty, pos, af, gd⟩ K ⟨env, dfs, ⟨n, bs⟩⟩ := fun ρ Z F a w hr next Qc hn => by
  have hx' := hr.ev x
  rw [hx] at hx'
  obtain ⟨g, hg, g0, gm, e⟩ := hx'
  have h1 := hr.hp.itAt (S := ⟨n, bs⟩) hb hg g0 gm
  have hesz := hr.hp.esz (S := ⟨n, bs⟩) hb hg
  have hlt := (Array.getElem?_eq_some_iff.1 h1).1
  have hrun : (execOp a.eval ⟨some t, .next x true, ty, pos, af, gd⟩).run P w = .ok (.value (.tuple #[.bool true, .int .i64 (p : Int), .int .i32 (c : Int)])) { w with heap := w.heap.setIfInBounds g.blk (.stringIter s (p + wd)) } := by
    have k1 : (getObj g.blk).run P w = .ok (.stringIter s p) w := by simp [getObj, Sem.run, h1]
    have k2 : (setObj g.blk (.stringIter s (p + wd))).run P w = .ok () { w with heap := w.heap.setIfInBounds g.blk (.stringIter s (p + wd)) } := by simp [setObj, Sem.run, h1]
    simp only [execOp, Instr.next, e, Sem.run_bind, k1, Result.andThen_ok, if_pos hp, hc, k2, Sem.run_pure]
    rfl
  unfold Oper.wp
  rw [hrun]
  refine hn _ _ ρ Z _ ⟨.refl _, rfl, rfl, rfl, by simp⟩ (StRel.put (σ := ⟨env, dfs, ⟨n, (id, some (itc s (p + wd))) :: bs⟩⟩) (d := some t) (v := .tup [.sc (.bool true), .sc (.int .i64 (p : Int)), .sc (.int .i32 (c : Int))]) ⟨hr.size, hr.env, hr.dfs, ?_, hr.kk⟩ (by rintro _ ⟨⟩; rwa [Nat.blt_eq] at hd) ⟨_, rfl, rfl, rfl, rfl, rfl, trivial⟩) hk
  exact hr.hp.set (S := ⟨n, bs⟩) (b := itc s p) (b' := itc s (p + wd)) hb hg (itBlk g0 hesz gm (by simp [hlt])) (.inr gm) (fun k hk => by simp [Array.getElem?_setIfInBounds_ne (Ne.symm hk)])
end
end Go.Proofs.YtdcnpkbflelpfaaDoor.Sx
