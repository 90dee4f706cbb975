/- What a packet is for: the program's table. What a packet is for: the map is filled in any order. What a packet is for. -/
import Derived.Test.YtcidoghpacihpaaG
import Derived.Test.YtcidoghpacihpaaSx39
namespace Go.Proofs.Ytcidoghpacihpaa.Sx
open Go Go.RowKit
attribute [local irreducible] IW AOps AQuiet GQ GY AExec QY Yld ACalls ACallsD
def keyAt : Nat → Int × Int
  | 0 => (0, 1) | 1 => (0, 4) | 2 => (0, 5) | 3 => (2, 1) | 4 => (2, 2) | 5 => (7, 1) | 6 => (1, 4) | 7 => (9, 4) | 8 => (4, 4) | 9 => (5, 4) | 10 => (8, 5) | _ => (-1, -1)
def valAt : Nat → Int
  | 0 => 3 | 1 => 5 | 2 => 4 | _ => 2
def tabIdx (k : Int × Int) : Option Nat := (List.range 11).find? fun j => decide (keyAt j = k)
theorem tabIdx_key {k : Int × Int} {j : Nat} (h : tabIdx k = some j) : keyAt j = k ∧ j < 11 := by
  have h1 := List.find?_some h
  have h2 := List.mem_of_find?_eq_some h
  exact ⟨by simpa using h1, by simpa using h2⟩
theorem tabIdx_at : ∀ j, j < 11 → tabIdx (keyAt j) = some j := by decide
def disp (kind mode : Int) : Int := if kind < 0 ∨ kind > 9 then 0 else if mode = 3 then 1 else match tabIdx (kind, mode) with | none => 0 | some j => valAt j
abbrev vI : Int → Value := fun b => .int .i64 b
def JT (b : Nat → Bool) (M : List ((Int × Int) × Int)) : Prop := ∀ k, alk M k = (tabIdx k).bind fun j => if b j then some (valAt j) else none
theorem jt_none {b : Nat → Bool} {M : List ((Int × Int) × Int)} (h : JT b M) {j : Nat} (hj : j < 11) (hb : b j = false) : alk M (keyAt j) = none := by
  rw [h, tabIdx_at j hj]
  simp [hb]
theorem jt_put {b : Nat → Bool} {M : List ((Int × Int) × Int)} (h : JT b M) {j : Nat} (hj : j < 11) (hb : b j = false) : JT (upd1 b j true) (M ++ [(keyAt j, valAt j)]) := fun k => by
  rw [alk_snoc, h]
  by_cases hk : keyAt j = k
  · subst hk
    rw [tabIdx_at j hj]
    simp [hb, upd1]
  · rw [if_neg hk, Option.or_none]
    cases ht : tabIdx k with
    | none => rfl
    | some j' =>
      have : j' ≠ j := fun e => hk (by rw [← e]; exact (tabIdx_key ht).1)
      simp [upd1, this]
theorem jt_all {b : Nat → Bool} {M : List ((Int × Int) × Int)} (h : JT b M) (hb : ∀ j, j < 11 → b j = true) (k : Int × Int) : ((alk M k).map vI).getD (.int .i64 0) = .int .i64 (match tabIdx k with | none => 0 | some j => valAt j) := by
  rw [h]
  cases ht : tabIdx k with
  | none => rfl
  | some j => simp [hb j (tabIdx_key ht).2]
def cntB (b : Nat → Bool) : Nat → Nat
  | 0 => 0
  | n + 1 => cntB b n + (if b n then 0 else 1)
theorem cntB_put {b : Nat → Bool} {j : Nat} (hb : b j = false) : ∀ {n : Nat}, cntB b n = cntB (upd1 b j true) n + (if j < n then 1 else 0)
  | 0 => by simp [cntB]
  | n + 1 => by
    have ih := cntB_put hb (n := n)
    unfold cntB
    by_cases e : n = j
    · subst e; simp [upd1, hb, ih]
    · rw [ih]
      have : upd1 b j true n = b n := by simp [upd1, e]
      have h2 : (if j < n + 1 then 1 else 0) = (if j < n then 1 else 0) := by split <;> split <;> omega
      rw [this, h2]
      omega
theorem cntB_zero {b : Nat → Bool} : ∀ {n : Nat}, cntB b n = 0 → ∀ j, j < n → b j = true
  | 0, _, j, hj => by omega
  | n + 1, h, j, hj => by
    unfold cntB at h
    by_cases e : j = n
    · subst e
      cases hb : b j with
      | true => rfl
      | false => rw [hb] at h; simp at h
    · exact cntB_zero (n := n) (by omega) j (by omega)
def lst (b : Nat → Bool) (x y z : Bool) : Array Bool := #[true, true, b 0, true, b 1, true, b 2, true, b 3, true, b 4, true, b 5, true, b 6, true, b 7, true, b 8, true, b 9, true, b 10, x, true, true, true, y, z]
instance eqa71 : EqArr Try.prog 71 where
  und := ⟨3, by kernel_rfl⟩
  eq a b w := by
    obtain ⟨a0, a1⟩ := a
    obtain ⟨b0, b1⟩ := b
    have hs : (sizeOf 3).run Try.prog w = .ok 1 w := by
      obtain ⟨I, hI, hIs, _⟩ := (inferInstance : Inf Try.prog 3 1 8 (.int .i64 0)).get
      rw [run_sizeOf' hI, hIs]
    have eqi : ∀ (m : Nat) (x y : Int), (Op.equalIn (m + 1) 3 (.int .i64 x) (.int .i64 y)).run Try.prog w = .ok (x == y) w := fun m x y => by
      simp [Op.equalIn, run_underlying Try.underlying3]
    have p0 : ∀ x y : Int, (part 3 #[.int .i64 x, .int .i64 y] 0).run Try.prog w = .ok (.int .i64 x) w := fun x y => by
      simp [part, run_isAgg' (P := Try.prog) (t := 3) (b := false) inferInstance]
    have p1 : ∀ x y : Int, (part 3 #[.int .i64 x, .int .i64 y] 1).run Try.prog w = .ok (.int .i64 y) w := fun x y => by
      simp [part, run_isAgg' (P := Try.prog) (t := 3) (b := false) inferInstance]
    have key : ∀ m : Nat, (Op.equalIn (m + 1 + 1) 71 (k2 (a0, a1)) (k2 (b0, b1))).run Try.prog w = .ok (decide ((a0, a1) = (b0, b1))) w := fun m => by
      unfold Op.equalIn
      simp only [Sem.run_bind, run_underlying Try.underlying71, Result.andThen_ok, hs]
      by_cases h0 : a0 = b0 <;> by_cases h1 : a1 = b1 <;> simp [Std.Legacy.Range.forIn_eq_forIn_range', Std.Legacy.Range.size, List.range', p0, p1, eqi, h0, h1]
    exact key 9998
  chk a e w := by
    obtain ⟨a0, a1⟩ := a
    have hs : (sizeOf 3).run Try.prog w = .ok 1 w := by
      obtain ⟨I, hI, hIs, _⟩ := (inferInstance : Inf Try.prog 3 1 8 (.int .i64 0)).get
      rw [run_sizeOf' hI, hIs]
    have p0 : ∀ x y : Int, (part 3 #[.int .i64 x, .int .i64 y] 0).run Try.prog w = .ok (.int .i64 x) w := fun x y => by
      simp [part, run_isAgg' (P := Try.prog) (t := 3) (b := false) inferInstance]
    have p1 : ∀ x y : Int, (part 3 #[.int .i64 x, .int .i64 y] 1).run Try.prog w = .ok (.int .i64 y) w := fun x y => by
      simp [part, run_isAgg' (P := Try.prog) (t := 3) (b := false) inferInstance]
    have cki : ∀ (m : Nat) (x : Int), (Instr.checkKey e (m + 1) 3 (.int .i64 x)).run Try.prog w = .ok () w := fun m x => by
      simp [Instr.checkKey, run_underlying Try.underlying3]
    have key : ∀ m : Nat, (Instr.checkKey e (m + 1 + 1) 71 (k2 (a0, a1))).run Try.prog w = .ok () w := fun m => by
      unfold Instr.checkKey
      simp only [Sem.run_bind, run_underlying Try.underlying71, Result.andThen_ok]
      simp [Std.Legacy.Range.forIn_eq_forIn_range', Std.Legacy.Range.size, List.range', p0, p1, cki, hs]
    exact key 9998
end Go.Proofs.Ytcidoghpacihpaa.Sx
namespace Go.Proofs.Ytcidoghpacihpaa.Sx
open Go Go.RowKit
attribute [local irreducible] IW AOps AQuiet GQ GY AExec QY Yld ACalls ACallsD
def aft (md : Region.Mode) (o : Oper) : List Nat := (o.after.toList.filter (Region.binds md)).map (·.on)
theorem ready_aft {ops : Array Oper} {md : Region.Mode} {A : List (List Nat)} (h : ops.toList.map (aft md) = A) {listed : Array Bool} {j : Nat} : j ∈ Region.ready md ops listed ↔ listed.getD j true = false ∧ ∃ l, A[j]? = some l ∧ ∀ k ∈ l, listed.getD k false = true := by
  subst h
  rw [mem_ready]
  simp only [List.getElem?_map, Array.getElem?_toList, Option.map_eq_some_iff]
  constructor
  · rintro ⟨h0, o, ho, h⟩
    refine ⟨h0, _, ⟨o, ho, rfl⟩, fun k hk => ?_⟩
    unfold aft at hk
    simp only [List.mem_map, List.mem_filter, Array.mem_toList_iff] at hk
    obtain ⟨e, ⟨he, hb⟩, rfl⟩ := hk
    exact h e he hb
  · rintro ⟨h0, l, ⟨o, ho, rfl⟩, h⟩
    refine ⟨h0, o, ho, fun e he hb => h _ ?_⟩
    unfold aft
    simp only [List.mem_map, List.mem_filter, Array.mem_toList_iff]
    exact ⟨e, ⟨he, hb⟩, rfl⟩
def A8 : List (List Nat) := [[], [], [0, 1], [], [0, 3], [], [0, 5], [], [0, 7], [], [0, 9], [], [0, 11], [], [0, 13], [], [0, 15], [], [0, 17], [], [0, 19], [], [0, 21], [0, 1, 2, 3, 4, 5, 6, 7, 8, 9, 10, 11, 12, 13, 14, 15, 16, 17, 18, 19, 20, 21, 22], [], [], [24, 25], [23, 26], [27, 0, 1, 2, 3, 4, 5, 6, 7, 8, 9, 10, 11, 12, 13, 14, 15, 16, 17, 18, 19, 20, 21, 22, 23, 24, 25, 26, 27]]
theorem ready8 {ops : Array Oper} (hA : ops.toList.map (aft .any) = A8) (b : Nat → Bool) (i : Nat) (hi : i ∈ Region.ready .any ops (lst b false false false)) : (∃ j, j < 11 ∧ i = 2 * j + 2 ∧ b j = false) ∨ ∀ j, j < 11 → b j = true := by
  obtain ⟨h1, l, h2, h3⟩ := (ready_aft hA).1 hi
  have hlt : i < 29 := (List.getElem?_eq_some_iff.1 h2).1
  clear hi
  rcases i with _ | _ | _ | _ | _ | _ | _ | _ | _ | _ | _ | _ | _ | _ | _ | _ | _ | _ | _ | _ | _ | _ | _ | _ | _ | _ | _ | _ | _ | i
  · exact absurd h1 (by simp [lst])
  · exact absurd h1 (by simp [lst])
  · exact .inl ⟨0, by decide, rfl, by simpa [lst] using h1⟩
  · exact absurd h1 (by simp [lst])
  · exact .inl ⟨1, by decide, rfl, by simpa [lst] using h1⟩
  · exact absurd h1 (by simp [lst])
  · exact .inl ⟨2, by decide, rfl, by simpa [lst] using h1⟩
  · exact absurd h1 (by simp [lst])
  · exact .inl ⟨3, by decide, rfl, by simpa [lst] using h1⟩
  · exact absurd h1 (by simp [lst])
  · exact .inl ⟨4, by decide, rfl, by simpa [lst] using h1⟩
  · exact absurd h1 (by simp [lst])
  · exact .inl ⟨5, by decide, rfl, by simpa [lst] using h1⟩
  · exact absurd h1 (by simp [lst])
  · exact .inl ⟨6, by decide, rfl, by simpa [lst] using h1⟩
  · exact absurd h1 (by simp [lst])
  · exact .inl ⟨7, by decide, rfl, by simpa [lst] using h1⟩
  · exact absurd h1 (by simp [lst])
  · exact .inl ⟨8, by decide, rfl, by simpa [lst] using h1⟩
  · exact absurd h1 (by simp [lst])
  · exact .inl ⟨9, by decide, rfl, by simpa [lst] using h1⟩
  · exact absurd h1 (by simp [lst])
  · exact .inl ⟨10, by decide, rfl, by simpa [lst] using h1⟩
  · obtain rfl : _ = l := Option.some.inj h2
    refine .inr fun j hj => ?_
    have key : ∀ m, m < 23 → (lst b false false false).getD m false = true := fun m hm => h3 m (by simp; omega)
    rcases j with _ | _ | _ | _ | _ | _ | _ | _ | _ | _ | _ | j
    · simpa [lst] using key 2 (by decide)
    · simpa [lst] using key 4 (by decide)
    · simpa [lst] using key 6 (by decide)
    · simpa [lst] using key 8 (by decide)
    · simpa [lst] using key 10 (by decide)
    · simpa [lst] using key 12 (by decide)
    · simpa [lst] using key 14 (by decide)
    · simpa [lst] using key 16 (by decide)
    · simpa [lst] using key 18 (by decide)
    · simpa [lst] using key 20 (by decide)
    · simpa [lst] using key 22 (by decide)
    · omega
  · obtain rfl : _ = l := Option.some.inj h2
    exact absurd h1 (by simp [lst])
  · obtain rfl : _ = l := Option.some.inj h2
    exact absurd h1 (by simp [lst])
  · obtain rfl : _ = l := Option.some.inj h2
    exact absurd h1 (by simp [lst])
  · obtain rfl : _ = l := Option.some.inj h2
    exact absurd (h3 23 (by simp)) (by simp [lst])
  · obtain rfl : _ = l := Option.some.inj h2
    exact absurd (h3 27 (by simp)) (by simp [lst])
  · omega
theorem ready8_ne {ops : Array Oper} (hA : ops.toList.map (aft .any) = A8) (b : Nat → Bool) {j : Nat} (hj : j < 11) (hb : b j = false) : (Region.ready .any ops (lst b false false false)).isEmpty = false := by
  have : 2 * j + 2 ∈ Region.ready .any ops (lst b false false false) := by
    refine (ready_aft hA).2 ⟨?_, [0, 2 * j + 1], ?_, ?_⟩
    all_goals rcases j with _ | _ | _ | _ | _ | _ | _ | _ | _ | _ | _ | j <;> first | (exfalso; omega) | rfl | (simp [lst, hb]; done) | (intro k hk; simp at hk; rcases hk with rfl | rfl <;> simp [lst])
  cases h : Region.ready .any ops (lst b false false false) with
  | nil => rw [h] at this; simp at this
  | cons => rfl
theorem lst_put (b : Nat → Bool) {j : Nat} (hj : j < 11) : (lst b false false false).setIfInBounds (2 * j + 2) true = lst (upd1 b j true) false false false := by
  rcases j with _ | _ | _ | _ | _ | _ | _ | _ | _ | _ | _ | j <;> first | (exfalso; omega) | (simp [lst, upd1]; done)
theorem cntB_pos {b : Nat → Bool} : ∀ {n : Nat}, cntB b n ≠ 0 → ∃ j, j < n ∧ b j = false
  | 0, h => absurd rfl h
  | n + 1, h => by
    by_cases hb : b n = false
    · exact ⟨n, by omega, hb⟩
    · have hb' : b n = true := by simpa using hb
      obtain ⟨j, h1, h2⟩ := cntB_pos (b := b) (n := n) (fun e => h (by unfold cntB; rw [e, hb']; rfl))
      exact ⟨j, by omega, h2⟩
theorem ins_all {N : Sg} {Q : Exit → St → Prop} {ops : Array Oper} {env : List (Nat × AV)} {dfs : List (FuncId × List AV)} {n id : Nat} (hA : ops.toList.map (aft .any) = A8)
    (ho : ∀ j, j < 11 → ∃ pos af, ops[2 * j + 2]? = some ⟨none, .insert 72 (.tmp 13) (.tmp (14 + j)) (.const (.int .i64 (valAt j))), 0, pos, af, none⟩)
    (hm : look 13 env = .mp id) (hk : ∀ j, j < 11 → look (14 + j) env = .agg [.sc (.int .i64 (keyAt j).1), .sc (.int .i64 (keyAt j).2)])
    (hend : ∀ M bs b, JT b M → (∀ j, j < 11 → b j = true) → find id bs = some ⟨mpv k2 vI M, 0, 0⟩ → AAny Try.prog N ops Q 3 (lst (fun _ => true) false false false) ⟨env, dfs, ⟨n, bs⟩⟩) :
    ∀ (c : Nat) (b : Nat → Bool) (M : List ((Int × Int) × Int)) (bs : List (Nat × Option Blk)), cntB b 11 = c → JT b M → find id bs = some ⟨mpv k2 vI M, 0, 0⟩ → AAny Try.prog N ops Q (c + 3) (lst b false false false) ⟨env, dfs, ⟨n, bs⟩⟩
  | 0, b, M, bs, hc, hJ, hb => by
    have hall := cntB_zero hc
    have : lst b false false false = lst (fun _ => true) false false false := by
      simp [lst, hall 0 (by decide), hall 1 (by decide), hall 2 (by decide), hall 3 (by decide), hall 4 (by decide), hall 5 (by decide), hall 6 (by decide), hall 7 (by decide), hall 8 (by decide), hall 9 (by decide), hall 10 (by decide)]
    rw [this]
    exact hend M bs b hJ hall hb
  | c + 1, b, M, bs, hc, hJ, hb => by
    obtain ⟨j0, hj0, hb0⟩ := cntB_pos (b := b) (n := 11) (by omega)
    rw [Nat.add_right_comm]
    refine aany_all _ rfl (ready8_ne hA b hj0 hb0) (aall_of fun i hi => ?_)
    rcases ready8 hA b i hi with ⟨j, hj, rfl, hbj⟩ | h
    · obtain ⟨pos, af, he⟩ := ho j hj
      rw [he]
      refine o_x ?_
      refine x_insertA (vf := vI) (l := M) (a := keyAt j) (b := valAt j) (id := id) hm hb (hk j hj) rfl (jt_none hJ hj hbj) (aops_nil ?_)
      show AAny _ _ _ _ _ _ _
      rw [lst_put b hj]
      exact ins_all hA ho hm hk hend c (upd1 b j true) _ _ (by have := cntB_put (b := b) (j := j) (n := 11) hbj; rw [if_pos hj] at this; omega) (jt_put hJ hj hbj) (by simp [find])
    · exact absurd (h j0 hj0) (by simp [hb0])
end Go.Proofs.Ytcidoghpacihpaa.Sx
namespace Go.Proofs.Ytcidoghpacihpaa.Sx
open Go Go.RowKit
attribute [local irreducible] IW AOps AQuiet GQ GY AExec QY Yld ACalls ACallsD
theorem dispatch_spec (kind mode : Int) : ACalls Try.prog 8 [.sc (.int .i64 kind), .sc (.int .i64 mode)] ⟨0, []⟩ (fun r _ => r = .sc (.int .i64 (disp kind mode))) := by
  refine enter2 Try.func8 rfl 30 0 [.tmp 4] rfl rfl rfl ?_
  by_cases hk : kind < 0 ∨ kind > 9
  · have hd : disp kind mode = 0 := by unfold disp; rw [if_pos hk]
    rw [hd]
    repeat' (first | (refine aops_nil ?_) | (show AOps _ _ _ _ _ _; first | (show AOps _ _ _ _ (⟨some _, .move _, _, _, _, none⟩ :: _) _; first | (refine o_y (v_move (v := .sc _) rfl) rfl ?_)) | (show AOps _ _ _ _ (⟨some _, .assign _, _, _, _, none⟩ :: _) _; first | (refine o_y (v_assign (v := .sc _) rfl) rfl ?_)) | (show AOps _ _ _ _ (⟨some _, .binOp _ _ _ _ _, _, _, _, none⟩ :: _) _; first | (refine o_y (y_bin rfl rfl rfl) rfl ?_)) | (show AOps _ _ _ _ (⟨some _, .pick _ _ _, _, _, _, none⟩ :: _) _; first | (refine o_y (v_pick_t (v := .sc _) rfl (by first | rfl | assumption | exact beq_self_eq_true _ | exact decide_eq_true rfl) rfl) rfl ?_) | (refine o_y (v_pick_f (v := .sc _) rfl (by first | rfl | assumption) rfl) rfl ?_)) | (show AOps _ _ _ _ (⟨_, _, _, _, _, some (_, _)⟩ :: _) _; first | (refine o_g_t rfl rfl rfl (by first | rfl | assumption | exact beq_self_eq_true _ | exact decide_eq_true rfl) ?_) | (refine o_g_f rfl rfl rfl (by first | rfl | assumption) ?_) | (refine o_un rfl rfl rfl (fun h hp => ?_) (fun h hp => ?_)))) | (show IW _ _ [.code (.seq _ _)] _ _; first | (show AWP _ _ (.seq (.seq _ _) _) _ _; refine awp_seq ?_) | (show AWP _ _ (.seq (.region 0 _ _) _) _ _; refine awp_seq ?_) | (show AWP _ _ (.seq (.region 1 _ _) _) _ _; refine awp_seq ?_) | (show AWP _ _ (.seq (.region 2 _ _) _) _ _; refine awp_seq ?_)) | (show IW _ _ _ _ _; first | (refine awp_region ?_) | (refine awp_ret ?_) | (refine awp_skip ?_) | (refine awp_if_t rfl (by first | rfl | assumption | exact beq_self_eq_true _ | exact decide_eq_true rfl) ?_) | (refine awp_if rfl (fun h hp => ?_) (fun h hp => ?_))) | (show thenQ _ _ _ _; first | (refine k_r ?_)))
    all_goals first
      | exact ret1 [] (by decide) rfl rfl
      | (exfalso; omega)
  · by_cases hm : mode = 3
    · have hd : disp kind mode = 1 := by unfold disp; rw [if_neg hk, if_pos hm]
      rw [hd]
      repeat' (first | (refine aops_nil ?_) | (show AOps _ _ _ _ _ _; first | (show AOps _ _ _ _ (⟨some _, .move _, _, _, _, none⟩ :: _) _; first | (refine o_y (v_move (v := .sc _) rfl) rfl ?_)) | (show AOps _ _ _ _ (⟨some _, .assign _, _, _, _, none⟩ :: _) _; first | (refine o_y (v_assign (v := .sc _) rfl) rfl ?_)) | (show AOps _ _ _ _ (⟨some _, .binOp _ _ _ _ _, _, _, _, none⟩ :: _) _; first | (refine o_y (y_bin rfl rfl rfl) rfl ?_)) | (show AOps _ _ _ _ (⟨some _, .pick _ _ _, _, _, _, none⟩ :: _) _; first | (refine o_y (v_pick_t (v := .sc _) rfl (by first | rfl | assumption | exact beq_self_eq_true _ | exact decide_eq_true rfl) rfl) rfl ?_) | (refine o_y (v_pick_f (v := .sc _) rfl (by first | rfl | assumption) rfl) rfl ?_)) | (show AOps _ _ _ _ (⟨_, _, _, _, _, some (_, _)⟩ :: _) _; first | (refine o_g_t rfl rfl rfl (by first | rfl | assumption | exact beq_self_eq_true _ | exact decide_eq_true rfl) ?_) | (refine o_g_f rfl rfl rfl (by first | rfl | assumption) ?_) | (refine o_un rfl rfl rfl (fun h hp => ?_) (fun h hp => ?_)))) | (show IW _ _ [.code (.seq _ _)] _ _; first | (show AWP _ _ (.seq (.seq _ _) _) _ _; refine awp_seq ?_) | (show AWP _ _ (.seq (.region 0 _ _) _) _ _; refine awp_seq ?_) | (show AWP _ _ (.seq (.region 1 _ _) _) _ _; refine awp_seq ?_) | (show AWP _ _ (.seq (.region 2 _ _) _) _ _; refine awp_seq ?_) | (show AWP _ _ (.seq (.region 3 _ _) _) _ _; refine awp_seq ?_) | (show AWP _ _ (.seq (.region 4 _ _) _) _ _; refine awp_seq ?_)) | (show IW _ _ _ _ _; first | (refine awp_region ?_) | (refine awp_ret ?_) | (refine awp_skip ?_) | (refine awp_if_t rfl (by first | rfl | assumption | exact beq_self_eq_true _ | exact decide_eq_true rfl) ?_) | (refine awp_if rfl (fun h hp => ?_) (fun h hp => ?_))) | (show thenQ _ _ _ _; first | (refine k_n ?_) | (refine k_r ?_)))
      all_goals first
        | (exfalso; omega)
        | exact ret1 [] (by decide) rfl rfl
    · have hd : disp kind mode = match tabIdx (kind, mode) with | none => 0 | some j => valAt j := by unfold disp; rw [if_neg hk, if_neg hm] <;> rfl
      repeat' (first | (refine aops_nil ?_) | (show AOps _ _ _ _ _ _; first | (show AOps _ _ _ _ (⟨some _, .move _, _, _, _, none⟩ :: _) _; first | (refine o_y (v_move (v := .sc _) rfl) rfl ?_)) | (show AOps _ _ _ _ (⟨some _, .assign _, _, _, _, none⟩ :: _) _; first | (refine o_y (v_assign (v := .sc _) rfl) rfl ?_)) | (show AOps _ _ _ _ (⟨some _, .binOp _ _ _ _ _, _, _, _, none⟩ :: _) _; first | (refine o_y (y_bin rfl rfl rfl) rfl ?_)) | (show AOps _ _ _ _ (⟨some _, .pick _ _ _, _, _, _, none⟩ :: _) _; first | (refine o_y (v_pick_t (v := .sc _) rfl (by first | rfl | assumption | exact beq_self_eq_true _ | exact decide_eq_true rfl) rfl) rfl ?_) | (refine o_y (v_pick_f (v := .sc _) rfl (by first | rfl | assumption) rfl) rfl ?_)) | (show AOps _ _ _ _ (⟨_, _, _, _, _, some (_, _)⟩ :: _) _; first | (refine o_g_t rfl rfl rfl (by first | rfl | assumption | exact beq_self_eq_true _ | exact decide_eq_true rfl) ?_) | (refine o_g_f rfl rfl rfl (by first | rfl | assumption) ?_) | (refine o_un rfl rfl rfl (fun h hp => ?_) (fun h hp => ?_)))) | (show IW _ _ [.code (.seq _ _)] _ _; first | (show AWP _ _ (.seq (.seq _ _) _) _ _; refine awp_seq ?_) | (show AWP _ _ (.seq (.region 0 _ _) _) _ _; refine awp_seq ?_) | (show AWP _ _ (.seq (.region 1 _ _) _) _ _; refine awp_seq ?_) | (show AWP _ _ (.seq (.region 2 _ _) _) _ _; refine awp_seq ?_) | (show AWP _ _ (.seq (.region 3 _ _) _) _ _; refine awp_seq ?_) | (show AWP _ _ (.seq (.region 4 _ _) _) _ _; refine awp_seq ?_)) | (show IW _ _ _ _ _; first | (refine awp_region ?_) | (refine awp_ret ?_) | (refine awp_skip ?_) | (refine awp_if_t rfl (by first | rfl | assumption | exact beq_self_eq_true _ | exact decide_eq_true rfl) ?_) | (refine awp_if rfl (fun h hp => ?_) (fun h hp => ?_))) | (show thenQ _ _ _ _; first | (refine k_n ?_) | (refine k_r ?_)))
      all_goals try (exfalso; omega)
      refine awp_seq (awp_any ?_)
      show AAny _ _ _ _ 29 _ _
      refine aany_take 1 rfl (p_buildA (cs := [.sc (.int .i64 0), .sc (.int .i64 1)]) rfl rfl) rfl (by decide +kernel) (fun _ _ h => h) ?_
      refine aany_take 3 rfl (p_buildA (cs := [.sc (.int .i64 0), .sc (.int .i64 4)]) rfl rfl) rfl (by decide +kernel) (fun _ _ h => h) ?_
      refine aany_take 5 rfl (p_buildA (cs := [.sc (.int .i64 0), .sc (.int .i64 5)]) rfl rfl) rfl (by decide +kernel) (fun _ _ h => h) ?_
      refine aany_take 7 rfl (p_buildA (cs := [.sc (.int .i64 2), .sc (.int .i64 1)]) rfl rfl) rfl (by decide +kernel) (fun _ _ h => h) ?_
      refine aany_take 9 rfl (p_buildA (cs := [.sc (.int .i64 2), .sc (.int .i64 2)]) rfl rfl) rfl (by decide +kernel) (fun _ _ h => h) ?_
      refine aany_take 11 rfl (p_buildA (cs := [.sc (.int .i64 7), .sc (.int .i64 1)]) rfl rfl) rfl (by decide +kernel) (fun _ _ h => h) ?_
      refine aany_take 13 rfl (p_buildA (cs := [.sc (.int .i64 1), .sc (.int .i64 4)]) rfl rfl) rfl (by decide +kernel) (fun _ _ h => h) ?_
      refine aany_take 15 rfl (p_buildA (cs := [.sc (.int .i64 9), .sc (.int .i64 4)]) rfl rfl) rfl (by decide +kernel) (fun _ _ h => h) ?_
      refine aany_take 17 rfl (p_buildA (cs := [.sc (.int .i64 4), .sc (.int .i64 4)]) rfl rfl) rfl (by decide +kernel) (fun _ _ h => h) ?_
      refine aany_take 19 rfl (p_buildA (cs := [.sc (.int .i64 5), .sc (.int .i64 4)]) rfl rfl) rfl (by decide +kernel) (fun _ _ h => h) ?_
      refine aany_take 21 rfl (p_buildA (cs := [.sc (.int .i64 8), .sc (.int .i64 5)]) rfl rfl) rfl (by decide +kernel) (fun _ _ h => h) ?_
      refine aany_take 24 rfl (p_move (v := .sc (.int .i64 kind)) rfl) rfl (by decide +kernel) (fun _ _ h => h) ?_
      refine aany_take 25 rfl (p_move (v := .sc (.int .i64 mode)) rfl) rfl (by decide +kernel) (fun _ _ h => h) ?_
      refine aany_take 26 rfl (p_buildA (cs := [.sc (.int .i64 kind), .sc (.int .i64 mode)]) rfl rfl) rfl (by decide +kernel) (fun _ _ h => h) ?_
      refine aany_all [0] (by decide +kernel) rfl (aall_cons rfl (o_x (x_makeMapN rfl (aops_nil ?_))) trivial)
      refine ins_all (id := 0) (by decide +kernel) (fun j hj => ?_) rfl (fun j hj => ?_) (fun M bs b hJ hall hb => ?_) 11 (fun _ => false) [] _ rfl (fun k => ?_) rfl
      · rcases j with _ | _ | _ | _ | _ | _ | _ | _ | _ | _ | _ | j <;> first | exact ⟨_, _, rfl⟩ | (exfalso; omega)
      · rcases j with _ | _ | _ | _ | _ | _ | _ | _ | _ | _ | _ | j <;> first | rfl | (exfalso; omega)
      · refine aany_all [23] (by decide +kernel) rfl (aall_cons rfl (o_y (v_move (v := .mp 0) rfl) rfl (aops_nil ?_)) trivial)
        show AAny _ _ _ _ _ _ _
        refine aany_all [27] (by decide +kernel) rfl (aall_cons rfl (o_y (y_lookupA (vf := vI) (l := M) (a := (kind, mode)) (id := 0) (zero := .int .i64 0) rfl hb rfl (jt_all hJ hall (kind, mode))) rfl (aops_nil ?_)) trivial)
        show AAny _ _ _ _ _ _ _
        refine aany_all [28] (by decide +kernel) rfl (aall_cons rfl (o_y (v_assign rfl) rfl (aops_nil ?_)) trivial)
        show AAny _ _ _ _ _ _ _
        refine aany_done (by decide +kernel) ?_
        show AWP _ _ _ _ _
        refine awp_ret ?_
        exact ret1 [] (by decide) rfl (by rw [hd]; rfl)
      · show none = _
        cases tabIdx k <;> rfl
end Go.Proofs.Ytcidoghpacihpaa.Sx
