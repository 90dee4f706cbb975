/- What a packet is for: the program's table. What a packet is for: the map is filled in any order. What a packet is for. What a configuration, a packet and a step hold: arguments, opened. Where a packet goes. -/
import Derived.Test.YtcidoghpacihpaaE
import Derived.Test.YtcidoghpacihpaaSx39
namespace Go.Proofs.Ytcidoghpacihpaa.Sx
open Go Go.RowKit
attribute [local irreducible] IW AOps AQuiet GQ GY AExec QY Yld ACalls ACallsD
def keyAt : Nat → Int × Int
  | 0 => (0, 1) | 1 => (0, 4) | 2 => (0, 5) | 3 => (2, 1) | 4 => (2, 2) | 5 => (7, 1) | 6 => (1, 4) | 7 => (9, 4) | 8 => (4, 4) | 9 => (5, 4) | 10 => (8, 5) | _ => (-1, -1)
def valAt : Nat → Int
  | 0 => 3 | 1 => 5 | 2 => 4 | _ => 2
def tabIdx (k : Int × Int) : Option Nat := (List.range 11).find? fun j => decide (keyAt j = k)
theorem tabIdx_key {k : Int × Int} {j : Nat} (h : tabIdx k = some j) : keyAt j = k ∧ j < 11 := by
  have h1 := List.find?_some h
  have h2 := List.mem_of_find?_eq_some h
  exact ⟨by simpa using h1, by simpa using h2⟩
theorem tabIdx_at : ∀ j, j < 11 → tabIdx (keyAt j) = some j := by decide
def disp (kind mode : Int) : Int := if kind < 0 ∨ kind > 9 then 0 else if mode = 3 then 1 else match tabIdx (kind, mode) with | none => 0 | some j => valAt j
abbrev vI : Int → Value := fun b => .int .i64 b
def JT (b : Nat → Bool) (M : List ((Int × Int) × Int)) : Prop := ∀ k, alk M k = (tabIdx k).bind fun j => if b j then some (valAt j) else none
theorem jt_none {b : Nat → Bool} {M : List ((Int × Int) × Int)} (h : JT b M) {j : Nat} (hj : j < 11) (hb : b j = false) : alk M (keyAt j) = none := by
  rw [h, tabIdx_at j hj]
  simp [hb]
theorem jt_put {b : Nat → Bool} {M : List ((Int × Int) × Int)} (h : JT b M) {j : Nat} (hj : j < 11) (hb : b j = false) : JT (upd1 b j true) (M ++ [(keyAt j, valAt j)]) := fun k => by
  rw [alk_snoc, h]
  by_cases hk : keyAt j = k
  · subst hk
    rw [tabIdx_at j hj]
    simp [hb, upd1]
  · rw [if_neg hk, Option.or_none]
    cases ht : tabIdx k with
    | none => rfl
    | some j' =>
      have : j' ≠ j := fun e => hk (by rw [← e]; exact (tabIdx_key ht).1)
      simp [upd1, this]
theorem jt_all {b : Nat → Bool} {M : List ((Int × Int) × Int)} (h : JT b M) (hb : ∀ j, j < 11 → b j = true) (k : Int × Int) : ((alk M k).map vI).getD (.int .i64 0) = .int .i64 (match tabIdx k with | none => 0 | some j => valAt j) := by
  rw [h]
  cases ht : tabIdx k with
  | none => rfl
  | some j => simp [hb j (tabIdx_key ht).2]
def cntB (b : Nat → Bool) : Nat → Nat
  | 0 => 0
  | n + 1 => cntB b n + (if b n then 0 else 1)
theorem cntB_put {b : Nat → Bool} {j : Nat} (hb : b j = false) : ∀ {n : Nat}, cntB b n = cntB (upd1 b j true) n + (if j < n then 1 else 0)
  | 0 => by simp [cntB]
  | n + 1 => by
    have ih := cntB_put hb (n := n)
    unfold cntB
    by_cases e : n = j
    · subst e; simp [upd1, hb, ih]
    · rw [ih]
      have : upd1 b j true n = b n := by simp [upd1, e]
      have h2 : (if j < n + 1 then 1 else 0) = (if j < n then 1 else 0) := by split <;> split <;> omega
      rw [this, h2]
      omega
theorem cntB_zero {b : Nat → Bool} : ∀ {n : Nat}, cntB b n = 0 → ∀ j, j < n → b j = true
  | 0, _, j, hj => by omega
  | n + 1, h, j, hj => by
    unfold cntB at h
    by_cases e : j = n
    · subst e
      cases hb : b j with
      | true => rfl
      | false => rw [hb] at h; simp at h
    · exact cntB_zero (n := n) (by omega) j (by omega)
def lst (b : Nat → Bool) (x y z : Bool) : Array Bool := #[true, true, b 0, true, b 1, true, b 2, true, b 3, true, b 4, true, b 5, true, b 6, true, b 7, true, b 8, true, b 9, true, b 10, x, true, true, true, y, z]
instance eqa71 : EqArr Try.prog 71 where
  und := ⟨3, by kernel_rfl⟩
  eq a b w := by
    obtain ⟨a0, a1⟩ := a
    obtain ⟨b0, b1⟩ := b
    have hs : (sizeOf 3).run Try.prog w = .ok 1 w := by
      obtain ⟨I, hI, hIs, _⟩ := (inferInstance : Inf Try.prog 3 1 8 (.int .i64 0)).get
      rw [run_sizeOf' hI, hIs]
    have eqi : ∀ (m : Nat) (x y : Int), (Op.equalIn (m + 1) 3 (.int .i64 x) (.int .i64 y)).run Try.prog w = .ok (x == y) w := fun m x y => by
      simp [Op.equalIn, run_underlying Try.underlying3]
    have p0 : ∀ x y : Int, (part 3 #[.int .i64 x, .int .i64 y] 0).run Try.prog w = .ok (.int .i64 x) w := fun x y => by
      simp [part, run_isAgg' (P := Try.prog) (t := 3) (b := false) inferInstance]
    have p1 : ∀ x y : Int, (part 3 #[.int .i64 x, .int .i64 y] 1).run Try.prog w = .ok (.int .i64 y) w := fun x y => by
      simp [part, run_isAgg' (P := Try.prog) (t := 3) (b := false) inferInstance]
    have key : ∀ m : Nat, (Op.equalIn (m + 1 + 1) 71 (k2 (a0, a1)) (k2 (b0, b1))).run Try.prog w = .ok (decide ((a0, a1) = (b0, b1))) w := fun m => by
      unfold Op.equalIn
      simp only [Sem.run_bind, run_underlying Try.underlying71, Result.andThen_ok, hs]
      by_cases h0 : a0 = b0 <;> by_cases h1 : a1 = b1 <;> simp [Std.Legacy.Range.forIn_eq_forIn_range', Std.Legacy.Range.size, List.range', p0, p1, eqi, h0, h1]
    exact key 9998
  chk a e w := by
    obtain ⟨a0, a1⟩ := a
    have hs : (sizeOf 3).run Try.prog w = .ok 1 w := by
      obtain ⟨I, hI, hIs, _⟩ := (inferInstance : Inf Try.prog 3 1 8 (.int .i64 0)).get
      rw [run_sizeOf' hI, hIs]
    have p0 : ∀ x y : Int, (part 3 #[.int .i64 x, .int .i64 y] 0).run Try.prog w = .ok (.int .i64 x) w := fun x y => by
      simp [part, run_isAgg' (P := Try.prog) (t := 3) (b := false) inferInstance]
    have p1 : ∀ x y : Int, (part 3 #[.int .i64 x, .int .i64 y] 1).run Try.prog w = .ok (.int .i64 y) w := fun x y => by
      simp [part, run_isAgg' (P := Try.prog) (t := 3) (b := false) inferInstance]
    have cki : ∀ (m : Nat) (x : Int), (Instr.checkKey e (m + 1) 3 (.int .i64 x)).run Try.prog w = .ok () w := fun m x => by
      simp [Instr.checkKey, run_underlying Try.underlying3]
    have key : ∀ m : Nat, (Instr.checkKey e (m + 1 + 1) 71 (k2 (a0, a1))).run Try.prog w = .ok () w := fun m => by
      unfold Instr.checkKey
      simp only [Sem.run_bind, run_underlying Try.underlying71, Result.andThen_ok]
      simp [Std.Legacy.Range.forIn_eq_forIn_range', Std.Legacy.Range.size, List.range', p0, p1, cki, hs]
    exact key 9998
end Go.Proofs.Ytcidoghpacihpaa.Sx
namespace Go.Proofs.Ytcidoghpacihpaa.Sx
open Go Go.RowKit
attribute [local irreducible] IW AOps AQuiet GQ GY AExec QY Yld ACalls ACallsD
def aft (md : Region.Mode) (o : Oper) : List Nat := (o.after.toList.filter (Region.binds md)).map (·.on)
theorem ready_aft {ops : Array Oper} {md : Region.Mode} {A : List (List Nat)} (h : ops.toList.map (aft md) = A) {listed : Array Bool} {j : Nat} : j ∈ Region.ready md ops listed ↔ listed.getD j true = false ∧ ∃ l, A[j]? = some l ∧ ∀ k ∈ l, listed.getD k false = true := by
  subst h
  rw [mem_ready]
  simp only [List.getElem?_map, Array.getElem?_toList, Option.map_eq_some_iff]
  constructor
  · rintro ⟨h0, o, ho, h⟩
    refine ⟨h0, _, ⟨o, ho, rfl⟩, fun k hk => ?_⟩
    unfold aft at hk
    simp only [List.mem_map, List.mem_filter, Array.mem_toList_iff] at hk
    obtain ⟨e, ⟨he, hb⟩, rfl⟩ := hk
    exact h e he hb
  · rintro ⟨h0, l, ⟨o, ho, rfl⟩, h⟩
    refine ⟨h0, o, ho, fun e he hb => h _ ?_⟩
    unfold aft
    simp only [List.mem_map, List.mem_filter, Array.mem_toList_iff]
    exact ⟨e, ⟨he, hb⟩, rfl⟩
def A8 : List (List Nat) := [[], [], [0, 1], [], [0, 3], [], [0, 5], [], [0, 7], [], [0, 9], [], [0, 11], [], [0, 13], [], [0, 15], [], [0, 17], [], [0, 19], [], [0, 21], [0, 1, 2, 3, 4, 5, 6, 7, 8, 9, 10, 11, 12, 13, 14, 15, 16, 17, 18, 19, 20, 21, 22], [], [], [24, 25], [23, 26], [27, 0, 1, 2, 3, 4, 5, 6, 7, 8, 9, 10, 11, 12, 13, 14, 15, 16, 17, 18, 19, 20, 21, 22, 23, 24, 25, 26, 27]]
theorem ready8 {ops : Array Oper} (hA : ops.toList.map (aft .any) = A8) (b : Nat → Bool) (i : Nat) (hi : i ∈ Region.ready .any ops (lst b false false false)) : (∃ j, j < 11 ∧ i = 2 * j + 2 ∧ b j = false) ∨ ∀ j, j < 11 → b j = true := by
  obtain ⟨h1, l, h2, h3⟩ := (ready_aft hA).1 hi
  have hlt : i < 29 := (List.getElem?_eq_some_iff.1 h2).1
  clear hi
  rcases i with _ | _ | _ | _ | _ | _ | _ | _ | _ | _ | _ | _ | _ | _ | _ | _ | _ | _ | _ | _ | _ | _ | _ | _ | _ | _ | _ | _ | _ | i
  · exact absurd h1 (by simp [lst])
  · exact absurd h1 (by simp [lst])
  · exact .inl ⟨0, by decide, rfl, by simpa [lst] using h1⟩
  · exact absurd h1 (by simp [lst])
  · exact .inl ⟨1, by decide, rfl, by simpa [lst] using h1⟩
  · exact absurd h1 (by simp [lst])
  · exact .inl ⟨2, by decide, rfl, by simpa [lst] using h1⟩
  · exact absurd h1 (by simp [lst])
  · exact .inl ⟨3, by decide, rfl, by simpa [lst] using h1⟩
  · exact absurd h1 (by simp [lst])
  · exact .inl ⟨4, by decide, rfl, by simpa [lst] using h1⟩
  · exact absurd h1 (by simp [lst])
  · exact .inl ⟨5, by decide, rfl, by simpa [lst] using h1⟩
  · exact absurd h1 (by simp [lst])
  · exact .inl ⟨6, by decide, rfl, by simpa [lst] using h1⟩
  · exact absurd h1 (by simp [lst])
  · exact .inl ⟨7, by decide, rfl, by simpa [lst] using h1⟩
  · exact absurd h1 (by simp [lst])
  · exact .inl ⟨8, by decide, rfl, by simpa [lst] using h1⟩
  · exact absurd h1 (by simp [lst])
  · exact .inl ⟨9, by decide, rfl, by simpa [lst] using h1⟩
  · exact absurd h1 (by simp [lst])
  · exact .inl ⟨10, by decide, rfl, by simpa [lst] using h1⟩
  · obtain rfl : _ = l := Option.some.inj h2
    refine .inr fun j hj => ?_
    have key : ∀ m, m < 23 → (lst b false false false).getD m false = true := fun m hm => h3 m (by simp; omega)
    rcases j with _ | _ | _ | _ | _ | _ | _ | _ | _ | _ | _ | j
    · simpa [lst] using key 2 (by decide)
    · simpa [lst] using key 4 (by decide)
    · simpa [lst] using key 6 (by decide)
    · simpa [lst] using key 8 (by decide)
    · simpa [lst] using key 10 (by decide)
    · simpa [lst] using key 12 (by decide)
    · simpa [lst] using key 14 (by decide)
    · simpa [lst] using key 16 (by decide)
    · simpa [lst] using key 18 (by decide)
    · simpa [lst] using key 20 (by decide)
    · simpa [lst] using key 22 (by decide)
    · omega
  · obtain rfl : _ = l := Option.some.inj h2
    exact absurd h1 (by simp [lst])
  · obtain rfl : _ = l := Option.some.inj h2
    exact absurd h1 (by simp [lst])
  · obtain rfl : _ = l := Option.some.inj h2
    exact absurd h1 (by simp [lst])
  · obtain rfl : _ = l := Option.some.inj h2
    exact absurd (h3 23 (by simp)) (by simp [lst])
  · obtain rfl : _ = l := Option.some.inj h2
    exact absurd (h3 27 (by simp)) (by simp [lst])
  · omega
theorem ready8_ne {ops : Array Oper} (hA : ops.toList.map (aft .any) = A8) (b : Nat → Bool) {j : Nat} (hj : j < 11) (hb : b j = false) : (Region.ready .any ops (lst b false false false)).isEmpty = false := by
  have : 2 * j + 2 ∈ Region.ready .any ops (lst b false false false) := by
    refine (ready_aft hA).2 ⟨?_, [0, 2 * j + 1], ?_, ?_⟩
    all_goals rcases j with _ | _ | _ | _ | _ | _ | _ | _ | _ | _ | _ | j <;> first | (exfalso; omega) | rfl | (simp [lst, hb]; done) | (intro k hk; simp at hk; rcases hk with rfl | rfl <;> simp [lst])
  cases h : Region.ready .any ops (lst b false false false) with
  | nil => rw [h] at this; simp at this
  | cons => rfl
theorem lst_put (b : Nat → Bool) {j : Nat} (hj : j < 11) : (lst b false false false).setIfInBounds (2 * j + 2) true = lst (upd1 b j true) false false false := by
  rcases j with _ | _ | _ | _ | _ | _ | _ | _ | _ | _ | _ | j <;> first | (exfalso; omega) | (simp [lst, upd1]; done)
theorem cntB_pos {b : Nat → Bool} : ∀ {n : Nat}, cntB b n ≠ 0 → ∃ j, j < n ∧ b j = false
  | 0, h => absurd rfl h
  | n + 1, h => by
    by_cases hb : b n = false
    · exact ⟨n, by omega, hb⟩
    · have hb' : b n = true := by simpa using hb
      obtain ⟨j, h1, h2⟩ := cntB_pos (b := b) (n := n) (fun e => h (by unfold cntB; rw [e, hb']; rfl))
      exact ⟨j, by omega, h2⟩
theorem ins_all {N : Sg} {Q : Exit → St → Prop} {ops : Array Oper} {env : List (Nat × AV)} {dfs : List (FuncId × List AV)} {n id : Nat} (hA : ops.toList.map (aft .any) = A8)
    (ho : ∀ j, j < 11 → ∃ pos af, ops[2 * j + 2]? = some ⟨none, .insert 72 (.tmp 13) (.tmp (14 + j)) (.const (.int .i64 (valAt j))), 0, pos, af, none⟩)
    (hm : look 13 env = .mp id) (hk : ∀ j, j < 11 → look (14 + j) env = .agg [.sc (.int .i64 (keyAt j).1), .sc (.int .i64 (keyAt j).2)])
    (hend : ∀ M bs b, JT b M → (∀ j, j < 11 → b j = true) → find id bs = some ⟨mpv k2 vI M, 0, 0⟩ → AAny Try.prog N ops Q 3 (lst (fun _ => true) false false false) ⟨env, dfs, ⟨n, bs⟩⟩) :
    ∀ (c : Nat) (b : Nat → Bool) (M : List ((Int × Int) × Int)) (bs : List (Nat × Option Blk)), cntB b 11 = c → JT b M → find id bs = some ⟨mpv k2 vI M, 0, 0⟩ → AAny Try.prog N ops Q (c + 3) (lst b false false false) ⟨env, dfs, ⟨n, bs⟩⟩
  | 0, b, M, bs, hc, hJ, hb => by
    have hall := cntB_zero hc
    have : lst b false false false = lst (fun _ => true) false false false := by
      simp [lst, hall 0 (by decide), hall 1 (by decide), hall 2 (by decide), hall 3 (by decide), hall 4 (by decide), hall 5 (by decide), hall 6 (by decide), hall 7 (by decide), hall 8 (by decide), hall 9 (by decide), hall 10 (by decide)]
    rw [this]
    exact hend M bs b hJ hall hb
  | c + 1, b, M, bs, hc, hJ, hb => by
    obtain ⟨j0, hj0, hb0⟩ := cntB_pos (b := b) (n := 11) (by omega)
    rw [Nat.add_right_comm]
    refine aany_all _ rfl (ready8_ne hA b hj0 hb0) (aall_of fun i hi => ?_)
    rcases ready8 hA b i hi with ⟨j, hj, rfl, hbj⟩ | h
    · obtain ⟨pos, af, he⟩ := ho j hj
      rw [he]
      refine o_x ?_
      refine x_insertA (vf := vI) (l := M) (a := keyAt j) (b := valAt j) (id := id) hm hb (hk j hj) rfl (jt_none hJ hj hbj) (aops_nil ?_)
      show AAny _ _ _ _ _ _ _
      rw [lst_put b hj]
      exact ins_all hA ho hm hk hend c (upd1 b j true) _ _ (by have := cntB_put (b := b) (j := j) (n := 11) hbj; rw [if_pos hj] at this; omega) (jt_put hJ hj hbj) (by simp [find])
    · exact absurd (h j0 hj0) (by simp [hb0])
end Go.Proofs.Ytcidoghpacihpaa.Sx
namespace Go.Proofs.Ytcidoghpacihpaa.Sx
open Go Go.RowKit
attribute [local irreducible] IW AOps AQuiet GQ GY AExec QY Yld ACalls ACallsD
theorem dispatch_spec (kind mode : Int) : ACalls Try.prog 8 [.sc (.int .i64 kind), .sc (.int .i64 mode)] ⟨0, []⟩ (fun r _ => r = .sc (.int .i64 (disp kind mode))) := by
  refine enter2 Try.func8 rfl 30 0 [.tmp 4] rfl rfl rfl ?_
  by_cases hk : kind < 0 ∨ kind > 9
  · have hd : disp kind mode = 0 := by unfold disp; rw [if_pos hk]
    rw [hd]
    repeat' (first | (refine aops_nil ?_) | (show AOps _ _ _ _ _ _; first | (show AOps _ _ _ _ (⟨some _, .move _, _, _, _, none⟩ :: _) _; first | (refine o_y (v_move (v := .sc _) rfl) rfl ?_)) | (show AOps _ _ _ _ (⟨some _, .assign _, _, _, _, none⟩ :: _) _; first | (refine o_y (v_assign (v := .sc _) rfl) rfl ?_)) | (show AOps _ _ _ _ (⟨some _, .binOp _ _ _ _ _, _, _, _, none⟩ :: _) _; first | (refine o_y (y_bin rfl rfl rfl) rfl ?_)) | (show AOps _ _ _ _ (⟨some _, .pick _ _ _, _, _, _, none⟩ :: _) _; first | (refine o_y (v_pick_t (v := .sc _) rfl (by first | rfl | assumption | exact beq_self_eq_true _ | exact decide_eq_true rfl) rfl) rfl ?_) | (refine o_y (v_pick_f (v := .sc _) rfl (by first | rfl | assumption) rfl) rfl ?_)) | (show AOps _ _ _ _ (⟨_, _, _, _, _, some (_, _)⟩ :: _) _; first | (refine o_g_t rfl rfl rfl (by first | rfl | assumption | exact beq_self_eq_true _ | exact decide_eq_true rfl) ?_) | (refine o_g_f rfl rfl rfl (by first | rfl | assumption) ?_) | (refine o_un rfl rfl rfl (fun h hp => ?_) (fun h hp => ?_)))) | (show IW _ _ [.code (.seq _ _)] _ _; first | (show AWP _ _ (.seq (.seq _ _) _) _ _; refine awp_seq ?_) | (show AWP _ _ (.seq (.region 0 _ _) _) _ _; refine awp_seq ?_) | (show AWP _ _ (.seq (.region 1 _ _) _) _ _; refine awp_seq ?_) | (show AWP _ _ (.seq (.region 2 _ _) _) _ _; refine awp_seq ?_)) | (show IW _ _ _ _ _; first | (refine awp_region ?_) | (refine awp_ret ?_) | (refine awp_skip ?_) | (refine awp_if_t rfl (by first | rfl | assumption | exact beq_self_eq_true _ | exact decide_eq_true rfl) ?_) | (refine awp_if rfl (fun h hp => ?_) (fun h hp => ?_))) | (show thenQ _ _ _ _; first | (refine k_r ?_)))
    all_goals first
      | exact ret1 [] (by decide) rfl rfl
      | (exfalso; omega)
  · by_cases hm : mode = 3
    · have hd : disp kind mode = 1 := by unfold disp; rw [if_neg hk, if_pos hm]
      rw [hd]
      repeat' (first | (refine aops_nil ?_) | (show AOps _ _ _ _ _ _; first | (show AOps _ _ _ _ (⟨some _, .move _, _, _, _, none⟩ :: _) _; first | (refine o_y (v_move (v := .sc _) rfl) rfl ?_)) | (show AOps _ _ _ _ (⟨some _, .assign _, _, _, _, none⟩ :: _) _; first | (refine o_y (v_assign (v := .sc _) rfl) rfl ?_)) | (show AOps _ _ _ _ (⟨some _, .binOp _ _ _ _ _, _, _, _, none⟩ :: _) _; first | (refine o_y (y_bin rfl rfl rfl) rfl ?_)) | (show AOps _ _ _ _ (⟨some _, .pick _ _ _, _, _, _, none⟩ :: _) _; first | (refine o_y (v_pick_t (v := .sc _) rfl (by first | rfl | assumption | exact beq_self_eq_true _ | exact decide_eq_true rfl) rfl) rfl ?_) | (refine o_y (v_pick_f (v := .sc _) rfl (by first | rfl | assumption) rfl) rfl ?_)) | (show AOps _ _ _ _ (⟨_, _, _, _, _, some (_, _)⟩ :: _) _; first | (refine o_g_t rfl rfl rfl (by first | rfl | assumption | exact beq_self_eq_true _ | exact decide_eq_true rfl) ?_) | (refine o_g_f rfl rfl rfl (by first | rfl | assumption) ?_) | (refine o_un rfl rfl rfl (fun h hp => ?_) (fun h hp => ?_)))) | (show IW _ _ [.code (.seq _ _)] _ _; first | (show AWP _ _ (.seq (.seq _ _) _) _ _; refine awp_seq ?_) | (show AWP _ _ (.seq (.region 0 _ _) _) _ _; refine awp_seq ?_) | (show AWP _ _ (.seq (.region 1 _ _) _) _ _; refine awp_seq ?_) | (show AWP _ _ (.seq (.region 2 _ _) _) _ _; refine awp_seq ?_) | (show AWP _ _ (.seq (.region 3 _ _) _) _ _; refine awp_seq ?_) | (show AWP _ _ (.seq (.region 4 _ _) _) _ _; refine awp_seq ?_)) | (show IW _ _ _ _ _; first | (refine awp_region ?_) | (refine awp_ret ?_) | (refine awp_skip ?_) | (refine awp_if_t rfl (by first | rfl | assumption | exact beq_self_eq_true _ | exact decide_eq_true rfl) ?_) | (refine awp_if rfl (fun h hp => ?_) (fun h hp => ?_))) | (show thenQ _ _ _ _; first | (refine k_n ?_) | (refine k_r ?_)))
      all_goals first
        | (exfalso; omega)
        | exact ret1 [] (by decide) rfl rfl
    · have hd : disp kind mode = match tabIdx (kind, mode) with | none => 0 | some j => valAt j := by unfold disp; rw [if_neg hk, if_neg hm] <;> rfl
      repeat' (first | (refine aops_nil ?_) | (show AOps _ _ _ _ _ _; first | (show AOps _ _ _ _ (⟨some _, .move _, _, _, _, none⟩ :: _) _; first | (refine o_y (v_move (v := .sc _) rfl) rfl ?_)) | (show AOps _ _ _ _ (⟨some _, .assign _, _, _, _, none⟩ :: _) _; first | (refine o_y (v_assign (v := .sc _) rfl) rfl ?_)) | (show AOps _ _ _ _ (⟨some _, .binOp _ _ _ _ _, _, _, _, none⟩ :: _) _; first | (refine o_y (y_bin rfl rfl rfl) rfl ?_)) | (show AOps _ _ _ _ (⟨some _, .pick _ _ _, _, _, _, none⟩ :: _) _; first | (refine o_y (v_pick_t (v := .sc _) rfl (by first | rfl | assumption | exact beq_self_eq_true _ | exact decide_eq_true rfl) rfl) rfl ?_) | (refine o_y (v_pick_f (v := .sc _) rfl (by first | rfl | assumption) rfl) rfl ?_)) | (show AOps _ _ _ _ (⟨_, _, _, _, _, some (_, _)⟩ :: _) _; first | (refine o_g_t rfl rfl rfl (by first | rfl | assumption | exact beq_self_eq_true _ | exact decide_eq_true rfl) ?_) | (refine o_g_f rfl rfl rfl (by first | rfl | assumption) ?_) | (refine o_un rfl rfl rfl (fun h hp => ?_) (fun h hp => ?_)))) | (show IW _ _ [.code (.seq _ _)] _ _; first | (show AWP _ _ (.seq (.seq _ _) _) _ _; refine awp_seq ?_) | (show AWP _ _ (.seq (.region 0 _ _) _) _ _; refine awp_seq ?_) | (show AWP _ _ (.seq (.region 1 _ _) _) _ _; refine awp_seq ?_) | (show AWP _ _ (.seq (.region 2 _ _) _) _ _; refine awp_seq ?_) | (show AWP _ _ (.seq (.region 3 _ _) _) _ _; refine awp_seq ?_) | (show AWP _ _ (.seq (.region 4 _ _) _) _ _; refine awp_seq ?_)) | (show IW _ _ _ _ _; first | (refine awp_region ?_) | (refine awp_ret ?_) | (refine awp_skip ?_) | (refine awp_if_t rfl (by first | rfl | assumption | exact beq_self_eq_true _ | exact decide_eq_true rfl) ?_) | (refine awp_if rfl (fun h hp => ?_) (fun h hp => ?_))) | (show thenQ _ _ _ _; first | (refine k_n ?_) | (refine k_r ?_)))
      all_goals try (exfalso; omega)
      refine awp_seq (awp_any ?_)
      show AAny _ _ _ _ 29 _ _
      refine aany_take 1 rfl (p_buildA (cs := [.sc (.int .i64 0), .sc (.int .i64 1)]) rfl rfl) rfl (by decide +kernel) (fun _ _ h => h) ?_
      refine aany_take 3 rfl (p_buildA (cs := [.sc (.int .i64 0), .sc (.int .i64 4)]) rfl rfl) rfl (by decide +kernel) (fun _ _ h => h) ?_
      refine aany_take 5 rfl (p_buildA (cs := [.sc (.int .i64 0), .sc (.int .i64 5)]) rfl rfl) rfl (by decide +kernel) (fun _ _ h => h) ?_
      refine aany_take 7 rfl (p_buildA (cs := [.sc (.int .i64 2), .sc (.int .i64 1)]) rfl rfl) rfl (by decide +kernel) (fun _ _ h => h) ?_
      refine aany_take 9 rfl (p_buildA (cs := [.sc (.int .i64 2), .sc (.int .i64 2)]) rfl rfl) rfl (by decide +kernel) (fun _ _ h => h) ?_
      refine aany_take 11 rfl (p_buildA (cs := [.sc (.int .i64 7), .sc (.int .i64 1)]) rfl rfl) rfl (by decide +kernel) (fun _ _ h => h) ?_
      refine aany_take 13 rfl (p_buildA (cs := [.sc (.int .i64 1), .sc (.int .i64 4)]) rfl rfl) rfl (by decide +kernel) (fun _ _ h => h) ?_
      refine aany_take 15 rfl (p_buildA (cs := [.sc (.int .i64 9), .sc (.int .i64 4)]) rfl rfl) rfl (by decide +kernel) (fun _ _ h => h) ?_
      refine aany_take 17 rfl (p_buildA (cs := [.sc (.int .i64 4), .sc (.int .i64 4)]) rfl rfl) rfl (by decide +kernel) (fun _ _ h => h) ?_
      refine aany_take 19 rfl (p_buildA (cs := [.sc (.int .i64 5), .sc (.int .i64 4)]) rfl rfl) rfl (by decide +kernel) (fun _ _ h => h) ?_
      refine aany_take 21 rfl (p_buildA (cs := [.sc (.int .i64 8), .sc (.int .i64 5)]) rfl rfl) rfl (by decide +kernel) (fun _ _ h => h) ?_
      refine aany_take 24 rfl (p_move (v := .sc (.int .i64 kind)) rfl) rfl (by decide +kernel) (fun _ _ h => h) ?_
      refine aany_take 25 rfl (p_move (v := .sc (.int .i64 mode)) rfl) rfl (by decide +kernel) (fun _ _ h => h) ?_
      refine aany_take 26 rfl (p_buildA (cs := [.sc (.int .i64 kind), .sc (.int .i64 mode)]) rfl rfl) rfl (by decide +kernel) (fun _ _ h => h) ?_
      refine aany_all [0] (by decide +kernel) rfl (aall_cons rfl (o_x (x_makeMapN rfl (aops_nil ?_))) trivial)
      refine ins_all (id := 0) (by decide +kernel) (fun j hj => ?_) rfl (fun j hj => ?_) (fun M bs b hJ hall hb => ?_) 11 (fun _ => false) [] _ rfl (fun k => ?_) rfl
      · rcases j with _ | _ | _ | _ | _ | _ | _ | _ | _ | _ | _ | j <;> first | exact ⟨_, _, rfl⟩ | (exfalso; omega)
      · rcases j with _ | _ | _ | _ | _ | _ | _ | _ | _ | _ | _ | j <;> first | rfl | (exfalso; omega)
      · refine aany_all [23] (by decide +kernel) rfl (aall_cons rfl (o_y (v_move (v := .mp 0) rfl) rfl (aops_nil ?_)) trivial)
        show AAny _ _ _ _ _ _ _
        refine aany_all [27] (by decide +kernel) rfl (aall_cons rfl (o_y (y_lookupA (vf := vI) (l := M) (a := (kind, mode)) (id := 0) (zero := .int .i64 0) rfl hb rfl (jt_all hJ hall (kind, mode))) rfl (aops_nil ?_)) trivial)
        show AAny _ _ _ _ _ _ _
        refine aany_all [28] (by decide +kernel) rfl (aall_cons rfl (o_y (v_assign rfl) rfl (aops_nil ?_)) trivial)
        show AAny _ _ _ _ _ _ _
        refine aany_done (by decide +kernel) ?_
        show AWP _ _ _ _ _
        refine awp_ret ?_
        exact ret1 [] (by decide) rfl (by rw [hd]; rfl)
      · show none = _
        cases tabIdx k <;> rfl
end Go.Proofs.Ytcidoghpacihpaa.Sx
namespace Go.Proofs.Ytcidoghpacihpaa.Sx
open Go Go.RowKit
attribute [local irreducible] IW AOps AQuiet GQ GY AExec QY Yld ACalls ACallsD
set_option maxRecDepth 20000
structure S39 where
  f0 : Int
  f1 : Int
  f2 : Int
  f3 : Int
  f4 : Int
  f5 : Bool
  f6 : Bool
  f7 : Bool
  f8 : Int
  f9 : Bool
  f10 : Int
  f11 : Int
def S39.cs (x : S39) : List AV := .sc (.int .i64 x.f0) :: .sc (.int .u32 x.f1) :: .sc (.int .i64 x.f2) :: .sc (.int .i64 x.f3) :: .sc (.int .i64 x.f4) :: .sc (.bool x.f5) :: .sc (.bool x.f6) :: .sc (.bool x.f7) :: .sc (.int .i64 x.f8) :: .sc (.bool x.f9) :: .sc (.int .i64 x.f10) :: .sc (.int .i64 x.f11) :: []
def S39.ok (x : S39) : Prop := (-9223372036854775808 ≤ x.f0 ∧ x.f0 ≤ 9223372036854775807) ∧ (0 ≤ x.f1 ∧ x.f1 ≤ 4294967295) ∧ (-9223372036854775808 ≤ x.f2 ∧ x.f2 ≤ 9223372036854775807) ∧ (-9223372036854775808 ≤ x.f3 ∧ x.f3 ≤ 9223372036854775807) ∧ (-9223372036854775808 ≤ x.f4 ∧ x.f4 ≤ 9223372036854775807) ∧ True ∧ True ∧ True ∧ (-9223372036854775808 ≤ x.f8 ∧ x.f8 ≤ 9223372036854775807) ∧ True ∧ (-9223372036854775808 ≤ x.f10 ∧ x.f10 ≤ 9223372036854775807) ∧ (-9223372036854775808 ≤ x.f11 ∧ x.f11 ≤ 9223372036854775807)
theorem typS39_40 {n : Nat} {l : List AV} (h : Typ Try.prog n 40 l) : ∃ x : S39, l = x.cs ∧ x.ok := by
  obtain ⟨n', hl, hf⟩ := typ_struct Try.underlying40 12 (by kernel_rfl) (by kernel_rfl) h
  obtain ⟨x0, e0, o0⟩ := typ_rng Try.underlying3 (hf 0 _ rfl)
  obtain ⟨x1, e1, o1⟩ := typ_rng Try.underlying38 (hf 1 _ rfl)
  obtain ⟨x2, e2, o2⟩ := typ_rng Try.underlying3 (hf 2 _ rfl)
  obtain ⟨x3, e3, o3⟩ := typ_rng Try.underlying3 (hf 3 _ rfl)
  obtain ⟨x4, e4, o4⟩ := typ_rng Try.underlying3 (hf 4 _ rfl)
  obtain ⟨x5, e5, o5⟩ := typ_bool1 Try.underlying4 (hf 5 _ rfl)
  obtain ⟨x6, e6, o6⟩ := typ_bool1 Try.underlying4 (hf 6 _ rfl)
  obtain ⟨x7, e7, o7⟩ := typ_bool1 Try.underlying4 (hf 7 _ rfl)
  obtain ⟨x8, e8, o8⟩ := typ_rng Try.underlying3 (hf 8 _ rfl)
  obtain ⟨x9, e9, o9⟩ := typ_bool1 Try.underlying4 (hf 9 _ rfl)
  obtain ⟨x10, e10, o10⟩ := typ_rng Try.underlying30 (hf 10 _ rfl)
  obtain ⟨x11, e11, o11⟩ := typ_rng Try.underlying3 (hf 11 _ rfl)
  have e : l = _ := (List.drop_zero (l := l)).symm.trans (nextc (o := 0) (s := 1) (o' := 1) (show Try.prog.cellsOf 3 = 1 by kernel_rfl) rfl e0 (nextc (o := 1) (s := 1) (o' := 2) (show Try.prog.cellsOf 38 = 1 by kernel_rfl) rfl e1 (nextc (o := 2) (s := 1) (o' := 3) (show Try.prog.cellsOf 3 = 1 by kernel_rfl) rfl e2 (nextc (o := 3) (s := 1) (o' := 4) (show Try.prog.cellsOf 3 = 1 by kernel_rfl) rfl e3 (nextc (o := 4) (s := 1) (o' := 5) (show Try.prog.cellsOf 3 = 1 by kernel_rfl) rfl e4 (nextc (o := 5) (s := 1) (o' := 6) (show Try.prog.cellsOf 4 = 1 by kernel_rfl) rfl e5 (nextc (o := 6) (s := 1) (o' := 7) (show Try.prog.cellsOf 4 = 1 by kernel_rfl) rfl e6 (nextc (o := 7) (s := 1) (o' := 8) (show Try.prog.cellsOf 4 = 1 by kernel_rfl) rfl e7 (nextc (o := 8) (s := 1) (o' := 9) (show Try.prog.cellsOf 3 = 1 by kernel_rfl) rfl e8 (nextc (o := 9) (s := 1) (o' := 10) (show Try.prog.cellsOf 4 = 1 by kernel_rfl) rfl e9 (nextc (o := 10) (s := 1) (o' := 11) (show Try.prog.cellsOf 30 = 1 by kernel_rfl) rfl e10 (nextc (o := 11) (s := 1) (o' := 12) (show Try.prog.cellsOf 3 = 1 by kernel_rfl) rfl e11 (List.drop_eq_nil_of_le (Nat.le_of_eq hl))))))))))))))
  exact ⟨⟨x0, x1, x2, x3, x4, x5, x6, x7, x8, x9, x10, x11⟩, e, o0, o1, o2, o3, o4, o5, o6, o7, o8, o9, o10, o11⟩
structure S123 where
  f0 : Int
  f1 : Int
  f2 : List (Int)
def S123.cs (x : S123) : List AV := .sc (.int .i64 x.f0) :: .sc (.int .i64 x.f1) :: .vsl (byts x.f2) 1 0 x.f2.length :: []
def S123.ok (x : S123) : Prop := (-9223372036854775808 ≤ x.f0 ∧ x.f0 ≤ 9223372036854775807) ∧ (-9223372036854775808 ≤ x.f1 ∧ x.f1 ≤ 9223372036854775807) ∧ (x.f2.length ≤ maxLen ∧ ∀ z4 ∈ x.f2, isByte z4)
theorem typS123_124 {n : Nat} {l : List AV} (h : Typ Try.prog n 124 l) : ∃ x : S123, l = x.cs ∧ x.ok := by
  obtain ⟨n', hl, hf⟩ := typ_struct Try.underlying124 3 (by kernel_rfl) (by kernel_rfl) h
  obtain ⟨x0, e0, o0⟩ := typ_rng Try.underlying3 (hf 0 _ rfl)
  obtain ⟨x1, e1, o1⟩ := typ_rng Try.underlying3 (hf 1 _ rfl)
  obtain ⟨x2, e2, o2⟩ := typ_bytes Try.underlying44 Try.underlying5 (by kernel_rfl) (hf 2 _ rfl)
  have e : l = _ := (List.drop_zero (l := l)).symm.trans (nextc (o := 0) (s := 1) (o' := 1) (show Try.prog.cellsOf 3 = 1 by kernel_rfl) rfl e0 (nextc (o := 1) (s := 1) (o' := 2) (show Try.prog.cellsOf 3 = 1 by kernel_rfl) rfl e1 (nextc (o := 2) (s := 1) (o' := 3) (show Try.prog.cellsOf 44 = 1 by kernel_rfl) rfl e2 (List.drop_eq_nil_of_le (Nat.le_of_eq hl)))))
  exact ⟨⟨x0, x1, x2⟩, e, o0, o1, o2⟩
structure S125 where
  f0 : Int
  f1 : Int
  f2 : Int
def S125.cs (x : S125) : List AV := .sc (.int .u32 x.f0) :: .sc (.int .i64 x.f1) :: .sc (.int .i64 x.f2) :: []
def S125.ok (x : S125) : Prop := (0 ≤ x.f0 ∧ x.f0 ≤ 4294967295) ∧ (-9223372036854775808 ≤ x.f1 ∧ x.f1 ≤ 9223372036854775807) ∧ (-9223372036854775808 ≤ x.f2 ∧ x.f2 ≤ 9223372036854775807)
theorem typS125_126 {n : Nat} {l : List AV} (h : Typ Try.prog n 126 l) : ∃ x : S125, l = x.cs ∧ x.ok := by
  obtain ⟨n', hl, hf⟩ := typ_struct Try.underlying126 3 (by kernel_rfl) (by kernel_rfl) h
  obtain ⟨x0, e0, o0⟩ := typ_rng Try.underlying38 (hf 0 _ rfl)
  obtain ⟨x1, e1, o1⟩ := typ_rng Try.underlying3 (hf 1 _ rfl)
  obtain ⟨x2, e2, o2⟩ := typ_rng Try.underlying3 (hf 2 _ rfl)
  have e : l = _ := (List.drop_zero (l := l)).symm.trans (nextc (o := 0) (s := 1) (o' := 1) (show Try.prog.cellsOf 38 = 1 by kernel_rfl) rfl e0 (nextc (o := 1) (s := 1) (o' := 2) (show Try.prog.cellsOf 3 = 1 by kernel_rfl) rfl e1 (nextc (o := 2) (s := 1) (o' := 3) (show Try.prog.cellsOf 3 = 1 by kernel_rfl) rfl e2 (List.drop_eq_nil_of_le (Nat.le_of_eq hl)))))
  exact ⟨⟨x0, x1, x2⟩, e, o0, o1, o2⟩
structure S31 where
  f0 : List (S39)
  f1 : List (S123)
  f2 : List (Int)
  f3 : Int
  f4 : List (S125)
  f5 : ByteArray
  f6 : List (ByteArray)
  f7 : Int
  f8 : Bool
  f9 : Bool
  f10 : Int
  f11 : Int
  f12 : Int
  f13 : Int
  f14 : Int
def S31.cs (x : S31) : List AV := .vsl (x.f0.flatMap fun x => x.cs) 12 0 x.f0.length :: .vsl (x.f1.flatMap fun x => x.cs) 3 0 x.f1.length :: .vsl (x.f2.flatMap fun x => [.sc (.int .i64 x)]) 1 0 x.f2.length :: .sc (.int .i64 x.f3) :: .vsl (x.f4.flatMap fun x => x.cs) 3 0 x.f4.length :: .sc (.string x.f5) :: .vsl (strs x.f6) 1 0 x.f6.length :: .sc (.int .i64 x.f7) :: .sc (.bool x.f8) :: .sc (.bool x.f9) :: .sc (.int .i64 x.f10) :: .sc (.int .i64 x.f11) :: .sc (.int .i64 x.f12) :: .sc (.int .i64 x.f13) :: .sc (.int .i64 x.f14) :: []
def S31.ok (x : S31) : Prop := (x.f0.length ≤ maxLen ∧ ∀ z4 ∈ x.f0, z4.ok) ∧ (x.f1.length ≤ maxLen ∧ ∀ z4 ∈ x.f1, z4.ok) ∧ (x.f2.length ≤ maxLen ∧ ∀ z4 ∈ x.f2, (-9223372036854775808 ≤ z4 ∧ z4 ≤ 9223372036854775807)) ∧ (-9223372036854775808 ≤ x.f3 ∧ x.f3 ≤ 9223372036854775807) ∧ (x.f4.length ≤ maxLen ∧ ∀ z4 ∈ x.f4, z4.ok) ∧ x.f5.size ≤ maxLen ∧ (x.f6.length ≤ maxLen ∧ ∀ z4 ∈ x.f6, z4.size ≤ maxLen) ∧ (-9223372036854775808 ≤ x.f7 ∧ x.f7 ≤ 9223372036854775807) ∧ True ∧ True ∧ (-9223372036854775808 ≤ x.f10 ∧ x.f10 ≤ 9223372036854775807) ∧ (-9223372036854775808 ≤ x.f11 ∧ x.f11 ≤ 9223372036854775807) ∧ (-9223372036854775808 ≤ x.f12 ∧ x.f12 ≤ 9223372036854775807) ∧ (-9223372036854775808 ≤ x.f13 ∧ x.f13 ≤ 9223372036854775807) ∧ (-9223372036854775808 ≤ x.f14 ∧ x.f14 ≤ 9223372036854775807)
theorem typS31_32 {n : Nat} {l : List AV} (h : Typ Try.prog n 32 l) : ∃ x : S31, l = x.cs ∧ x.ok := by
  obtain ⟨n', hl, hf⟩ := typ_struct Try.underlying32 15 (by kernel_rfl) (by kernel_rfl) h
  obtain ⟨x0, e0, o0⟩ := typ_rows (fun x : S39 => x.cs) (fun x => x.ok) 12 (fun x => rfl) Try.underlying25 (by kernel_rfl) rfl (fun h => typS39_40 (h)) (hf 0 _ rfl)
  obtain ⟨x1, e1, o1⟩ := typ_rows (fun x : S123 => x.cs) (fun x => x.ok) 3 (fun x => rfl) Try.underlying26 (by kernel_rfl) rfl (fun h => typS123_124 (h)) (hf 1 _ rfl)
  obtain ⟨x2, e2, o2⟩ := typ_rows (fun x : Int => [.sc (.int .i64 x)]) (fun x => (-9223372036854775808 ≤ x ∧ x ≤ 9223372036854775807)) 1 (fun x => rfl) Try.underlying27 (by kernel_rfl) rfl (fun h => typ_rng Try.underlying3 (h)) (hf 2 _ rfl)
  obtain ⟨x3, e3, o3⟩ := typ_rng Try.underlying3 (hf 3 _ rfl)
  obtain ⟨x4, e4, o4⟩ := typ_rows (fun x : S125 => x.cs) (fun x => x.ok) 3 (fun x => rfl) Try.underlying28 (by kernel_rfl) rfl (fun h => typS125_126 (h)) (hf 4 _ rfl)
  obtain ⟨x5, e5, o5⟩ := typ_string Try.underlying9 (hf 5 _ rfl)
  obtain ⟨x6, e6, o6⟩ := typ_strs Try.underlying29 Try.underlying9 (by kernel_rfl) (hf 6 _ rfl)
  obtain ⟨x7, e7, o7⟩ := typ_rng Try.underlying3 (hf 7 _ rfl)
  obtain ⟨x8, e8, o8⟩ := typ_bool1 Try.underlying4 (hf 8 _ rfl)
  obtain ⟨x9, e9, o9⟩ := typ_bool1 Try.underlying4 (hf 9 _ rfl)
  obtain ⟨x10, e10, o10⟩ := typ_rng Try.underlying30 (hf 10 _ rfl)
  obtain ⟨x11, e11, o11⟩ := typ_rng Try.underlying30 (hf 11 _ rfl)
  obtain ⟨x12, e12, o12⟩ := typ_rng Try.underlying3 (hf 12 _ rfl)
  obtain ⟨x13, e13, o13⟩ := typ_rng Try.underlying3 (hf 13 _ rfl)
  obtain ⟨x14, e14, o14⟩ := typ_rng Try.underlying3 (hf 14 _ rfl)
  have e : l = _ := (List.drop_zero (l := l)).symm.trans (nextc (o := 0) (s := 1) (o' := 1) (show Try.prog.cellsOf 25 = 1 by kernel_rfl) rfl e0 (nextc (o := 1) (s := 1) (o' := 2) (show Try.prog.cellsOf 26 = 1 by kernel_rfl) rfl e1 (nextc (o := 2) (s := 1) (o' := 3) (show Try.prog.cellsOf 27 = 1 by kernel_rfl) rfl e2 (nextc (o := 3) (s := 1) (o' := 4) (show Try.prog.cellsOf 3 = 1 by kernel_rfl) rfl e3 (nextc (o := 4) (s := 1) (o' := 5) (show Try.prog.cellsOf 28 = 1 by kernel_rfl) rfl e4 (nextc (o := 5) (s := 1) (o' := 6) (show Try.prog.cellsOf 9 = 1 by kernel_rfl) rfl e5 (nextc (o := 6) (s := 1) (o' := 7) (show Try.prog.cellsOf 29 = 1 by kernel_rfl) rfl e6 (nextc (o := 7) (s := 1) (o' := 8) (show Try.prog.cellsOf 3 = 1 by kernel_rfl) rfl e7 (nextc (o := 8) (s := 1) (o' := 9) (show Try.prog.cellsOf 4 = 1 by kernel_rfl) rfl e8 (nextc (o := 9) (s := 1) (o' := 10) (show Try.prog.cellsOf 4 = 1 by kernel_rfl) rfl e9 (nextc (o := 10) (s := 1) (o' := 11) (show Try.prog.cellsOf 30 = 1 by kernel_rfl) rfl e10 (nextc (o := 11) (s := 1) (o' := 12) (show Try.prog.cellsOf 30 = 1 by kernel_rfl) rfl e11 (nextc (o := 12) (s := 1) (o' := 13) (show Try.prog.cellsOf 3 = 1 by kernel_rfl) rfl e12 (nextc (o := 13) (s := 1) (o' := 14) (show Try.prog.cellsOf 3 = 1 by kernel_rfl) rfl e13 (nextc (o := 14) (s := 1) (o' := 15) (show Try.prog.cellsOf 3 = 1 by kernel_rfl) rfl e14 (List.drop_eq_nil_of_le (Nat.le_of_eq hl)))))))))))))))))
  exact ⟨⟨x0, x1, x2, x3, x4, x5, x6, x7, x8, x9, x10, x11, x12, x13, x14⟩, e, o0, o1, o2, o3, o4, o5, o6, o7, o8, o9, o10, o11, o12, o13, o14⟩
theorem opn32 {n : Nat} {a : AV} (h : TypA Try.prog n 32 a) : ∃ x : S31, a = .agg x.cs ∧ x.ok := by
  obtain ⟨l, rfl, g⟩ := typA_agg Try.underlying32 h
  obtain ⟨x, rfl, o⟩ := typS31_32 g
  exact ⟨x, rfl, o⟩
structure S127 where
  f0 : Int
  f1 : List (Int)
def S127.cs (x : S127) : List AV := .sc (.int .i64 x.f0) :: .vsl (byts x.f1) 1 0 x.f1.length :: []
def S127.ok (x : S127) : Prop := (-9223372036854775808 ≤ x.f0 ∧ x.f0 ≤ 9223372036854775807) ∧ (x.f1.length ≤ maxLen ∧ ∀ z4 ∈ x.f1, isByte z4)
theorem typS127_128 {n : Nat} {l : List AV} (h : Typ Try.prog n 128 l) : ∃ x : S127, l = x.cs ∧ x.ok := by
  obtain ⟨n', hl, hf⟩ := typ_struct Try.underlying128 2 (by kernel_rfl) (by kernel_rfl) h
  obtain ⟨x0, e0, o0⟩ := typ_rng Try.underlying3 (hf 0 _ rfl)
  obtain ⟨x1, e1, o1⟩ := typ_bytes Try.underlying44 Try.underlying5 (by kernel_rfl) (hf 1 _ rfl)
  have e : l = _ := (List.drop_zero (l := l)).symm.trans (nextc (o := 0) (s := 1) (o' := 1) (show Try.prog.cellsOf 3 = 1 by kernel_rfl) rfl e0 (nextc (o := 1) (s := 1) (o' := 2) (show Try.prog.cellsOf 44 = 1 by kernel_rfl) rfl e1 (List.drop_eq_nil_of_le (Nat.le_of_eq hl))))
  exact ⟨⟨x0, x1⟩, e, o0, o1⟩
structure S45 where
  f0 : Int
  f1 : Int
  f2 : Int
  f3 : Int
  f4 : Int
  f5 : Int
  f6 : Int
  f7 : Int
  f8 : Int
  f9 : Int
  f10 : Int
  f11 : Int
  f12 : Int
  f13 : List (S127)
  f14 : Int
  f15 : Bool
  f16 : List (Int)
def S45.cs (x : S45) : List AV := .sc (.int .i64 x.f0) :: .sc (.int .i64 x.f1) :: .sc (.int .i64 x.f2) :: .sc (.int .i64 x.f3) :: .sc (.int .i64 x.f4) :: .sc (.int .i64 x.f5) :: .sc (.int .i64 x.f6) :: .sc (.int .i64 x.f7) :: .sc (.int .u32 x.f8) :: .sc (.int .u64 x.f9) :: .sc (.int .u64 x.f10) :: .sc (.int .u64 x.f11) :: .sc (.int .u64 x.f12) :: .vsl (x.f13.flatMap fun x => x.cs) 2 0 x.f13.length :: .sc (.int .i64 x.f14) :: .sc (.bool x.f15) :: .vsl (byts x.f16) 1 0 x.f16.length :: []
def S45.ok (x : S45) : Prop := (-9223372036854775808 ≤ x.f0 ∧ x.f0 ≤ 9223372036854775807) ∧ (-9223372036854775808 ≤ x.f1 ∧ x.f1 ≤ 9223372036854775807) ∧ (-9223372036854775808 ≤ x.f2 ∧ x.f2 ≤ 9223372036854775807) ∧ (-9223372036854775808 ≤ x.f3 ∧ x.f3 ≤ 9223372036854775807) ∧ (-9223372036854775808 ≤ x.f4 ∧ x.f4 ≤ 9223372036854775807) ∧ (-9223372036854775808 ≤ x.f5 ∧ x.f5 ≤ 9223372036854775807) ∧ (-9223372036854775808 ≤ x.f6 ∧ x.f6 ≤ 9223372036854775807) ∧ (-9223372036854775808 ≤ x.f7 ∧ x.f7 ≤ 9223372036854775807) ∧ (0 ≤ x.f8 ∧ x.f8 ≤ 4294967295) ∧ (0 ≤ x.f9 ∧ x.f9 ≤ 18446744073709551615) ∧ (0 ≤ x.f10 ∧ x.f10 ≤ 18446744073709551615) ∧ (0 ≤ x.f11 ∧ x.f11 ≤ 18446744073709551615) ∧ (0 ≤ x.f12 ∧ x.f12 ≤ 18446744073709551615) ∧ (x.f13.length ≤ maxLen ∧ ∀ z5 ∈ x.f13, z5.ok) ∧ (-9223372036854775808 ≤ x.f14 ∧ x.f14 ≤ 9223372036854775807) ∧ True ∧ (x.f16.length ≤ maxLen ∧ ∀ z5 ∈ x.f16, isByte z5)
theorem typS45_46 {n : Nat} {l : List AV} (h : Typ Try.prog n 46 l) : ∃ x : S45, l = x.cs ∧ x.ok := by
  obtain ⟨n', hl, hf⟩ := typ_struct Try.underlying46 17 (by kernel_rfl) (by kernel_rfl) h
  obtain ⟨x0, e0, o0⟩ := typ_rng Try.underlying3 (hf 0 _ rfl)
  obtain ⟨x1, e1, o1⟩ := typ_rng Try.underlying3 (hf 1 _ rfl)
  obtain ⟨x2, e2, o2⟩ := typ_rng Try.underlying3 (hf 2 _ rfl)
  obtain ⟨x3, e3, o3⟩ := typ_rng Try.underlying3 (hf 3 _ rfl)
  obtain ⟨x4, e4, o4⟩ := typ_rng Try.underlying3 (hf 4 _ rfl)
  obtain ⟨x5, e5, o5⟩ := typ_rng Try.underlying3 (hf 5 _ rfl)
  obtain ⟨x6, e6, o6⟩ := typ_rng Try.underlying30 (hf 6 _ rfl)
  obtain ⟨x7, e7, o7⟩ := typ_rng Try.underlying30 (hf 7 _ rfl)
  obtain ⟨x8, e8, o8⟩ := typ_rng Try.underlying38 (hf 8 _ rfl)
  obtain ⟨x9, e9, o9⟩ := typ_rng Try.underlying42 (hf 9 _ rfl)
  obtain ⟨x10, e10, o10⟩ := typ_rng Try.underlying42 (hf 10 _ rfl)
  obtain ⟨x11, e11, o11⟩ := typ_rng Try.underlying42 (hf 11 _ rfl)
  obtain ⟨x12, e12, o12⟩ := typ_rng Try.underlying42 (hf 12 _ rfl)
  obtain ⟨x13, e13, o13⟩ := typ_rows (fun x : S127 => x.cs) (fun x => x.ok) 2 (fun x => rfl) Try.underlying43 (by kernel_rfl) rfl (fun h => typS127_128 (h)) (hf 13 _ rfl)
  obtain ⟨x14, e14, o14⟩ := typ_rng Try.underlying3 (hf 14 _ rfl)
  obtain ⟨x15, e15, o15⟩ := typ_bool1 Try.underlying4 (hf 15 _ rfl)
  obtain ⟨x16, e16, o16⟩ := typ_bytes Try.underlying44 Try.underlying5 (by kernel_rfl) (hf 16 _ rfl)
  have e : l = _ := (List.drop_zero (l := l)).symm.trans (nextc (o := 0) (s := 1) (o' := 1) (show Try.prog.cellsOf 3 = 1 by kernel_rfl) rfl e0 (nextc (o := 1) (s := 1) (o' := 2) (show Try.prog.cellsOf 3 = 1 by kernel_rfl) rfl e1 (nextc (o := 2) (s := 1) (o' := 3) (show Try.prog.cellsOf 3 = 1 by kernel_rfl) rfl e2 (nextc (o := 3) (s := 1) (o' := 4) (show Try.prog.cellsOf 3 = 1 by kernel_rfl) rfl e3 (nextc (o := 4) (s := 1) (o' := 5) (show Try.prog.cellsOf 3 = 1 by kernel_rfl) rfl e4 (nextc (o := 5) (s := 1) (o' := 6) (show Try.prog.cellsOf 3 = 1 by kernel_rfl) rfl e5 (nextc (o := 6) (s := 1) (o' := 7) (show Try.prog.cellsOf 30 = 1 by kernel_rfl) rfl e6 (nextc (o := 7) (s := 1) (o' := 8) (show Try.prog.cellsOf 30 = 1 by kernel_rfl) rfl e7 (nextc (o := 8) (s := 1) (o' := 9) (show Try.prog.cellsOf 38 = 1 by kernel_rfl) rfl e8 (nextc (o := 9) (s := 1) (o' := 10) (show Try.prog.cellsOf 42 = 1 by kernel_rfl) rfl e9 (nextc (o := 10) (s := 1) (o' := 11) (show Try.prog.cellsOf 42 = 1 by kernel_rfl) rfl e10 (nextc (o := 11) (s := 1) (o' := 12) (show Try.prog.cellsOf 42 = 1 by kernel_rfl) rfl e11 (nextc (o := 12) (s := 1) (o' := 13) (show Try.prog.cellsOf 42 = 1 by kernel_rfl) rfl e12 (nextc (o := 13) (s := 1) (o' := 14) (show Try.prog.cellsOf 43 = 1 by kernel_rfl) rfl e13 (nextc (o := 14) (s := 1) (o' := 15) (show Try.prog.cellsOf 3 = 1 by kernel_rfl) rfl e14 (nextc (o := 15) (s := 1) (o' := 16) (show Try.prog.cellsOf 4 = 1 by kernel_rfl) rfl e15 (nextc (o := 16) (s := 1) (o' := 17) (show Try.prog.cellsOf 44 = 1 by kernel_rfl) rfl e16 (List.drop_eq_nil_of_le (Nat.le_of_eq hl)))))))))))))))))))
  exact ⟨⟨x0, x1, x2, x3, x4, x5, x6, x7, x8, x9, x10, x11, x12, x13, x14, x15, x16⟩, e, o0, o1, o2, o3, o4, o5, o6, o7, o8, o9, o10, o11, o12, o13, o14, o15, o16⟩
structure S47 where
  f0 : Int
  f1 : S39
  f2 : Int
  f3 : Int
  f4 : S45
  f5 : Int
  f6 : Int
  f7 : Int
  f8 : Bool
  f9 : Int
def S47.cs (x : S47) : List AV := .sc (.int .i64 x.f0) :: x.f1.cs ++ (.sc (.int .i64 x.f2) :: .sc (.int .i64 x.f3) :: x.f4.cs ++ (.sc (.int .u32 x.f5) :: .sc (.int .u32 x.f6) :: .sc (.int .i64 x.f7) :: .sc (.bool x.f8) :: .sc (.int .i64 x.f9) :: []))
def S47.ok (x : S47) : Prop := (-9223372036854775808 ≤ x.f0 ∧ x.f0 ≤ 9223372036854775807) ∧ x.f1.ok ∧ (-9223372036854775808 ≤ x.f2 ∧ x.f2 ≤ 9223372036854775807) ∧ (-9223372036854775808 ≤ x.f3 ∧ x.f3 ≤ 9223372036854775807) ∧ x.f4.ok ∧ (0 ≤ x.f5 ∧ x.f5 ≤ 4294967295) ∧ (0 ≤ x.f6 ∧ x.f6 ≤ 4294967295) ∧ (-9223372036854775808 ≤ x.f7 ∧ x.f7 ≤ 9223372036854775807) ∧ True ∧ (-9223372036854775808 ≤ x.f9 ∧ x.f9 ≤ 9223372036854775807)
theorem typS47_48 {n : Nat} {l : List AV} (h : Typ Try.prog n 48 l) : ∃ x : S47, l = x.cs ∧ x.ok := by
  obtain ⟨n', hl, hf⟩ := typ_struct Try.underlying48 37 (by kernel_rfl) (by kernel_rfl) h
  obtain ⟨x0, e0, o0⟩ := typ_rng Try.underlying3 (hf 0 _ rfl)
  obtain ⟨x1, e1, o1⟩ := typS39_40 (hf 1 _ rfl)
  obtain ⟨x2, e2, o2⟩ := typ_rng Try.underlying3 (hf 2 _ rfl)
  obtain ⟨x3, e3, o3⟩ := typ_rng Try.underlying3 (hf 3 _ rfl)
  obtain ⟨x4, e4, o4⟩ := typS45_46 (hf 4 _ rfl)
  obtain ⟨x5, e5, o5⟩ := typ_rng Try.underlying38 (hf 5 _ rfl)
  obtain ⟨x6, e6, o6⟩ := typ_rng Try.underlying38 (hf 6 _ rfl)
  obtain ⟨x7, e7, o7⟩ := typ_rng Try.underlying3 (hf 7 _ rfl)
  obtain ⟨x8, e8, o8⟩ := typ_bool1 Try.underlying4 (hf 8 _ rfl)
  obtain ⟨x9, e9, o9⟩ := typ_rng Try.underlying3 (hf 9 _ rfl)
  have e : l = _ := (List.drop_zero (l := l)).symm.trans (nextc (o := 0) (s := 1) (o' := 1) (show Try.prog.cellsOf 3 = 1 by kernel_rfl) rfl e0 (nextc (o := 1) (s := 12) (o' := 13) (show Try.prog.cellsOf 40 = 12 by kernel_rfl) rfl e1 (nextc (o := 13) (s := 1) (o' := 14) (show Try.prog.cellsOf 3 = 1 by kernel_rfl) rfl e2 (nextc (o := 14) (s := 1) (o' := 15) (show Try.prog.cellsOf 3 = 1 by kernel_rfl) rfl e3 (nextc (o := 15) (s := 17) (o' := 32) (show Try.prog.cellsOf 46 = 17 by kernel_rfl) rfl e4 (nextc (o := 32) (s := 1) (o' := 33) (show Try.prog.cellsOf 38 = 1 by kernel_rfl) rfl e5 (nextc (o := 33) (s := 1) (o' := 34) (show Try.prog.cellsOf 38 = 1 by kernel_rfl) rfl e6 (nextc (o := 34) (s := 1) (o' := 35) (show Try.prog.cellsOf 3 = 1 by kernel_rfl) rfl e7 (nextc (o := 35) (s := 1) (o' := 36) (show Try.prog.cellsOf 4 = 1 by kernel_rfl) rfl e8 (nextc (o := 36) (s := 1) (o' := 37) (show Try.prog.cellsOf 3 = 1 by kernel_rfl) rfl e9 (List.drop_eq_nil_of_le (Nat.le_of_eq hl))))))))))))
  exact ⟨⟨x0, x1, x2, x3, x4, x5, x6, x7, x8, x9⟩, e, o0, o1, o2, o3, o4, o5, o6, o7, o8, o9⟩
theorem opn33 {n : Nat} {a : AV} (h : TypA Try.prog n 33 a) : ∃ x : List (S47), a = .vsl (x.flatMap fun x => x.cs) 37 0 x.length ∧ (x.length ≤ maxLen ∧ ∀ z1 ∈ x, z1.ok) := by
  obtain ⟨x, e, o⟩ := typ_rows (fun x : S47 => x.cs) (fun x => x.ok) 37 (fun x => rfl) Try.underlying33 (by kernel_rfl) rfl (fun h => typS47_48 (h)) (typA_of Try.underlying33 trivial h)
  exact ⟨x, (List.cons.inj e).1, o⟩
theorem opn46 {n : Nat} {a : AV} (h : TypA Try.prog n 46 a) : ∃ x : S45, a = .agg x.cs ∧ x.ok := by
  obtain ⟨l, rfl, g⟩ := typA_agg Try.underlying46 h
  obtain ⟨x, rfl, o⟩ := typS45_46 g
  exact ⟨x, rfl, o⟩
end Go.Proofs.Ytcidoghpacihpaa.Sx
namespace Go.Proofs.Ytcidoghpacihpaa.Sx
open Go Go.RowKit
attribute [local irreducible] IW AOps AQuiet GQ GY AExec QY Yld ACalls ACallsD
attribute [local irreducible] tvs tcs
def grp (a : Int) : Bool := (a.fdiv 268435456 == 14) || (a == 4294967295)
theorem group_spec (a : Int) : ACalls Try.prog 30 [.sc (.int .u32 a)] ⟨0, []⟩ (fun r _ => r = .sc (.bool (grp a))) := by
  refine enter1 Try.func30 rfl 10 0 [.tmp 2] rfl rfl rfl ?_
  repeat' (first | (refine aops_nil ?_) | (show AOps _ _ _ _ _ _; first | (show AOps _ _ _ _ (⟨some _, .move _, _, _, _, none⟩ :: _) _; first | (refine o_y (v_move (v := .sc _) rfl) rfl ?_)) | (show AOps _ _ _ _ (⟨some _, .assign _, _, _, _, none⟩ :: _) _; first | (refine o_y (v_assign (v := .sc _) rfl) rfl ?_)) | (show AOps _ _ _ _ (⟨some _, .binOp .shr _ _ _ _, _, _, _, none⟩ :: _) _; first | (refine o_y (y_shr rfl rfl (by omega)) rfl ?_)) | (show AOps _ _ _ _ (⟨some _, .binOp _ _ _ _ _, _, _, _, none⟩ :: _) _; first | (refine o_y (y_bin rfl rfl rfl) rfl ?_)) | (show AOps _ _ _ _ (⟨some _, .pick _ _ _, _, _, _, none⟩ :: _) _; first | (refine o_y (v_pick_t (v := .sc _) rfl (by first | rfl | assumption | exact beq_self_eq_true _ | exact decide_eq_true rfl) rfl) rfl ?_) | (refine o_y (v_pick_f (v := .sc _) rfl (by first | rfl | assumption) rfl) rfl ?_)) | (show AOps _ _ _ _ (⟨_, _, _, _, _, some (_, _)⟩ :: _) _; first | (refine o_g_t rfl rfl rfl (by first | rfl | assumption | exact beq_self_eq_true _ | exact decide_eq_true rfl) ?_) | (refine o_g_f rfl rfl rfl (by first | rfl | assumption) ?_) | (refine o_un rfl rfl rfl (fun h hp => ?_) (fun h hp => ?_)))) | (show IW _ _ _ _ _; first | (refine awp_seq ?_) | (refine awp_region ?_) | (refine awp_ret ?_)))
  all_goals
    rw [show (2 : Int) ^ min (Int.toNat 28) IntKind.u32.bits = 268435456 from rfl] at hp
    exact ret1 [] (by decide) rfl (congrArg (fun b => AV.sc (.bool b)) (by simp [grp, hp]))
def kindOf (T : Tb) (id : Int) : Int := match get T id with | some e => e.a.kind | none => 0
theorem find1_cases (T : Tb) (a : Int) : find1 T a = 0 ∨ ∃ (i : Nat) (e : Ro), i < 16 ∧ T i = some e ∧ find1 T a = i + 1 ∧ clk e.a = false ∧ e.a.addr = a ∧ get T (find1 T a) = some e := by
  unfold find1
  rcases fst_cases (hasP T (findP a)) 16 with ⟨h, _⟩ | ⟨i, h1, h2, h3, _⟩
  · exact .inl (by rw [h]; rfl)
  · rw [h1]
    unfold hasP at h3
    split at h3
    · exact absurd h3 (by simp)
    · rename_i e he
      simp [findP] at h3
      refine .inr ⟨i, e, h2, he, rfl, h3.1, h3.2, ?_⟩
      unfold get
      rw [if_pos (by omega), show ((i : Int) + 1 - 1).toNat = i by omega, he]
def fb (f k : Int) : Int := IntKind.i64.wrap ↑(BitVec.ofInt IntKind.i64.bits f &&& BitVec.ofInt IntKind.i64.bits k).toNat
def fndS (T : Tb) : Int := fst (hasP T fun e => srch e.a) 16
def nob (a : Int) : Bool := (a == 0) || grp a
def clo (T : Tb) (flags : Int) (auth : Bool) : Bool := (fb flags 8 != 0) || ((fb flags 16 != 0) && !auth) || decide (free T < 0)
def b9 (act frm to flags : Int) : Bool := act == 1 && fb flags 1 == 0 && !nob frm && !grp to
def b11 (mlt : Bool) (act frm flags : Int) : Bool := act == 1 && fb flags 1 == 0 && !nob frm && mlt
def b14 (act frm : Int) : Bool := act == 3 && !nob frm
def b16 (lis : Bool) (act : Int) : Bool := act == 4 && lis
def routeA (T : Tb) (lis mlt : Bool) (act id frm to flags : Int) (auth : Bool) : Int × Int :=
  if act = 2 then (2, id)
  else if b9 act frm to flags = true then (1, 0)
  else if b11 mlt act frm flags = true then (6, 0)
  else if clo T flags auth = true then (0, 0)
  else if b14 act frm = true then (3, 0)
  else if b16 lis act = true then (4, 0)
  else if act = 5 then (if 0 ≤ fndS T then (5, fndS T + 1) else (0, 0))
  else (0, 0)
def routeV (T : Tb) (lis mlt : Bool) (mode frm to flags : Int) (auth : Bool) : Int × Int := routeA T lis mlt (disp (kindOf T (find1 T frm)) mode) (find1 T frm) frm to flags auth
def rV (x : Int × Int) : AV := .tup [.sc (.int .i64 x.1), .sc (.int .i64 x.2)]
section
variable {P : Program} {N : Sg} {Q Q' : Exit → St → Prop} {σ : St}
def At (e : List (Nat × AV)) (S : Hp) (σ : St) : Prop := SubEnv e σ ∧ σ.dfs = [] ∧ HpEq σ.hp S
/-- Behind a part only what is told stays known. -/
theorem awp_thenA {x y : Code} (e : List (Nat × AV)) (S : Hp) (h1 : AWP P N x (thenQ (At e S) Q) σ) (h2 : AWP P N y Q ⟨e, [], S⟩) : AWP P N x (thenQ (AWP P N y Q) Q) σ :=
  h1.imp fun e' σ' h => by
    cases e' <;> first
      | exact h
      | exact iw_atA h2 h.2.1 h.1 h.2.2
theorem awp_cutA {x y : Code} (e : List (Nat × AV)) (S : Hp) (h1 : AWP P N x (thenQ (At e S) Q) σ) (h2 : AWP P N y Q ⟨e, [], S⟩) : AWP P N (.seq x y) Q σ := awp_seq (awp_thenA e S h1 h2)
end
theorem route_spec (T : Tb) (hT : ok T) (c : S31) (p : S45) (frm to flags : Int) (auth : Bool) : ACalls Try.prog 16 [.vptr (tvs T) 0, .agg c.cs, .agg p.cs, .sc (.int .u32 frm), .sc (.int .u32 to), .sc (.int .i64 flags), .sc (.bool auth)] ⟨0, []⟩ (fun r _ => r = rV (routeV T c.f8 c.f9 p.f2 frm to flags auth)) := by
  have sf := find_spec T hT frm
  have hi := index_spec T
  have hx : ACalls Try.prog 31 [.vsl (tvs T) 1 0 16, .fn 32 []] ⟨0, []⟩ (fun r _ => r = .sc (.int .i64 (fndS T))) := indexFunc_spec T 32 [] (fun _ => rfl) (hasP T fun e => srch e.a) (fun j hj => search1_spec T j)
  have sd := dispatch_spec (kindOf T (find1 T frm)) p.f2
  have hk : ∀ kind id, kindOf T (find1 T frm) = kind → find1 T frm = id → routeV T c.f8 c.f9 p.f2 frm to flags auth = routeA T c.f8 c.f9 (disp kind p.f2) id frm to flags auth := fun kind id h1 h2 => by
    unfold routeV
    rw [h1, h2]
  have hc := find1_cases T frm
  have hfb : -1 ≤ fndS T ∧ fndS T ≤ 15 := by
    unfold fndS
    rcases fst_cases (hasP T fun e => srch e.a) 16 with ⟨h, _⟩ | ⟨i, h1, h2, _⟩
    · omega
    · omega
  have hg := get_spec T (find1 T frm)
  generalize hkind : kindOf T (find1 T frm) = kind at sd
  have hk := hk kind _ hkind rfl
  unfold kindOf at hkind
  unfold gV at hg
  generalize hid : find1 T frm = id at sf hk hc hg hkind
  refine enter7 Try.func16 rfl 130 0 [.tmp 14, .tmp 15] rfl rfl rfl ?_
  repeat' (first | (refine aops_nil ?_) | (show AOps _ _ _ _ _ _; first | (show AOps _ _ _ _ (⟨some _, .move _, _, _, _, none⟩ :: _) _; first | (refine o_y (v_move (v := .sc _) rfl) rfl ?_) | (refine o_y (v_move (v := .vptr _ _) rfl) rfl ?_)) | (show AOps _ _ _ _ (⟨some _, .assign _, _, _, _, none⟩ :: _) _; first | (refine o_y (v_assign (v := .sc _) rfl) rfl ?_)) | (show AOps _ _ _ _ (⟨some _, .call ⟨.value (.func 29), _, _⟩, _, _, _, none⟩ :: _) _; first | (refine o_q (q_call (sf)) rfl ?_)) | (show AOps _ _ _ _ (⟨_, .box _ _, _, _, _, none⟩ :: _) _; first | (refine o_x (b_agg rfl rfl rfl ?_)))) | (show IW _ _ [.code (.seq _ _)] _ _; first | (show AWP _ _ (.seq (.seq _ _) _) _ _; refine awp_seq ?_) | (show AWP _ _ (.seq (.region 0 _ _) _) _ _; refine awp_seq ?_) | (show AWP _ _ (.seq (.region 1 _ _) _) _ _; refine awp_seq ?_)) | (show IW _ _ _ _ _; first | (refine awp_region ?_)))
  refine awp_thenA [(0, .vptr (tvs T) 0), (3, .sc (.int .u32 frm)), (4, .sc (.int .u32 to)), (5, .sc (.int .i64 flags)), (6, .sc (.bool auth)), (8, .ptr 0 0), (9, .ptr 1 0), (14, .sc (.int .i64 0)), (15, .sc (.int .i64 0)), (16, .sc (.int .i64 id)), (17, .sc (.int .i64 kind))] ⟨2, [(1, some ⟨p.cs, p.cs.length, 46⟩), (0, some ⟨c.cs, c.cs.length, 32⟩)]⟩ ?_ ?_
  · rcases hc with h0 | ⟨i, e, h1, h2, h3, h4, h5, h6⟩
    · subst h0
      have : kind = 0 := by subst hkind; rfl
      subst this
      repeat' (first | (refine aops_nil ?_) | (show AOps _ _ _ _ _ _; first | (show AOps _ _ _ _ (⟨some _, .move _, _, _, _, none⟩ :: _) _; first | (refine o_y (v_move (v := .sc _) rfl) rfl ?_)) | (show AOps _ _ _ _ (⟨some _, .binOp .add _ _ _ _, _, _, _, none⟩ :: _) _; first | (refine o_y (y_bin rfl rfl rfl) rfl ?_)) | (show AOps _ _ _ _ (⟨some _, .binOp .and _ _ _ _, _, _, _, none⟩ :: _) _; first | (refine o_y (y_bin rfl rfl rfl) rfl ?_)) | (show AOps _ _ _ _ (⟨some _, .binOp _ _ _ _ _, _, _, _, none⟩ :: _) _; first | (refine o_y (y_bin rfl rfl rfl) rfl ?_))) | (show IW _ _ [.code (.seq _ _)] _ _; first | (show AWP _ _ (.seq (.region 2 _ _) _) _ _; refine awp_seq ?_)) | (show IW _ _ _ _ _; first | (refine awp_region ?_) | (refine awp_skip ?_) | (refine awp_if_f rfl (by first | rfl | assumption) ?_)) | (show thenQ _ _ _ _; first | (refine k_n ?_)))
      all_goals first | (exfalso; omega) | exact ⟨⟨rfl, rfl, rfl, rfl, rfl, rfl, rfl, rfl, rfl, rfl, rfl, trivial⟩, rfl, hpEq_refl _⟩
    · rw [h6] at hg hkind
      dsimp only at hg hkind
      have hkd : kind = e.a.kind := hkind.symm
      subst hkd
      repeat' (first | (refine aops_nil ?_) | (show AOps _ _ _ _ _ _; first | (show AOps _ _ _ _ (⟨some _, .move _, _, _, _, none⟩ :: _) _; first | (refine o_y (v_move (v := .sc _) rfl) rfl ?_) | (refine o_y (v_move (v := .vptr _ _) rfl) rfl ?_)) | (show AOps _ _ _ _ (⟨some _, .load _ _, _, _, _, none⟩ :: _) _; first | (refine o_y (y_vload1 (v := .sc _) rfl rfl) rfl ?_)) | (show AOps _ _ _ _ (⟨some _, .fieldAddr _ _ _, _, _, _, none⟩ :: _) _; first | (refine o_y (y_fld_vptr rfl rfl) rfl ?_)) | (show AOps _ _ _ _ (⟨some _, .nilCheck _, _, _, _, none⟩ :: _) _; first | (refine o_y (y_nil_vptr rfl) rfl ?_)) | (show AOps _ _ _ _ (⟨some _, .assign _, _, _, _, none⟩ :: _) _; first | (refine o_y (v_assign (v := .sc _) rfl) rfl ?_)) | (show AOps _ _ _ _ (⟨some _, .binOp .add _ _ _ _, _, _, _, none⟩ :: _) _; first | (refine o_y (y_bin rfl rfl rfl) rfl ?_)) | (show AOps _ _ _ _ (⟨some _, .binOp .and _ _ _ _, _, _, _, none⟩ :: _) _; first | (refine o_y (y_bin rfl rfl rfl) rfl ?_)) | (show AOps _ _ _ _ (⟨some _, .binOp _ _ _ _ _, _, _, _, none⟩ :: _) _; first | (refine o_y (y_bin rfl rfl rfl) rfl ?_)) | (show AOps _ _ _ _ (⟨some _, .call ⟨.value (.func 24), _, _⟩, _, _, _, none⟩ :: _) _; refine o_gg (g_call (hg) rfl) rfl ?_)) | (show IW _ _ [.code (.seq _ _)] _ _; first | (show AWP _ _ (.seq (.region 2 _ _) _) _ _; refine awp_seq ?_)) | (show IW _ _ _ _ _; first | (refine awp_region ?_) | (refine awp_skip ?_) | (refine awp_if rfl (fun h hp => ?_) (fun h hp => ?_))) | (show thenQ _ _ _ _; first | (refine k_n ?_)))
      all_goals first | (exfalso; omega) | exact ⟨⟨rfl, rfl, rfl, rfl, rfl, rfl, rfl, rfl, rfl, rfl, rfl, trivial⟩, rfl, hpEq_refl _⟩
  repeat' (fail)
  refine awp_cutA [(0, .vptr (tvs T) 0), (3, .sc (.int .u32 frm)), (4, .sc (.int .u32 to)), (5, .sc (.int .i64 flags)), (6, .sc (.bool auth)), (8, .ptr 0 0), (9, .ptr 1 0), (14, .sc (.int .i64 0)), (15, .sc (.int .i64 0)), (16, .sc (.int .i64 id)), (17, .sc (.int .i64 kind)), (18, .sc (.bool (nob frm)))] ⟨2, [(1, some ⟨p.cs, p.cs.length, 46⟩), (0, some ⟨c.cs, c.cs.length, 32⟩)]⟩ ?_ ?_
  · repeat' (first | (refine aops_nil ?_) | (show AOps _ _ _ _ _ _; first | (show AOps _ _ _ _ (⟨some _, .move _, _, _, _, none⟩ :: _) _; first | (refine o_y (v_move (v := .sc _) rfl) rfl ?_)) | (show AOps _ _ _ _ (⟨some _, .assign _, _, _, _, none⟩ :: _) _; first | (refine o_y (v_assign (v := .sc _) rfl) rfl ?_)) | (show AOps _ _ _ _ (⟨some _, .binOp _ _ _ _ _, _, _, _, none⟩ :: _) _; first | (refine o_y (y_bin rfl rfl rfl) rfl ?_)) | (show AOps _ _ _ _ (⟨some _, .pick _ _ _, _, _, _, none⟩ :: _) _; first | (refine o_y (v_pick_t (v := .sc _) rfl (by first | rfl | assumption | exact beq_self_eq_true _ | exact decide_eq_true rfl) rfl) rfl ?_) | (refine o_y (v_pick_f (v := .sc _) rfl (by first | rfl | assumption) rfl) rfl ?_)) | (show AOps _ _ _ _ (⟨some _, .call ⟨.value (.func 30), _, _⟩, _, _, _, none⟩ :: _) _; first | (refine o_q (q_call (group_spec _)) rfl ?_)) | (show AOps _ _ _ _ (⟨_, _, _, _, _, some (_, _)⟩ :: _) _; first | (refine o_g_t rfl rfl rfl (by first | rfl | assumption | exact beq_self_eq_true _ | exact decide_eq_true rfl) ?_) | (refine o_g_f rfl rfl rfl (by first | rfl | assumption) ?_) | (refine o_un rfl rfl rfl (fun h hp => ?_) (fun h hp => ?_)))) | (show IW _ _ _ _ _; first | (refine awp_region ?_)) | (show thenQ _ _ _ _; first | (refine k_n ?_)))
    all_goals first | (exfalso; omega) | exact ⟨⟨rfl, rfl, rfl, rfl, rfl, rfl, rfl, rfl, rfl, rfl, rfl, congrArg (fun b => AV.sc (.bool b)) (by first | rfl | (simp [nob, *]; done)), trivial⟩, rfl, hpEq_refl _⟩
  repeat' (fail)
  refine awp_cutA [(0, .vptr (tvs T) 0), (3, .sc (.int .u32 frm)), (4, .sc (.int .u32 to)), (5, .sc (.int .i64 flags)), (6, .sc (.bool auth)), (8, .ptr 0 0), (9, .ptr 1 0), (14, .sc (.int .i64 0)), (15, .sc (.int .i64 0)), (16, .sc (.int .i64 id)), (17, .sc (.int .i64 kind)), (18, .sc (.bool (nob frm))), (19, .sc (.bool (clo T flags auth)))] ⟨2, [(1, some ⟨p.cs, p.cs.length, 46⟩), (0, some ⟨c.cs, c.cs.length, 32⟩)]⟩ ?_ ?_
  · repeat' (first | (refine aops_nil ?_) | (show AOps _ _ _ _ _ _; first | (show AOps _ _ _ _ (⟨some _, .move _, _, _, _, none⟩ :: _) _; first | (refine o_y (v_move (v := .sc _) rfl) rfl ?_) | (refine o_y (v_move (v := .vptr _ _) rfl) rfl ?_)) | (show AOps _ _ _ _ (⟨some _, .fieldAddr _ _ _, _, _, _, none⟩ :: _) _; first | (refine o_y (y_fld_vptr rfl rfl) rfl ?_)) | (show AOps _ _ _ _ (⟨some _, .nilCheck _, _, _, _, none⟩ :: _) _; first | (refine o_y (y_nil_vptr rfl) rfl ?_)) | (show AOps _ _ _ _ (⟨some _, .assign _, _, _, _, none⟩ :: _) _; first | (refine o_y (v_assign (v := .sc _) rfl) rfl ?_)) | (show AOps _ _ _ _ (⟨some _, .binOp .and _ _ _ _, _, _, _, none⟩ :: _) _; first | (refine o_y (y_bin rfl rfl rfl) rfl ?_)) | (show AOps _ _ _ _ (⟨some _, .binOp _ _ _ _ _, _, _, _, none⟩ :: _) _; first | (refine o_y (y_bin rfl rfl rfl) rfl ?_)) | (show AOps _ _ _ _ (⟨some _, .pick _ _ _, _, _, _, none⟩ :: _) _; first | (refine o_y (v_pick_t (v := .sc _) rfl (by first | rfl | assumption | exact beq_self_eq_true _ | exact decide_eq_true rfl) rfl) rfl ?_) | (refine o_y (v_pick_f (v := .sc _) rfl (by first | rfl | assumption) rfl) rfl ?_)) | (show AOps _ _ _ _ (⟨some _, .unOp _ _ _, _, _, _, none⟩ :: _) _; first | (refine o_y (y_not rfl) rfl ?_)) | (show AOps _ _ _ _ (⟨some _, .slice _ _ _ _ _, _, _, _, none⟩ :: _) _; first | (refine o_y (y_sliceArrV rfl (tvs_length _) rfl) rfl ?_)) | (show AOps _ _ _ _ (⟨some _, .call ⟨.value (.func 23), _, _⟩, _, _, _, none⟩ :: _) _; first | (refine o_q (q_call (hi)) rfl ?_)) | (show AOps _ _ _ _ (⟨_, _, _, _, _, some (_, _)⟩ :: _) _; first | (refine o_off rfl rfl rfl ?_) | (refine o_g_t rfl rfl rfl (by first | rfl | assumption | exact beq_self_eq_true _ | exact decide_eq_true rfl) ?_) | (refine o_g_f rfl rfl rfl (by first | rfl | assumption) ?_) | (refine o_if rfl rfl rfl (fun h hp => ?_) (fun h hp => ?_)) | (refine o_un rfl rfl rfl (fun h hp => ?_) (fun h hp => ?_)))) | (show IW _ _ _ _ _; first | (refine awp_region ?_)) | (show thenQ _ _ _ _; first | (refine k_n ?_)))
    all_goals first | (exfalso; omega) | exact ⟨⟨rfl, rfl, rfl, rfl, rfl, rfl, rfl, rfl, rfl, rfl, rfl, rfl, congrArg (fun b => AV.sc (.bool b)) (by first | rfl | (simp only [clo, fb, *, Bool.false_or, Bool.true_or, Bool.or_false, Bool.or_true, Bool.true_and, Bool.false_and, Bool.and_true, Bool.and_false, Bool.not_true, Bool.not_false, beq_self_eq_true]; done)), trivial⟩, rfl, hpEq_refl _⟩
  repeat' (first | (refine aops_nil ?_) | (show AOps _ _ _ _ _ _; first | (show AOps _ _ _ _ (⟨some _, .move _, _, _, _, none⟩ :: _) _; first | (refine o_y (v_move (v := .sc _) rfl) rfl ?_)) | (show AOps _ _ _ _ (⟨some _, .load _ _, _, _, _, none⟩ :: _) _; first | (refine o_y (y_load1 (v := .sc _) rfl rfl rfl) rfl ?_)) | (show AOps _ _ _ _ (⟨some _, .fieldAddr _ _ _, _, _, _, none⟩ :: _) _; first | (refine o_y (y_fld_ptr rfl rfl) rfl ?_)) | (show AOps _ _ _ _ (⟨some _, .assign _, _, _, _, none⟩ :: _) _; first | (refine o_y (v_assign (v := .sc _) rfl) rfl ?_)) | (show AOps _ _ _ _ (⟨some _, .call ⟨.value (.func 8), _, _⟩, _, _, _, none⟩ :: _) _; first | (refine o_q (q_call (sd)) rfl ?_))) | (show IW _ _ [.code (.seq _ _)] _ _; first | (show AWP _ _ (.seq (.block _ _) _) _ _; refine awp_seq ?_) | (show AWP _ _ (.seq (.region 6 _ _) _) _ _; refine awp_seq ?_)) | (show IW _ _ _ _ _; first | (refine awp_region ?_) | (refine awp_block ?_)))
  generalize disp kind p.f2 = act at hk
  by_cases ha2 : act = 2
  · subst ha2
    repeat' (first | (refine aops_nil ?_) | (show AOps _ _ _ _ _ _; first | (show AOps _ _ _ _ (⟨some _, .move _, _, _, _, none⟩ :: _) _; first | (refine o_y (v_move (v := .sc _) rfl) rfl ?_)) | (show AOps _ _ _ _ (⟨some _, .assign _, _, _, _, none⟩ :: _) _; first | (refine o_y (v_assign (v := .sc _) rfl) rfl ?_)) | (show AOps _ _ _ _ (⟨some _, .binOp .add _ _ _ _, _, _, _, none⟩ :: _) _; first | (refine o_y (y_bin rfl rfl rfl) rfl ?_)) | (show AOps _ _ _ _ (⟨some _, .binOp .and _ _ _ _, _, _, _, none⟩ :: _) _; first | (refine o_y (y_bin rfl rfl rfl) rfl ?_)) | (show AOps _ _ _ _ (⟨some _, .binOp _ _ _ _ _, _, _, _, none⟩ :: _) _; first | (refine o_y (y_bin rfl rfl rfl) rfl ?_))) | (show IW _ _ _ _ _; first | (refine awp_seq ?_) | (refine awp_region ?_) | (refine awp_ret ?_) | (refine awp_if_t rfl (by first | rfl | assumption | exact beq_self_eq_true _ | exact decide_eq_true rfl) ?_)) | (show thenQ _ _ _ _; first | (refine k_r ?_)) | (show blockQ _ _ _ _; first | (refine b_r ?_)))
    all_goals first | (exfalso; omega) | exact ret2 [] (by decide) rfl (by rw [hk, show routeA _ _ _ _ _ _ _ _ _ = (2, id) by simp only [routeA, *, if_true, if_false, Bool.false_eq_true]]; rfl)
  repeat' (first | (refine aops_nil ?_) | (show AOps _ _ _ _ _ _; first | (show AOps _ _ _ _ (⟨some _, .move _, _, _, _, none⟩ :: _) _; first | (refine o_y (v_move (v := .sc _) rfl) rfl ?_)) | (show AOps _ _ _ _ (⟨some _, .assign _, _, _, _, none⟩ :: _) _; first | (refine o_y (v_assign (v := .sc _) rfl) rfl ?_)) | (show AOps _ _ _ _ (⟨some _, .binOp .add _ _ _ _, _, _, _, none⟩ :: _) _; first | (refine o_y (y_bin rfl rfl rfl) rfl ?_)) | (show AOps _ _ _ _ (⟨some _, .binOp .and _ _ _ _, _, _, _, none⟩ :: _) _; first | (refine o_y (y_bin rfl rfl rfl) rfl ?_)) | (show AOps _ _ _ _ (⟨some _, .binOp _ _ _ _ _, _, _, _, none⟩ :: _) _; first | (refine o_y (y_bin rfl rfl rfl) rfl ?_))) | (show IW _ _ [.code (.seq _ _)] _ _; first | (show AWP _ _ (.seq (.region 7 _ _) _) _ _; refine awp_seq ?_) | (show AWP _ _ (.seq (.region 8 _ _) _) _ _; refine awp_seq ?_)) | (show IW _ _ _ _ _; first | (refine awp_region ?_) | (refine awp_ret ?_) | (refine awp_if rfl (fun h hp => ?_) (fun h hp => ?_))) | (show thenQ _ _ _ _; first | (refine k_r ?_)) | (show blockQ _ _ _ _; first | (refine b_r ?_)))
  all_goals try (exfalso; omega)
  refine awp_cutA [(0, .vptr (tvs T) 0), (3, .sc (.int .u32 frm)), (4, .sc (.int .u32 to)), (5, .sc (.int .i64 flags)), (6, .sc (.bool auth)), (8, .ptr 0 0), (9, .ptr 1 0), (14, .sc (.int .i64 0)), (15, .sc (.int .i64 0)), (16, .sc (.int .i64 id)), (18, .sc (.bool (nob frm))), (19, .sc (.bool (clo T flags auth))), (20, .sc (.int .i64 act)), (69, .sc (.bool (b9 act frm to flags)))] ⟨2, [(1, some ⟨p.cs, p.cs.length, 46⟩), (0, some ⟨c.cs, c.cs.length, 32⟩)]⟩ ?_ ?_
  · repeat' (first | (refine aops_nil ?_) | (show AOps _ _ _ _ _ _; first | (show AOps _ _ _ _ (⟨some _, .move _, _, _, _, none⟩ :: _) _; first | (refine o_y (v_move (v := .sc _) rfl) rfl ?_)) | (show AOps _ _ _ _ (⟨some _, .assign _, _, _, _, none⟩ :: _) _; first | (refine o_y (v_assign (v := .sc _) rfl) rfl ?_)) | (show AOps _ _ _ _ (⟨some _, .binOp .and _ _ _ _, _, _, _, none⟩ :: _) _; first | (refine o_y (y_bin rfl rfl rfl) rfl ?_)) | (show AOps _ _ _ _ (⟨some _, .binOp _ _ _ _ _, _, _, _, none⟩ :: _) _; first | (refine o_y (y_bin rfl rfl rfl) rfl ?_)) | (show AOps _ _ _ _ (⟨some _, .pick _ _ _, _, _, _, none⟩ :: _) _; first | (refine o_y (v_pick_t (v := .sc _) rfl (by first | rfl | assumption | exact beq_self_eq_true _ | exact decide_eq_true rfl) rfl) rfl ?_) | (refine o_y (v_pick_f (v := .sc _) rfl (by first | rfl | assumption) rfl) rfl ?_)) | (show AOps _ _ _ _ (⟨some _, .unOp _ _ _, _, _, _, none⟩ :: _) _; first | (refine o_y (y_not rfl) rfl ?_)) | (show AOps _ _ _ _ (⟨some _, .call ⟨.value (.func 30), _, _⟩, _, _, _, none⟩ :: _) _; first | (refine o_q (q_call (group_spec _)) rfl ?_)) | (show AOps _ _ _ _ (⟨_, _, _, _, _, some (_, _)⟩ :: _) _; first | (refine o_g_t rfl rfl rfl (by first | rfl | assumption | exact beq_self_eq_true _ | exact decide_eq_true rfl) ?_) | (refine o_g_f rfl rfl rfl (by first | rfl | assumption) ?_) | (refine o_if rfl rfl rfl (fun h hp => ?_) (fun h hp => ?_)))) | (show IW _ _ _ _ _; first | (refine awp_region ?_)) | (show thenQ _ _ _ _; first | (refine k_n ?_)))
    all_goals first | (exfalso; omega) | exact ⟨⟨rfl, rfl, rfl, rfl, rfl, rfl, rfl, rfl, rfl, rfl, rfl, rfl, rfl, congrArg (fun b => AV.sc (.bool b)) (by first | rfl | (simp only [b9, fb, *, Bool.false_or, Bool.true_or, Bool.or_false, Bool.or_true, Bool.true_and, Bool.false_and, Bool.and_true, Bool.and_false, Bool.not_true, Bool.not_false, beq_self_eq_true]; done)), trivial⟩, rfl, hpEq_refl _⟩
  by_cases h9 : b9 act frm to flags = true
  · rw [h9]
    repeat' (first | (refine aops_nil ?_) | (show AOps _ _ _ _ _ _; first | (show AOps _ _ _ _ (⟨some _, .assign _, _, _, _, none⟩ :: _) _; first | (refine o_y (v_assign (v := .sc _) rfl) rfl ?_))) | (show IW _ _ _ _ _; first | (refine awp_seq ?_) | (refine awp_region ?_) | (refine awp_ret ?_) | (refine awp_if_t rfl (by first | rfl | assumption | exact beq_self_eq_true _ | exact decide_eq_true rfl) ?_)) | (show thenQ _ _ _ _; first | (refine k_r ?_)) | (show blockQ _ _ _ _; first | (refine b_r ?_)))
    all_goals first | (exfalso; omega) | exact ret2 [] (by decide) rfl (by rw [hk, show routeA _ _ _ _ _ _ _ _ _ = (1, 0) by simp only [routeA, *, if_true, if_false, Bool.false_eq_true]]; rfl)
  rw [Bool.not_eq_true _ |>.mp h9]
  repeat' (first | (show IW _ _ _ _ _; first | (refine awp_if_f rfl (by first | rfl | assumption) ?_)))
  all_goals try (exfalso; omega)
  refine awp_cutA [(0, .vptr (tvs T) 0), (3, .sc (.int .u32 frm)), (4, .sc (.int .u32 to)), (5, .sc (.int .i64 flags)), (6, .sc (.bool auth)), (8, .ptr 0 0), (9, .ptr 1 0), (14, .sc (.int .i64 0)), (15, .sc (.int .i64 0)), (16, .sc (.int .i64 id)), (18, .sc (.bool (nob frm))), (19, .sc (.bool (clo T flags auth))), (20, .sc (.int .i64 act)), (86, .sc (.bool (b11 c.f9 act frm flags)))] ⟨2, [(1, some ⟨p.cs, p.cs.length, 46⟩), (0, some ⟨c.cs, c.cs.length, 32⟩)]⟩ ?_ ?_
  · repeat' (first | (refine aops_nil ?_) | (show AOps _ _ _ _ _ _; first | (show AOps _ _ _ _ (⟨some _, .move _, _, _, _, none⟩ :: _) _; first | (refine o_y (v_move (v := .sc _) rfl) rfl ?_)) | (show AOps _ _ _ _ (⟨some _, .load _ _, _, _, _, none⟩ :: _) _; first | (refine o_y (y_load1 (v := .sc _) rfl rfl rfl) rfl ?_)) | (show AOps _ _ _ _ (⟨some _, .fieldAddr _ _ _, _, _, _, none⟩ :: _) _; first | (refine o_y (y_fld_ptr rfl rfl) rfl ?_)) | (show AOps _ _ _ _ (⟨some _, .assign _, _, _, _, none⟩ :: _) _; first | (refine o_y (v_assign (v := .sc _) rfl) rfl ?_)) | (show AOps _ _ _ _ (⟨some _, .binOp .and _ _ _ _, _, _, _, none⟩ :: _) _; first | (refine o_y (y_bin rfl rfl rfl) rfl ?_)) | (show AOps _ _ _ _ (⟨some _, .binOp _ _ _ _ _, _, _, _, none⟩ :: _) _; first | (refine o_y (y_bin rfl rfl rfl) rfl ?_)) | (show AOps _ _ _ _ (⟨some _, .pick _ _ _, _, _, _, none⟩ :: _) _; first | (refine o_y (v_pick_t (v := .sc _) rfl (by first | rfl | assumption | exact beq_self_eq_true _ | exact decide_eq_true rfl) rfl) rfl ?_) | (refine o_y (v_pick_f (v := .sc _) rfl (by first | rfl | assumption) rfl) rfl ?_)) | (show AOps _ _ _ _ (⟨some _, .unOp _ _ _, _, _, _, none⟩ :: _) _; first | (refine o_y (y_not rfl) rfl ?_)) | (show AOps _ _ _ _ (⟨_, _, _, _, _, some (_, _)⟩ :: _) _; first | (refine o_g_t rfl rfl rfl (by first | rfl | assumption | exact beq_self_eq_true _ | exact decide_eq_true rfl) ?_) | (refine o_g_f rfl rfl rfl (by first | rfl | assumption) ?_) | (refine o_if rfl rfl rfl (fun h hp => ?_) (fun h hp => ?_)))) | (show IW _ _ _ _ _; first | (refine awp_region ?_)) | (show thenQ _ _ _ _; first | (refine k_n ?_)))
    all_goals first | (exfalso; omega) | exact ⟨⟨rfl, rfl, rfl, rfl, rfl, rfl, rfl, rfl, rfl, rfl, rfl, rfl, rfl, congrArg (fun b => AV.sc (.bool b)) (by first | rfl | (simp only [b11, fb, *, Bool.false_or, Bool.true_or, Bool.or_false, Bool.or_true, Bool.true_and, Bool.false_and, Bool.and_true, Bool.and_false, Bool.not_true, Bool.not_false, beq_self_eq_true]; done)), trivial⟩, rfl, hpEq_refl _⟩
  by_cases h11 : b11 c.f9 act frm flags = true
  · rw [h11]
    repeat' (first | (refine aops_nil ?_) | (show AOps _ _ _ _ _ _; first | (show AOps _ _ _ _ (⟨some _, .assign _, _, _, _, none⟩ :: _) _; first | (refine o_y (v_assign (v := .sc _) rfl) rfl ?_))) | (show IW _ _ _ _ _; first | (refine awp_seq ?_) | (refine awp_region ?_) | (refine awp_ret ?_) | (refine awp_if_t rfl (by first | rfl | assumption | exact beq_self_eq_true _ | exact decide_eq_true rfl) ?_)) | (show thenQ _ _ _ _; first | (refine k_r ?_)) | (show blockQ _ _ _ _; first | (refine b_r ?_)))
    all_goals first | (exfalso; omega) | exact ret2 [] (by decide) rfl (by rw [hk, show routeA _ _ _ _ _ _ _ _ _ = (6, 0) by simp only [routeA, *, if_true, if_false, Bool.false_eq_true]]; rfl)
  rw [Bool.not_eq_true _ |>.mp h11]
  by_cases hcl : clo T flags auth = true
  · rw [hcl]
    repeat' (first | (refine aops_nil ?_) | (show AOps _ _ _ _ _ _; first | (show AOps _ _ _ _ (⟨some _, .move _, _, _, _, none⟩ :: _) _; first | (refine o_y (v_move (v := .sc _) rfl) rfl ?_)) | (show AOps _ _ _ _ (⟨some _, .assign _, _, _, _, none⟩ :: _) _; first | (refine o_y (v_assign (v := .sc _) rfl) rfl ?_))) | (show IW _ _ _ _ _; first | (refine awp_seq ?_) | (refine awp_region ?_) | (refine awp_ret ?_) | (refine awp_skip ?_) | (refine awp_if_t rfl (by first | rfl | assumption | exact beq_self_eq_true _ | exact decide_eq_true rfl) ?_) | (refine awp_if_f rfl (by first | rfl | assumption) ?_)))
    all_goals first | (exfalso; omega) | exact ret2 [] (by decide) rfl (by rw [hk, show routeA _ _ _ _ _ _ _ _ _ = (0, 0) by simp only [routeA, *, if_true, if_false, Bool.false_eq_true]]; rfl)
  rw [Bool.not_eq_true _ |>.mp hcl]
  repeat' (first | (refine aops_nil ?_) | (show AOps _ _ _ _ _ _; first | (show AOps _ _ _ _ (⟨some _, .move _, _, _, _, none⟩ :: _) _; first | (refine o_y (v_move (v := .sc _) rfl) rfl ?_)) | (show AOps _ _ _ _ (⟨some _, .assign _, _, _, _, none⟩ :: _) _; first | (refine o_y (v_assign (v := .sc _) rfl) rfl ?_))) | (show IW _ _ [.code (.seq _ _)] _ _; first | (show AWP _ _ (.seq (.region 13 _ _) _) _ _; refine awp_seq ?_)) | (show IW _ _ _ _ _; first | (refine awp_region ?_) | (refine awp_if_f rfl (by first | rfl | assumption) ?_)))
  all_goals try (exfalso; omega)
  refine awp_cutA [(0, .vptr (tvs T) 0), (3, .sc (.int .u32 frm)), (4, .sc (.int .u32 to)), (5, .sc (.int .i64 flags)), (6, .sc (.bool auth)), (8, .ptr 0 0), (9, .ptr 1 0), (14, .sc (.int .i64 0)), (15, .sc (.int .i64 0)), (16, .sc (.int .i64 id)), (18, .sc (.bool (nob frm))), (19, .sc (.bool false)), (20, .sc (.int .i64 act)), (104, .sc (.bool (b14 act frm)))] ⟨2, [(1, some ⟨p.cs, p.cs.length, 46⟩), (0, some ⟨c.cs, c.cs.length, 32⟩)]⟩ ?_ ?_
  · repeat' (first | (refine aops_nil ?_) | (show AOps _ _ _ _ _ _; first | (show AOps _ _ _ _ (⟨some _, .move _, _, _, _, none⟩ :: _) _; first | (refine o_y (v_move (v := .sc _) rfl) rfl ?_)) | (show AOps _ _ _ _ (⟨some _, .assign _, _, _, _, none⟩ :: _) _; first | (refine o_y (v_assign (v := .sc _) rfl) rfl ?_)) | (show AOps _ _ _ _ (⟨some _, .binOp _ _ _ _ _, _, _, _, none⟩ :: _) _; first | (refine o_y (y_bin rfl rfl rfl) rfl ?_)) | (show AOps _ _ _ _ (⟨some _, .pick _ _ _, _, _, _, none⟩ :: _) _; first | (refine o_y (v_pick_t (v := .sc _) rfl (by first | rfl | assumption | exact beq_self_eq_true _ | exact decide_eq_true rfl) rfl) rfl ?_) | (refine o_y (v_pick_f (v := .sc _) rfl (by first | rfl | assumption) rfl) rfl ?_)) | (show AOps _ _ _ _ (⟨some _, .unOp _ _ _, _, _, _, none⟩ :: _) _; first | (refine o_y (y_not rfl) rfl ?_)) | (show AOps _ _ _ _ (⟨_, _, _, _, _, some (_, _)⟩ :: _) _; first | (refine o_g_t rfl rfl rfl (by first | rfl | assumption | exact beq_self_eq_true _ | exact decide_eq_true rfl) ?_) | (refine o_g_f rfl rfl rfl (by first | rfl | assumption) ?_) | (refine o_if rfl rfl rfl (fun h hp => ?_) (fun h hp => ?_)))) | (show IW _ _ _ _ _; first | (refine awp_region ?_)) | (show thenQ _ _ _ _; first | (refine k_n ?_)))
    all_goals first | (exfalso; omega) | exact ⟨⟨rfl, rfl, rfl, rfl, rfl, rfl, rfl, rfl, rfl, rfl, rfl, rfl, rfl, congrArg (fun b => AV.sc (.bool b)) (by first | rfl | (simp only [b14, *, Bool.false_or, Bool.true_or, Bool.or_false, Bool.or_true, Bool.true_and, Bool.false_and, Bool.and_true, Bool.and_false, Bool.not_true, Bool.not_false, beq_self_eq_true]; done)), trivial⟩, rfl, hpEq_refl _⟩
  by_cases h14 : b14 act frm = true
  · rw [h14]
    repeat' (first | (refine aops_nil ?_) | (show AOps _ _ _ _ _ _; first | (show AOps _ _ _ _ (⟨some _, .assign _, _, _, _, none⟩ :: _) _; first | (refine o_y (v_assign (v := .sc _) rfl) rfl ?_))) | (show IW _ _ _ _ _; first | (refine awp_seq ?_) | (refine awp_region ?_) | (refine awp_ret ?_) | (refine awp_if_t rfl (by first | rfl | assumption | exact beq_self_eq_true _ | exact decide_eq_true rfl) ?_)) | (show thenQ _ _ _ _; first | (refine k_r ?_)) | (show blockQ _ _ _ _; first | (refine b_r ?_)))
    all_goals first | (exfalso; omega) | exact ret2 [] (by decide) rfl (by rw [hk, show routeA _ _ _ _ _ _ _ _ _ = (3, 0) by simp only [routeA, *, if_true, if_false, Bool.false_eq_true]]; rfl)
  rw [Bool.not_eq_true _ |>.mp h14]
  repeat' (first | (show IW _ _ _ _ _; first | (refine awp_if_f rfl (by first | rfl | assumption) ?_)))
  all_goals try (exfalso; omega)
  refine awp_cutA [(0, .vptr (tvs T) 0), (3, .sc (.int .u32 frm)), (4, .sc (.int .u32 to)), (5, .sc (.int .i64 flags)), (6, .sc (.bool auth)), (8, .ptr 0 0), (9, .ptr 1 0), (14, .sc (.int .i64 0)), (15, .sc (.int .i64 0)), (16, .sc (.int .i64 id)), (18, .sc (.bool (nob frm))), (19, .sc (.bool false)), (20, .sc (.int .i64 act)), (111, .sc (.bool (b16 c.f8 act)))] ⟨2, [(1, some ⟨p.cs, p.cs.length, 46⟩), (0, some ⟨c.cs, c.cs.length, 32⟩)]⟩ ?_ ?_
  · repeat' (first | (refine aops_nil ?_) | (show AOps _ _ _ _ _ _; first | (show AOps _ _ _ _ (⟨some _, .move _, _, _, _, none⟩ :: _) _; first | (refine o_y (v_move (v := .sc _) rfl) rfl ?_)) | (show AOps _ _ _ _ (⟨some _, .load _ _, _, _, _, none⟩ :: _) _; first | (refine o_y (y_load1 (v := .sc _) rfl rfl rfl) rfl ?_)) | (show AOps _ _ _ _ (⟨some _, .fieldAddr _ _ _, _, _, _, none⟩ :: _) _; first | (refine o_y (y_fld_ptr rfl rfl) rfl ?_)) | (show AOps _ _ _ _ (⟨some _, .assign _, _, _, _, none⟩ :: _) _; first | (refine o_y (v_assign (v := .sc _) rfl) rfl ?_)) | (show AOps _ _ _ _ (⟨some _, .binOp _ _ _ _ _, _, _, _, none⟩ :: _) _; first | (refine o_y (y_bin rfl rfl rfl) rfl ?_)) | (show AOps _ _ _ _ (⟨some _, .pick _ _ _, _, _, _, none⟩ :: _) _; first | (refine o_y (v_pick_t (v := .sc _) rfl (by first | rfl | assumption | exact beq_self_eq_true _ | exact decide_eq_true rfl) rfl) rfl ?_) | (refine o_y (v_pick_f (v := .sc _) rfl (by first | rfl | assumption) rfl) rfl ?_)) | (show AOps _ _ _ _ (⟨_, _, _, _, _, some (_, _)⟩ :: _) _; first | (refine o_g_t rfl rfl rfl (by first | rfl | assumption | exact beq_self_eq_true _ | exact decide_eq_true rfl) ?_) | (refine o_g_f rfl rfl rfl (by first | rfl | assumption) ?_) | (refine o_if rfl rfl rfl (fun h hp => ?_) (fun h hp => ?_)))) | (show IW _ _ _ _ _; first | (refine awp_region ?_)) | (show thenQ _ _ _ _; first | (refine k_n ?_)))
    all_goals first | (exfalso; omega) | exact ⟨⟨rfl, rfl, rfl, rfl, rfl, rfl, rfl, rfl, rfl, rfl, rfl, rfl, rfl, congrArg (fun b => AV.sc (.bool b)) (by first | rfl | (simp only [b16, *, Bool.false_or, Bool.true_or, Bool.or_false, Bool.or_true, Bool.true_and, Bool.false_and, Bool.and_true, Bool.and_false, Bool.not_true, Bool.not_false, beq_self_eq_true]; done)), trivial⟩, rfl, hpEq_refl _⟩
  by_cases h16 : b16 c.f8 act = true
  · rw [h16]
    repeat' (first | (refine aops_nil ?_) | (show AOps _ _ _ _ _ _; first | (show AOps _ _ _ _ (⟨some _, .assign _, _, _, _, none⟩ :: _) _; first | (refine o_y (v_assign (v := .sc _) rfl) rfl ?_))) | (show IW _ _ _ _ _; first | (refine awp_seq ?_) | (refine awp_region ?_) | (refine awp_ret ?_) | (refine awp_if_t rfl (by first | rfl | assumption | exact beq_self_eq_true _ | exact decide_eq_true rfl) ?_)) | (show thenQ _ _ _ _; first | (refine k_r ?_)) | (show blockQ _ _ _ _; first | (refine b_r ?_)))
    all_goals first | (exfalso; omega) | exact ret2 [] (by decide) rfl (by rw [hk, show routeA _ _ _ _ _ _ _ _ _ = (4, 0) by simp only [routeA, *, if_true, if_false, Bool.false_eq_true]]; rfl)
  rw [Bool.not_eq_true _ |>.mp h16]
  by_cases ha5 : act = 5
  · subst ha5
    by_cases hf : 0 ≤ fndS T
    · repeat' (first | (refine aops_nil ?_) | (show AOps _ _ _ _ _ _; first | (show AOps _ _ _ _ (⟨some _, .move _, _, _, _, none⟩ :: _) _; first | (refine o_y (v_move (v := .sc _) rfl) rfl ?_) | (refine o_y (v_move (v := .vptr _ _) rfl) rfl ?_)) | (show AOps _ _ _ _ (⟨some _, .fieldAddr _ _ _, _, _, _, none⟩ :: _) _; first | (refine o_y (y_fld_vptr rfl rfl) rfl ?_)) | (show AOps _ _ _ _ (⟨some _, .nilCheck _, _, _, _, none⟩ :: _) _; first | (refine o_y (y_nil_vptr rfl) rfl ?_)) | (show AOps _ _ _ _ (⟨some _, .assign _, _, _, _, none⟩ :: _) _; first | (refine o_y (v_assign (v := .sc _) rfl) rfl ?_)) | (show AOps _ _ _ _ (⟨some _, .binOp .add _ _ _ _, _, _, _, none⟩ :: _) _; first | (refine o_y (z_add rfl rfl (by omega) (by omega)) rfl ?_) | (refine o_y (y_bin rfl rfl rfl) rfl ?_)) | (show AOps _ _ _ _ (⟨some _, .binOp .and _ _ _ _, _, _, _, none⟩ :: _) _; first | (refine o_y (y_bin rfl rfl rfl) rfl ?_)) | (show AOps _ _ _ _ (⟨some _, .binOp _ _ _ _ _, _, _, _, none⟩ :: _) _; first | (refine o_y (y_bin rfl rfl rfl) rfl ?_)) | (show AOps _ _ _ _ (⟨some _, .slice _ _ _ _ _, _, _, _, none⟩ :: _) _; first | (refine o_y (y_sliceArrV rfl (tvs_length _) rfl) rfl ?_)) | (show AOps _ _ _ _ (⟨some _, .call ⟨.value (.func 31), _, _⟩, _, _, _, none⟩ :: _) _; first | (refine o_q (q_call (hx)) rfl ?_))) | (show IW _ _ _ _ _; first | (refine awp_seq ?_) | (refine awp_region ?_) | (refine awp_ret ?_) | (refine awp_skip ?_) | (refine awp_if_t rfl (by first | rfl | assumption | exact beq_self_eq_true _ | exact decide_eq_true rfl) ?_) | (refine awp_if_f rfl (by first | rfl | assumption) ?_) | (refine awp_if rfl (fun h hp => ?_) (fun h hp => ?_))) | (show thenQ _ _ _ _; first | (refine k_r ?_)) | (show blockQ _ _ _ _; first | (refine b_r ?_)))
      all_goals first | (exfalso; omega) | exact ret2 [] (by decide) rfl (by rw [hk, show routeA _ _ _ _ _ _ _ _ _ = (5, fndS T + 1) by simp only [routeA, *, if_true, if_false, Bool.false_eq_true]]; rfl)
    · repeat' (first | (refine aops_nil ?_) | (show AOps _ _ _ _ _ _; first | (show AOps _ _ _ _ (⟨some _, .move _, _, _, _, none⟩ :: _) _; first | (refine o_y (v_move (v := .sc _) rfl) rfl ?_) | (refine o_y (v_move (v := .vptr _ _) rfl) rfl ?_)) | (show AOps _ _ _ _ (⟨some _, .fieldAddr _ _ _, _, _, _, none⟩ :: _) _; first | (refine o_y (y_fld_vptr rfl rfl) rfl ?_)) | (show AOps _ _ _ _ (⟨some _, .nilCheck _, _, _, _, none⟩ :: _) _; first | (refine o_y (y_nil_vptr rfl) rfl ?_)) | (show AOps _ _ _ _ (⟨some _, .assign _, _, _, _, none⟩ :: _) _; first | (refine o_y (v_assign (v := .sc _) rfl) rfl ?_)) | (show AOps _ _ _ _ (⟨some _, .binOp .add _ _ _ _, _, _, _, none⟩ :: _) _; first | (refine o_y (z_add rfl rfl (by omega) (by omega)) rfl ?_) | (refine o_y (y_bin rfl rfl rfl) rfl ?_)) | (show AOps _ _ _ _ (⟨some _, .binOp .and _ _ _ _, _, _, _, none⟩ :: _) _; first | (refine o_y (y_bin rfl rfl rfl) rfl ?_)) | (show AOps _ _ _ _ (⟨some _, .binOp _ _ _ _ _, _, _, _, none⟩ :: _) _; first | (refine o_y (y_bin rfl rfl rfl) rfl ?_)) | (show AOps _ _ _ _ (⟨some _, .slice _ _ _ _ _, _, _, _, none⟩ :: _) _; first | (refine o_y (y_sliceArrV rfl (tvs_length _) rfl) rfl ?_)) | (show AOps _ _ _ _ (⟨some _, .call ⟨.value (.func 31), _, _⟩, _, _, _, none⟩ :: _) _; first | (refine o_q (q_call (hx)) rfl ?_))) | (show IW _ _ _ _ _; first | (refine awp_seq ?_) | (refine awp_region ?_) | (refine awp_ret ?_) | (refine awp_skip ?_) | (refine awp_if_t rfl (by first | rfl | assumption | exact beq_self_eq_true _ | exact decide_eq_true rfl) ?_) | (refine awp_if_f rfl (by first | rfl | assumption) ?_) | (refine awp_if rfl (fun h hp => ?_) (fun h hp => ?_))) | (show thenQ _ _ _ _; first | (refine k_r ?_)) | (show blockQ _ _ _ _; first | (refine b_r ?_)))
      all_goals first | (exfalso; omega) | exact ret2 [] (by decide) rfl (by rw [hk, show routeA _ _ _ _ _ _ _ _ _ = (0, 0) by simp only [routeA, *, if_true, if_false, Bool.false_eq_true]]; rfl)
  · repeat' (first | (refine aops_nil ?_) | (show AOps _ _ _ _ _ _; first | (show AOps _ _ _ _ (⟨some _, .move _, _, _, _, none⟩ :: _) _; first | (refine o_y (v_move (v := .sc _) rfl) rfl ?_) | (refine o_y (v_move (v := .vptr _ _) rfl) rfl ?_)) | (show AOps _ _ _ _ (⟨some _, .fieldAddr _ _ _, _, _, _, none⟩ :: _) _; first | (refine o_y (y_fld_vptr rfl rfl) rfl ?_)) | (show AOps _ _ _ _ (⟨some _, .nilCheck _, _, _, _, none⟩ :: _) _; first | (refine o_y (y_nil_vptr rfl) rfl ?_)) | (show AOps _ _ _ _ (⟨some _, .assign _, _, _, _, none⟩ :: _) _; first | (refine o_y (v_assign (v := .sc _) rfl) rfl ?_)) | (show AOps _ _ _ _ (⟨some _, .binOp .add _ _ _ _, _, _, _, none⟩ :: _) _; first | (refine o_y (y_bin rfl rfl rfl) rfl ?_)) | (show AOps _ _ _ _ (⟨some _, .binOp .and _ _ _ _, _, _, _, none⟩ :: _) _; first | (refine o_y (y_bin rfl rfl rfl) rfl ?_)) | (show AOps _ _ _ _ (⟨some _, .binOp _ _ _ _ _, _, _, _, none⟩ :: _) _; first | (refine o_y (y_bin rfl rfl rfl) rfl ?_)) | (show AOps _ _ _ _ (⟨some _, .slice _ _ _ _ _, _, _, _, none⟩ :: _) _; first | (refine o_y (y_sliceArrV rfl (tvs_length _) rfl) rfl ?_))) | (show IW _ _ _ _ _; first | (refine awp_seq ?_) | (refine awp_region ?_) | (refine awp_ret ?_) | (refine awp_skip ?_) | (refine awp_if_f rfl (by first | rfl | assumption) ?_) | (refine awp_if rfl (fun h hp => ?_) (fun h hp => ?_))))
    all_goals first | (exfalso; omega) | exact ret2 [] (by decide) rfl (by rw [hk, show routeA _ _ _ _ _ _ _ _ _ = (0, 0) by simp only [routeA, *, if_true, if_false, Bool.false_eq_true]]; rfl)
end Go.Proofs.Ytcidoghpacihpaa.Sx
