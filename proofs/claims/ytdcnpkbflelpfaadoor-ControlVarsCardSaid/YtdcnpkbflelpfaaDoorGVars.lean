/- ControlVars holds: for every input the law returns true and leaves its arguments as they were: what is told of any system, and of any association, is the document's; all of it may be written. The card: the three listed tables read as the program's own text lays them. -/
import Derived.Test.YtdcnpkbflelpfaaDoorY
import Derived.Test.YtdcnpkbflelpfaaDoorSx40
import Derived.Test.YtdcnpkbflelpfaaDoorSx32
import Derived.Test.YtdcnpkbflelpfaaDoorRows
import Derived.Test.YtdcnpkbflelpfaaDoorCards
import Derived.Test.YtdcnpkbflelpfaaDoorTie
import Derived.ProofKit
import Derived.OpenShut
import Derived.LaidMore
import Derived.LaidSub
import Derived.Lay
import Derived.SevenTiedAt
import Derived.Stop.Joined
namespace Go.Proofs.YtdcnpkbflelpfaaDoor.Sx
open Go Go.RowKit
theorem opn33 {n : Nat} {a : AV} (h : TypA Tryd.prog n 33 a) : ∃ x0 x1 x2 x3 : Int, a = .agg [.sc (.int .i64 x0), .sc (.int .i64 x1), .sc (.int .i64 x2), .sc (.int .i64 x3)] ∧ (-9223372036854775808 ≤ x0 ∧ x0 ≤ 9223372036854775807) ∧ (-9223372036854775808 ≤ x1 ∧ x1 ≤ 9223372036854775807) ∧ (-9223372036854775808 ≤ x2 ∧ x2 ≤ 9223372036854775807) := by
  obtain ⟨n', l, rfl, hl, hf⟩ := typA_arr Tryd.underlying33 1 (by kernel_rfl) (by kernel_rfl) h
  obtain ⟨x0, e0, o0⟩ := typ_rng Tryd.underlying3 (hf 0 (by decide))
  obtain ⟨x1, e1, o1⟩ := typ_rng Tryd.underlying3 (hf 1 (by decide))
  obtain ⟨x2, e2, o2⟩ := typ_rng Tryd.underlying3 (hf 2 (by decide))
  obtain ⟨x3, e3, o3⟩ := typ_rng Tryd.underlying3 (hf 3 (by decide))
  match l, hl with
  | [a0, a1, a2, a3], _ =>
    cases (show [a0] = _ from e0)
    cases (show [a1] = _ from e1)
    cases (show [a2] = _ from e2)
    cases (show [a3] = _ from e3)
    exact ⟨x0, x1, x2, x3, rfl, o0, o1, o2⟩
theorem opn34 {n : Nat} {a : AV} (h : TypA Tryd.prog n 34 a) : ∃ x0 x1 : Bool, a = .agg [.sc (.bool x0), .sc (.bool x1)] := by
  obtain ⟨n', l, rfl, hl, hf⟩ := typA_arr Tryd.underlying34 1 (by kernel_rfl) (by kernel_rfl) h
  obtain ⟨x0, e0, _⟩ := typ_bool1 Tryd.underlying4 (hf 0 (by decide))
  obtain ⟨x1, e1, _⟩ := typ_bool1 Tryd.underlying4 (hf 1 (by decide))
  match l, hl with
  | [a0, a1], _ =>
    cases (show [a0] = _ from e0)
    cases (show [a1] = _ from e1)
    exact ⟨x0, x1, rfl⟩
end Go.Proofs.YtdcnpkbflelpfaaDoor.Sx
namespace Go.Proofs.YtdcnpkbflelpfaaDoor
open Go.ChangeShapes Go.WideShapes Go.ChangeAt Go.RowKit Sx
theorem controlVars_own : ownKnob Tryd.prog.godebug = none := by kernel_rfl
theorem controlVars_laid : laidOutB Tryd.prog = true := by kernel_rfl
def tabs : List (String × DataW Unit) := [("math/bits.deBruijn32tab", Rows.laid_math_bits_deBruijn32tab), ("math/bits.deBruijn64tab", Rows.laid_math_bits_deBruijn64tab), ("internal/strconv.uint64pow10", Rows.laid_internal_strconv_uint64pow10)]
theorem pins {W : World} (h : laidMetH Tryd.prog tabs W) : ∀ b cs, pinT b = some cs → ∃ t st, W.heap[b]? = some (.cells cs t st) := fun b cs hb => by
  have h1 := laidMetH.filter (fun x => x.1 == "internal/strconv.uint64pow10") h
  rw [MakeChecks.laidMetH_plain _ _ _ (by kernel_rfl), show (tabs.filter fun x => x.1 == "internal/strconv.uint64pow10") = [("internal/strconv.uint64pow10", Lib.tabData .u64 Lib.pow10Tab)] by kernel_rfl] at h1
  have h2 := tab_heap (g := 0) (by kernel_rfl) (Lib.tabIs_of_head (g := 0) (t := 94) (by kernel_rfl) (by kernel_rfl) Tryd.underlying94 Tryd.underlying24 (by kernel_rfl) (by kernel_rfl) h1)
  by_cases h0 : b = 0
  · subst h0
    have e : some cs = some (Lib.pow10Tab.map fun z => Value.int .u64 z).toArray := hb.symm.trans (by kernel_rfl)
    cases e
    exact h2
  · exact absurd hb (by unfold pinT; rw [if_neg h0]; exact fun h => by cases h)
set_option maxRecDepth 100000 in
theorem controlVars_lifted (os : Os) (started : os.Started) (H : Type) (enc : TypeId × Value → H) :
    ReturnsInHanded {} Tryd.checked os 3 .any (fun w args => (Rows.controlVarsSpec.pre enc Tryd.prog Tryd.f3 Rows.controlVarsRow.domain false w args ∧ laidMetH Tryd.prog tabs w) ∧ sizedMet enc Tryd.prog Tryd.f3 (OpenSpec.ofChange Rows.controlVarsSpec) false w args)
      (Rows.controlVarsSpec.post enc Tryd.prog Tryd.f3 false true false false) := by
  refine returnsInHanded_of_change_and (C := Tryd.checked) (X := fun w _ => laidMetH Tryd.prog tabs w) (fun _ _ _ hh h => h.of_heap hh) controlVars_own started (by kernel_rfl) Tryd.func3
    (ChangeSpec.witness_shaped (enc := enc) (C := Tryd.checked) (os := os) (X := fun w _ => laidMetH Tryd.prog tabs w) false (World.laidAll Tryd.prog os tabs) #[.agg #[.int .i64 0, .int .i64 0, .int .i64 0, .int .i64 0, .int .i64 0, .int .u32 0, .int .u64 0, .int .i64 0, .int .i64 0, .int .i64 0, .int .i64 0], .agg #[.int .i64 0, .int .u32 0, .int .i64 0, .int .i64 0, .int .i64 0, .bool false, .bool false, .bool false, .int .i64 0, .bool false, .int .i64 0, .int .i64 0], .agg #[.int .i64 0, .int .i64 0, .int .i64 0, .int .i64 0, .int .u64 0, .bool false], .agg #[.int .i64 0, .int .i64 0, .int .i64 0, .int .i64 0], .agg #[.bool false, .bool false]] 8 (World.laidAll_os _ _ _)
      (World.shaped_of_ZipB (by kernel_rfl) (by kernel_rfl)) (by kernel_rfl) (by kernel_rfl) (by kernel_rfl)
      (by rw [MakeChecks.laidMetH_plain _ _ _ (by kernel_rfl)]; exact laidMet_laidAll _ (by kernel_rfl) (by kernel_rfl))) ?_
  intro W base args ds gs before hval hW _ _ hlt _
  refine law_row (P := Tryd.prog) controlVars_laid (by kernel_rfl) (tb := 4) (by kernel_rfl) Tryd.underlying4 rfl (fun ds hd => ?_) hval hW (fun avl hT => ?_) (pins hlt)
  · rw [Tryd.params3] at hd
    match ds, hd with
    | [_, _, _, _, _], _ => rfl
  · rw [Tryd.params3] at hT
    match avl, hT with
    | [x0, x1, x2, x3, x4], ⟨⟨_, h0⟩, ⟨_, h1⟩, ⟨_, h2⟩, ⟨_, h3⟩, ⟨_, h4⟩, _⟩ =>
      obtain ⟨x, rfl, hx⟩ := opn28 h0
      obtain ⟨a, rfl, ha⟩ := opn30 h1
      obtain ⟨b, rfl, hb⟩ := opn32 h2
      obtain ⟨n0, n1, n2, n3, rfl, o0, o1, o2⟩ := opn33 h3
      obtain ⟨f0, f1, rfl⟩ := opn34 h4
      exact vars_law x hx a ha b hb n0 n1 n2 n3 o0 o1 o2 f0 f1
theorem controlVars_row : Rows.ControlVarsSaid :=
  OpenClaim.holds_of_wide 3 Tryd.f3 rfl rfl rfl rfl rfl rfl rfl ⟨rfl, rfl, rfl, rfl, rfl⟩ rfl rfl rfl rfl rfl (by kernel_rfl) Tryd.func3 (by kernel_rfl)
    (of_decide_eq_true (by kernel_rfl)) (by unfold Func.isWrapper; first | (rw [if_pos (by decide +kernel)]; kernel_rfl) | (rw [if_neg (by decide +kernel)]; exact ⟨rfl, rfl⟩))
    (fun os started H enc _ => controlVars_lifted os started H enc)
theorem controlVars_holds : Rows.ControlVarsCardSaid :=
  Claim7.holds_tied_plain_at .later [] [.data, .data, .data] true (true, "0fd095605ec529025c3eb831117a42ca9c477135ffce8bffacada76f9e7c20b7") false controlVars_row (fun _ h => by cases h) (by kernel_rfl) (fun _ h => by cases h) controlVars_row_tie rfl ⟨rfl, rfl⟩ (by kernel_rfl) rfl
    (fun f fn hf hfn => by
      obtain rfl : f = 3 := Option.some.inj ((show Tryd.prog.funcNamed "foliot/foliotlaw19.ControlVars" = some 3 by kernel_rfl).symm.trans hf) |>.symm
      obtain rfl : fn = Tryd.f3 := (Option.some.inj (Tryd.func3.symm.trans hfn)).symm
      exact ⟨by kernel_rfl, fun j t ht => by
        rw [Tryd.params3] at ht
        have hm : t ∈ [28, 30, 32, 33, 34] := by simpa using Array.mem_of_getElem? ht
        have hall : ([28, 30, 32, 33, 34].all fun u => !Tryd.prog.wantsStandIn u) = true := by kernel_rfl
        exact (show Tryd.prog.wantsStandIn t = false by simpa using List.all_eq_true.1 hall t hm)⟩)
    (by kernel_rfl)
#print axioms controlVars_holds
end Go.Proofs.YtdcnpkbflelpfaaDoor
