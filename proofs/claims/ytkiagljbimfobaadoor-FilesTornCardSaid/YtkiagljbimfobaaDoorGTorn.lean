/- FilesTorn holds: for every input the law returns true and leaves its arguments as they were: behind a crash, wherever it tears, a file of records is some of the last whole records, and the beginning of the torn one. The card: the two listed tables read as the program's own text lays them. -/
import Derived.Test.YtkiagljbimfobaaDoorL
import Derived.Test.YtkiagljbimfobaaDoorSx32
import Derived.Test.YtkiagljbimfobaaDoorRows
import Derived.Test.YtkiagljbimfobaaDoorCards
import Derived.Test.YtkiagljbimfobaaDoorTie
import Derived.ProofKit
import Derived.OpenShut
import Derived.LaidMore
import Derived.Lay
import Derived.SevenTiedAt
import Derived.Stop.Joined
namespace Go.Proofs.YtkiagljbimfobaaDoor
open Go.ChangeShapes Go.WideShapes Go.ChangeAt Go.RowKit Sx
theorem filesTorn_own : ownKnob Tryd.prog.godebug = none := by kernel_rfl
theorem filesTorn_laid : laidOutB Tryd.prog = true := by kernel_rfl
def tabs : List (String × DataW Unit) := [("unicode/utf8.acceptRanges", Rows.laid_unicode_utf8_acceptRanges), ("unicode/utf8.first", Rows.laid_unicode_utf8_first)]
theorem openS {n : Nat} {a : AV} (h : TypA Tryd.prog n 22 a) : ∃ l : List ByteArray, a = .vsl (strs l) 1 0 l.length ∧ l.length ≤ maxLen ∧ ∀ x ∈ l, x.size ≤ maxLen := by
  obtain ⟨l, h1, h2, h3⟩ := typ_strs Tryd.underlying22 Tryd.underlying9 (by kernel_rfl) (typA_of Tryd.underlying22 trivial h)
  exact ⟨l, by simpa using h1, h2, h3⟩
set_option maxRecDepth 100000 in
theorem filesTorn_lifted (os : Os) (started : os.Started) (H : Type) (enc : TypeId × Value → H) :
    ReturnsInHanded {} Tryd.checked os 3 .any (fun w args => (Rows.filesTornSpec.pre enc Tryd.prog Tryd.f3 Rows.filesTornRow.domain false w args ∧ laidMetH Tryd.prog tabs w) ∧ sizedMet enc Tryd.prog Tryd.f3 (OpenSpec.ofChange Rows.filesTornSpec) false w args)
      (Rows.filesTornSpec.post enc Tryd.prog Tryd.f3 false true false false) := by
  refine returnsInHanded_of_change_and (C := Tryd.checked) (X := fun w _ => laidMetH Tryd.prog tabs w) (fun _ _ _ hh h => h.of_heap hh) filesTorn_own started (by kernel_rfl) Tryd.func3
    (ChangeSpec.witness_shaped (enc := enc) (C := Tryd.checked) (os := os) (X := fun w _ => laidMetH Tryd.prog tabs w) false (World.laidAll Tryd.prog os tabs) #[.slice none 0 0, .int .i64 0] 8 (World.laidAll_os _ _ _)
      (World.shaped_of_ZipB (by kernel_rfl) (by kernel_rfl)) (by kernel_rfl) (by kernel_rfl) (by kernel_rfl)
      (by rw [MakeChecks.laidMetH_plain _ _ _ (by kernel_rfl)]; exact laidMet_laidAll _ (by kernel_rfl) (by kernel_rfl))) ?_
  intro W base args ds gs before hval hW _ _ _ _
  refine law_row (P := Tryd.prog) filesTorn_laid (by kernel_rfl) (tb := 4) (by kernel_rfl) Tryd.underlying4 rfl (fun ds hd => ?_) hval hW (fun avl hT => ?_)
  · rw [Tryd.params3] at hd
    match ds, hd with
    | [_, _], _ => rfl
  · rw [Tryd.params3] at hT
    match avl, hT with
    | [x0, x1], ⟨⟨_, h0⟩, ⟨_, h1⟩, _⟩ =>
      obtain ⟨l, rfl, hl, hb⟩ := openS h0
      obtain ⟨n, rfl, _⟩ := typA_int Tryd.underlying3 h1
      exact law_spec l n (Nat.le_trans hl (by decide)) (fun s hs => Nat.le_trans (hb s hs) (by decide))
theorem filesTorn_row : Rows.FilesTornSaid :=
  OpenClaim.holds_of_wide 3 Tryd.f3 rfl rfl rfl rfl rfl rfl rfl ⟨rfl, rfl, rfl, rfl, rfl⟩ rfl rfl rfl rfl rfl (by kernel_rfl) Tryd.func3 (by kernel_rfl)
    (of_decide_eq_true (by kernel_rfl)) (by unfold Func.isWrapper; first | (rw [if_pos (by decide +kernel)]; kernel_rfl) | (rw [if_neg (by decide +kernel)]; exact ⟨rfl, rfl⟩))
    (fun os started H enc _ => filesTorn_lifted os started H enc)
theorem filesTorn_holds : Rows.FilesTornCardSaid :=
  Claim7.holds_tied_plain_at .later [] [.data, .pinned] true (true, "3b2398cceaa8ab2600bb4453d7106e85829303a872066976da39e9d436bc3265") false filesTorn_row (fun _ h => by cases h) (by kernel_rfl) (fun _ h => by cases h) filesTorn_row_tie rfl ⟨rfl, rfl⟩ (by kernel_rfl) rfl
    (fun f fn hf hfn => by
      obtain rfl : f = 3 := Option.some.inj ((show Tryd.prog.funcNamed "foliot/foliotlaw18.FilesTorn" = some 3 by kernel_rfl).symm.trans hf) |>.symm
      obtain rfl : fn = Tryd.f3 := (Option.some.inj (Tryd.func3.symm.trans hfn)).symm
      exact ⟨by kernel_rfl, fun j t ht => by
        rw [Tryd.params3] at ht
        have hm : t ∈ [22, 3] := by simpa using Array.mem_of_getElem? ht
        have hall : ([22, 3].all fun u => !Tryd.prog.wantsStandIn u) = true := by kernel_rfl
        exact (show Tryd.prog.wantsStandIn t = false by simpa using List.all_eq_true.1 hall t hm)⟩)
    (by kernel_rfl)
#print axioms filesTorn_holds
end Go.Proofs.YtkiagljbimfobaaDoor
