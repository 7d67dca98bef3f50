/- The given statement of TopDrops holds: on every input that can be read, in a world whose package variables read as the program's text lays them, the call returns true and leaves its arguments as they were; the row is tied to the program's text. -/
import Derived.Test.YtlcconkbldnkmaaGreatDoorRows
import Derived.Test.YtlcconkbldnkmaaGreatDoorCards
import Derived.Test.YtlcconkbldnkmaaGreatDoorTie
import Derived.Test.YtlcconkbldnkmaaGreatDoorTopL
import Derived.Test.YtlcconkbldnkmaaGreatDoorTopJ
import Derived.Test.YtlcconkbldnkmaaGreatDoorTopG
import Derived.SevenTiedAt
namespace Go.Proofs.YtlcconkbldnkmaaGreatDoor
open Go Go.Sx Go.ChangeShapes Go.WideShapes Go.ChangeAt Go.RowKit
set_option linter.unusedVariables false
theorem over : Rows.topDropsRow.holds Tryz.pinned (OpenSpec.ofChange Rows.topDropsSpec) :=
  OpenClaim.holds_of_cond 3 Tryz.f3 rfl rfl rfl rfl rfl rfl rfl ⟨rfl, rfl, rfl, rfl, rfl⟩ rfl rfl rfl rfl rfl (by kernel_rfl) Tryz.func3 closed
    (of_decide_eq_true (by kernel_rfl)) (by unfold Func.isWrapper; first | (rw [if_pos (by decide +kernel)]; kernel_rfl) | (rw [if_neg (by decide +kernel)]; exact ⟨rfl, rfl⟩))
    (fun os started H enc _ F0 => by rw [OpenClaim.pre_eq_preRow]; exact lifted os started H enc F0)

theorem holds : Rows.TopDropsCardSaid :=
  Claim7.holds_tied_plain_at .later [] [.data, .data, .data, .data, .sentinel, .sentinel, .pinned] true (true, "91558d8f940a09ce2aea746d883ce594234817b8f2f36a34c07d12fd577907f9") true
    over (fun _ h => by cases h) (by kernel_rfl) (fun _ h => by cases h) topDrops_row_tie rfl ⟨rfl, rfl⟩ (by kernel_rfl) rfl
    (fun f fn hf hfn => by
      obtain rfl : f = 3 := Option.some.inj ((show Tryz.prog.funcNamed "airshare/airsharetop.TopDrops" = some 3 by kernel_rfl).symm.trans hf) |>.symm
      obtain rfl : fn = Tryz.f3 := (Option.some.inj (Tryz.func3.symm.trans hfn)).symm
      exact ⟨by kernel_rfl, fun j t ht => by
        rw [Tryz.params3] at ht
        have h3 : t = 22 ∨ t = 5 := by
          match j with
          | 0 => simp at ht; exact .inl ht.symm
          | 1 => simp at ht; exact .inr ht.symm
          | j + 2 => simp at ht
        rcases h3 with rfl | rfl
        · exact (show Tryz.prog.wantsStandIn 22 = false by kernel_rfl)
        · exact (show Tryz.prog.wantsStandIn 5 = false by kernel_rfl)⟩)
    goes_row
#print axioms holds
end Go.Proofs.YtlcconkbldnkmaaGreatDoor
