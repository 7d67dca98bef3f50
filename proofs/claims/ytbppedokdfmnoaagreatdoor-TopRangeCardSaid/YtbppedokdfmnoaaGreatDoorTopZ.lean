/- The given statement of TopRange holds: on every input that can be read, in a world whose package variables read as the program's text lays them, the call returns true and leaves its argument as it was; the row is tied to the program's text. -/
import Derived.Test.YtbppedokdfmnoaaGreatDoorRows
import Derived.Test.YtbppedokdfmnoaaGreatDoorCards
import Derived.Test.YtbppedokdfmnoaaGreatDoorTie
import Derived.Test.YtbppedokdfmnoaaGreatDoorTopL
import Derived.Test.YtbppedokdfmnoaaGreatDoorTopJ
import Derived.Test.YtbppedokdfmnoaaGreatDoorTopG
import Derived.SevenTiedAt
namespace Go.Proofs.YtbppedokdfmnoaaGreatDoor
open Go Go.Sx Go.ChangeShapes Go.WideShapes Go.ChangeAt Go.RowKit
set_option linter.unusedVariables false
theorem over : Rows.topRangeRow.holds Tryz.pinned (OpenSpec.ofChange Rows.topRangeSpec) :=
 OpenClaim.holds_of_cond 3 Tryz.f3 rfl rfl rfl rfl rfl rfl rfl ⟨rfl, rfl, rfl, rfl, rfl⟩ rfl rfl rfl rfl rfl (by kernel_rfl) Tryz.func3 closed
  (of_decide_eq_true (by kernel_rfl)) (by unfold Func.isWrapper; first | (rw [if_pos (by decide +kernel)]; kernel_rfl) | (rw [if_neg (by decide +kernel)]; exact ⟨rfl, rfl⟩))
  (fun os started H enc _ F0 => by rw [OpenClaim.pre_eq_preRow]; exact lifted os started H enc F0)
theorem holds : Rows.TopRangeCardSaid :=
 Claim7.holds_tied_plain_at .later [] [.data, .data, .data, .data, .sentinel, .sentinel, .pinned] true (true, "222a8d8592937daaa04da779aeab454e5ee9d0f2f7493df1bd1543cf5087ba51") true
  over (fun _ h => by cases h) (by kernel_rfl) (fun _ h => by cases h) topRange_row_tie rfl ⟨rfl, rfl⟩ (by kernel_rfl) rfl
  (fun f fn hf hfn => by
   obtain rfl : f = 3 := Option.some.inj ((show Tryz.prog.funcNamed "airshare/airsharetop.TopRange" = some 3 by kernel_rfl).symm.trans hf) |>.symm
   obtain rfl : fn = Tryz.f3 := (Option.some.inj (Tryz.func3.symm.trans hfn)).symm
   exact ⟨by kernel_rfl, fun j t ht => by
    rw [Tryz.params3] at ht
    have h3 : t = 22 := by
     match j with
     | 0 => simp at ht; exact ht.symm
     | j + 1 => simp at ht
    subst h3
    exact (show Tryz.prog.wantsStandIn 22 = false by kernel_rfl)⟩)
  goes_row
end Go.Proofs.YtbppedokdfmnoaaGreatDoor
