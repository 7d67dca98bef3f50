/- Proves Rows.TopAggregatesCardSaid, under no condition. -/
import Derived.Test.YtfkepgkmobgleaaGreatDoorRows
import Derived.Test.YtfkepgkmobgleaaGreatDoorCards
import Derived.Test.YtfkepgkmobgleaaGreatDoorTie
import Derived.Test.YtfkepgkmobgleaaGreatDoorTopL
import Derived.Test.YtfkepgkmobgleaaGreatDoorTopJ
import Derived.Test.YtfkepgkmobgleaaGreatDoorTopG
import Derived.SevenTiedAt
namespace Go.Proofs.YtfkepgkmobgleaaGreatDoor
open Go Go.Sx Go.ChangeShapes Go.WideShapes Go.ChangeAt Go.RowKit
set_option linter.unusedVariables false
theorem over:Rows.topAggregatesRow.holds Tryz.pinned (OpenSpec.ofChange Rows.topAggregatesSpec):=
 OpenClaim.holds_of_cond 3 Tryz.f3 rfl rfl rfl rfl rfl rfl rfl ⟨rfl,rfl,rfl,rfl,rfl⟩ rfl rfl rfl rfl rfl (by kernel_rfl) Tryz.func3 closed
  (of_decide_eq_true (by kernel_rfl)) (by unfold Func.isWrapper;first|(rw[if_pos (by decide+kernel)];kernel_rfl)|(rw[if_neg (by decide+kernel)];exact⟨rfl,rfl⟩))
  (fun os started H enc _ F0=>by rw[OpenClaim.pre_eq_preRow];exact lifted os started H enc F0)
theorem holds:Rows.TopAggregatesCardSaid:=
 Claim7.holds_tied_plain_at .later [] [.data,.data,.data,.data,.sentinel,.sentinel,.pinned] true (true,"3d34d5da56cbe55a8c47d8a58835679b1e24bc462a20752d5489c93c8d839b58") true
  over (fun _ h=>by cases h) (by kernel_rfl) (fun _ h=>by cases h) topAggregates_row_tie rfl ⟨rfl,rfl⟩ (by kernel_rfl) rfl
  (fun f fn hf hfn=>by
   obtain rfl:f=3:=Option.some.inj ((show Tryz.prog.funcNamed "airshare/airsharetop.TopAggregates" =some 3 by kernel_rfl).symm.trans hf)|>.symm
   obtain rfl:fn=Tryz.f3:=(Option.some.inj (Tryz.func3.symm.trans hfn)).symm
   exact⟨by kernel_rfl,fun j t ht=>by
    rw[Tryz.params3]at ht
    have h3:t=22:=by
     match j with
     |0=>simp at ht;exact ht.symm
     |j+1=>simp at ht
    subst h3
    exact(show Tryz.prog.wantsStandIn 22=false by kernel_rfl)⟩)
  goes_row
end Go.Proofs.YtfkepgkmobgleaaGreatDoor
