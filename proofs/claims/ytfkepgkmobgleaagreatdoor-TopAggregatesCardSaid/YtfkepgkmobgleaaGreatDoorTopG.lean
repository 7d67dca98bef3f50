/- Lemmas for the card. -/
import Derived.Test.YtfkepgkmobgleaaGreatDoorRows
import Derived.Test.YtfkepgkmobgleaaGreatDoorCards
import Derived.KernelRfl
import GoSem.ClaimGoes
namespace Go.Proofs.YtfkepgkmobgleaaGreatDoor
open Go
theorem goes_none{P:Program}(ha:(P.funcs.toList.any Func.goes)=false)(f:FuncId):P.goes f=false:=by
 have h: ∀g:Nat,((P.funcs[g]?).any Func.goes)=false:=by
  intro g
  cases hg:P.funcs[g]? with
  |none=>rfl
  |some fn=>
   have hm:fn∈P.funcs.toList:=by
    obtain⟨hlt,he⟩:=Array.getElem?_eq_some_iff.1 hg
    rw[<-he];exact Array.getElem_mem_toList hlt
   have:=List.any_eq_false.1 ha fn hm
   simpa using this
 unfold Program.goes
 rw[Bool.or_eq_false_iff]
 refine⟨List.any_eq_false.2 fun g _=>by rw[h g];simp,?_⟩
 have:P.funcs.any Func.goes=false:=by rw[<-Array.any_toList];exact ha
 rw[this,Bool.and_false]
theorem goesBy_none{P:Program}{c:OpenClaim}(ha:(P.funcs.toList.any Func.goes)=false)(hs:c.start= .entering):c.goesBy P=false:=by
 unfold OpenClaim.goesBy Program.goesAt Program.goesFrom
 rw[hs,Bool.or_false]
 cases h:P.funcNamed c.func with
 |none=>rfl
 |some f=>exact goes_none ha f
theorem any_lists:(Tryz.prog.funcs.toList.any Func.goes)=false:=by kernel_rfl
theorem goes_row:false=Rows.topAggregatesRow.goesBy Tryz.pinned.checked.prog:=(goesBy_none (P:=Tryz.pinned.checked.prog) any_lists rfl).symm
end Go.Proofs.YtfkepgkmobgleaaGreatDoor
