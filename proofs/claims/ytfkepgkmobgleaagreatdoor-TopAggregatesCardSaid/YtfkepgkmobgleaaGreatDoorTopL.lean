/- Lemmas for the card. -/
import Derived.Test.YtfkepgkmobgleaaGreatDoorTopX
import Derived.Test.YtfkepgkmobgleaaGreatDoorTopE
import Derived.Test.YtfkepgkmobgleaaGreatDoorP17
import Derived.WalkKit
import Derived.ProofKit
import Derived.OpenShut
import Derived.ChangeOld
import Derived.Below
import Derived.Deep.DeepHandedRow
import Derived.Lib.LaidTab
import Derived.LaidLaws
namespace Go.Proofs.YtfkepgkmobgleaaGreatDoor
open Go Go.Sx Go.ChangeShapes Go.WideShapes Go.ChangeAt Go.RowKit
set_option linter.unusedVariables false
theorem own:ownKnob Tryz.prog.godebug=none:=by kernel_rfl
theorem laidMet_tail{P:Program}{x:String×DataW Unit}{l:List (String×DataW Unit)}{w:World}(h:laidMet P (x::l) w):laidMet P l w:=by
 obtain⟨ps,⟨g,t,cs,fuel,p,q,h1,h2,h3,h4,h5,rfl⟩,hn,hc⟩:=h
 exact⟨q,h5,(List.nodup_append.1 hn).2.1,fun b off hm=>hc b off (List.mem_append_right _ hm)⟩
theorem gPow:Tryz.prog.globalNamed "internal/strconv.uint64pow10" =some 2:=by kernel_rfl
theorem gPowT:(Tryz.prog.globals[2]?).map (·.type)=some 443:=by kernel_rfl
theorem cells235:Tryz.prog.cellsOf 235=1:=by kernel_rfl
theorem cells443:Tryz.prog.cellsOf 443=20:=by kernel_rfl
theorem powData:(Rows.laid_internal_strconv_uint64pow10:DataW Unit)=Lib.tabData .u64 Lib.pow10Tab:=by kernel_rfl
theorem pow_tab{W:World}(hL:laidMetH Tryz.prog Rows.topAggregatesRow.laid W):Lib.TabIs Tryz.prog W "internal/strconv.uint64pow10" .u64 Lib.pow10Tab:=by
 have h:laidMet Tryz.prog Rows.topAggregatesRow.laid W:=hL
 have h3:=laidMet_tail (laidMet_tail h)
 rw[powData]at h3
 exact Lib.tabIs_of_head gPow gPowT Tryz.underlying443 Tryz.underlying235 cells235 cells443 h3
theorem shape0:(((begin Tryz.prog (fun _ _=>0) default).world.heap[2]?).bind Obj.row?).map (·.2)=some 443:=by kernel_rfl
theorem pow_cells{W:World}(hL:laidMetH Tryz.prog Rows.topAggregatesRow.laid W)(hsh:W.ShapedOpen Tryz.prog):W.heap[2]?=some (.cells (Lib.pow10Tab.map fun z=>Value.int .u64 z).toArray 443 (0,0)):=by
 obtain⟨⟨zero,t⟩,hz,ht⟩:=Option.map_eq_some_iff.1 shape0
 simp only at ht
 subst ht
 obtain⟨cs,h1,_,_⟩:=hsh.1 2 zero 443 (by have:Tryz.prog.globals.size=10:=(by kernel_rfl);omega) hz
 have htab:=pow_tab hL
 unfold Lib.TabIs World.var? at htab
 rw[gPow]at htab
 simp only[Option.bind_some,h1]at htab
 rw[h1]
 simp at htab
 rw[htab]
theorem walk(v0:Value)(ls:List Int)(W:World)(mv:af W (fun _=>False) [] (.rs 1 (rowOf .i64 ls)) v0)
 (hg:W.heap[2]?=some (.cells (Lib.pow10Tab.map fun z=>Value.int .u64 z).toArray 443 (0,0))):
 Calls Tryz.prog 3 #[v0] W fun e w'=>e= .returned (.bool true)/\Below W.heap.size W w':=by
 have hc:=amD ls
 have hk: ∀(i:Nat)(x:Value),(Lib.pow10Tab.map fun z=>Value.int .u64 z).toArray[i]?=some x-> ∃n,x= .int .u64 n:=fun i x h=>by
  rw[List.getElem?_toArray,List.getElem?_map]at h
  obtain⟨z,_,rfl⟩:=Option.map_eq_some_iff.1 h
  exact⟨z,rfl⟩
 have hO: ∀k,bM [.own fun k=>k=2] k->k=2:=fun k⟨i,e,h1,h2⟩=>by
  cases i with
  |zero=>simp at h1;subst h1;exact h2
  |succ i=>simp at h1
 exact amC (c:=Tryz.f3.body.getD .skip) (vs:=[v0]) Tryz.func3 (by kernel_rfl) (by kernel_rfl) hc hg (Qp (asf hg hk hO mv) arH)
set_option maxRecDepth 100000 in
set_option maxHeartbeats 2000000 in
theorem lifted(os:Os)(started:os.Started)(H:Type)(enc:TypeId×Value->H)(F:Stop.Interp):
 ReturnsInHanded {} Tryz.checked os 3 .any ((OpenSpec.ofChange Rows.topAggregatesSpec).preRow enc Tryz.prog Tryz.f3 Rows.topAggregatesRow.domain false Rows.topAggregatesRow.laid) (((OpenSpec.ofChange Rows.topAggregatesSpec).at F).post enc Tryz.prog Tryz.f3 false true false false):=by
 refine returnsInHanded_of_row (C:=Tryz.checked) (s:=OpenSpec.ofChange Rows.topAggregatesSpec) own started (by kernel_rfl) Tryz.func3
  (witness_row_at (enc:=enc) (C:=Tryz.checked) false (laidWorld os) #[.slice none 0 0] rfl (by kernel_rfl) (by kernel_rfl) (by kernel_rfl) (witness_row os enc)) ?_
 intro W base args ds gs before hval0 hW _ hcond0 hsz0 hL hsh _
 have hval: ∀(j:Nat)t v,Tryz.f3.params[j]?=some t->args[j]?=some v->Value.okWide Tryz.prog W .any base t v:=hval0
 have hW':=hW
 obtain⟨p,q,hA0,hV,rfl,hfz,hnd⟩:=hW
 have hA:DataW.TrodAll enc Tryz.prog W 0 (fun _=>true) true Tryz.f3.params.toList args.toList ds p:=hA0
 rw[Tryz.params3]at hA hval
 obtain⟨v0,vs0,d0,ds0,p0,q0,hargs,rfl,rfl,h0,r0⟩:=trodAll_cons hA
 obtain⟨rfl,rfl,rfl⟩:=trodAll_nil r0
 obtain rfl:args= #[v0]:=by cases args;simp_all
 obtain⟨rfl,rfl⟩:=trodVars_none hV
 have k0:=h0
 have lt0: ∀x∈p0,x.block<W.heap.size:=by obtain⟨m,hm⟩:=k0;exact DataW.trod_lt m _ _ _ hm
 obtain⟨a0,w0,mv⟩:=afk Tryz.underlying22 Tryz.underlying3 (by kernel_rfl) (hval 0 22 v0 rfl rfl) h0
 clear hA0 hval0
 simp only[List.append_nil]at hW'
 refine(walk v0 a0 W mv (pow_cells hL hsh)).mono fun e W'⟨he,bel⟩=> ?_
 subst he
 exact⟨_,rfl,_,_,_,[],_,[],hW',trodAll_mk1 (shut_bool Tryz.underlying4 _),(trodAll_cons_mk (Below.trod jLaid (by kernel_rfl) (of_decide_eq_true (by kernel_rfl)) k0 bel lt0) trodAll_mk0),rfl,bel.frame _,fun h=>by cases h⟩
end Go.Proofs.YtfkepgkmobgleaaGreatDoor
