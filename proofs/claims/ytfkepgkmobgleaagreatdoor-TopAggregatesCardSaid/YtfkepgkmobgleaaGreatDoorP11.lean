/- Lemmas for TopZ; tactic blocks in binders fill in some arguments. -/
import Derived.Shelf.SlIterI.Collect
import Derived.Shelf.SlGeneric
import Derived.Laws.RangeAny
import Derived.LoopTactic
import Derived.Sort.Row
import Derived.Sort.Grow
import Derived.Shelf.Abstract
import Derived.Shelf.SlSortCmp.WholeK
import Derived.Shelf.SlSortCmp.NoneTotal
import Derived.Shelf.SortG.Plain
import Derived.Shelf.SortG.SortNone
import Derived.Shelf.SlicesG.Cmp
import Derived.Test.YtfkepgkmobgleaaGreatDoorP10
set_option linter.all false
set_option maxRecDepth 1000000
set_option maxHeartbeats 0
namespace Go.Proofs.YtfkepgkmobgleaaGreatDoor
open Go.Sx Tryz
def aeo:Lays.n241 prog lays165_ren:={lays165 with}
open Go.Shelf Go.RowKit
def ajU(b n:Nat)(a:Value)(w:World)(Hi:w.heap[b]?=some (.cells #[a,.slice none 0 0] 241 (0,0)))(hn:n<=281474976710656):Calls prog 236 #[.pointer (some ⟨b,0,none⟩),.int .i64 n] w fun e w'=>e=.returned (.tuple #[])/\∃cs:Array Value,n<=cs.size/\(n<=maxLen->cs.size<=maxLen)/\w'=(((w.setCell ⟨b,1,none⟩ (.slice (some ⟨w.heap.size,0,none⟩) 0 cs.size)).alloc (.cells cs 5)).drew.drew.drew):=by
 obtain⟨cs,a7,hle,d0⟩:=Lib.run_makeNoZero (P:=prog) w.drew #[3] 136 5 underlying136 n hn;have ai:b<w.heap.size:=(iF.1 Hi).1;have hw:IntKind.i64.wrap (IntKind.i64.wrap 0+(n:Int))=n:=by rw[yS,yS];omega
 have ro:(callFunc 294 #[.int .i64 (IntKind.i64.wrap (IntKind.i64.wrap 0+(n:Int)))]).run prog w.drew=.ok (.value (.slice (some ⟨w.drew.heap.size,0,none⟩) n cs.size)) (w.drew.drew.drew.alloc (.cells cs 5)):=by rw[hw,Fo (fn:=f294) (by kernel_rfl) (by kernel_rfl) (by kernel_rfl) (by kernel_rfl) (e:=Extern.BytealgMakeNoZero.makeNoZero #[3] #[136]) (by kernel_rfl),a7];rfl
 have c1:w.drew.cell? ⟨b,1,none⟩=some (.slice none 0 0):=by have:w.drew.heap[b]?=_:=Hi;rw[Lib.cell_of_heap this];rfl
 have c2:(w.alloc (.cells cs 5)).cell? ⟨b,1,none⟩=some (.slice none 0 0):=by have:(w.alloc (.cells cs 5)).heap[b]?=_:=(Lib.alloc_old w _ b ai).trans Hi;rw[Lib.cell_of_heap this];rfl
 have f2:(w.alloc (.cells cs 5)).frozen? ⟨b,1,none⟩=false:=Lib.frozen_of_heap ((Lib.alloc_old w _ b ai).trans Hi) 1;have avG:∀W:World,(Builtin.copy_ #[136,136] 3 #[.slice (some ⟨w.heap.size,0,none⟩) 0 cs.size,.slice none 0 0]).run prog W=.ok (goInt 0) W:=
  fun W=>run_copy_none W 136 136 3 5 _ _ 0 cs.size 0 0 underlying136 (by kernel_rfl) rfl
 clear hw;have mixed:prog.follows .mixedOrders=true:=aeo.mixed;have axr:=en underlying241;have axq:=en underlying239;have axe:=en underlying136;have E5:=en underlying3;have at9:=en underlying5;have t241:=underlying241;have auT:=isAgg241;have axL:=sizeOf241;have axH:=zeroValue241;have t239:=underlying239;have auS:=isAgg239;have axK:=sizeOf239;have axG:=zeroValue239;have t136:=underlying136;have auR:=isAgg136;have axJ:=sizeOf136;have axF:=zeroValue136;have t3:=underlying3;have a3:=isAgg3;have z3:=sizeOf3;have v3:=zeroValue3;have t5:=underlying5;have a5:=isAgg5;have z5:=sizeOf5;have v5:=zeroValue5;go_enter func236,ntmps236;go_wp2;go_region_o;all_goals(go_wp2;go_end0;grind)
def asV{w:World}{u aa}{v}{x}(U:u<w.heap.size):(w.setCell ⟨u,aa,none⟩ v).alloc x=(w.alloc x).setCell ⟨u,aa,none⟩ v:=by unfold World.setCell World.alloc;congr 1;grind
def ajT(l)(ad)(K)(h:Mq l ad K):ji prog 236 l ad K:=by
 unfold Mq at h;split at h;rename_i b n;have⟨E,h⟩:=bL h;have⟨F,h⟩:=bL h;rw[DV]at E F;have E:=cZ E;have F:=cZ F;rw[mV]at h;obtain⟨aT,M,h⟩:=bg h;split at h;rename_i T x;have⟨hT,h⟩:=bL h;have hT:=gS hT;subst hT;obtain⟨H1,bi,lv⟩:=vC h;obtain⟨H',o,ai,hv⟩:=ER bi;have fm:b<ad.view.length:=(ao.1 M).1;refine ji.ts (fn:=f236) (by kernel_rfl) Y rfl o (fun i Q hn=>?_) (by simp_all) fun w X g vs O D=>?_;grind;obtain⟨y,z,rfl,r1,r2⟩:=vH D;obtain⟨u,pT,ak,U,hl,hc⟩:=sV O M;have hy:=Ey ak r1;subst hy;cases r2;have jT:pT.size=2:=by simp at hl;omega
 have c1:pT[1]?=some (.slice none 0 0):=by have:=hc 1 .nils pT[1] rfl (c4 G);rw[c4 G];generalize pT[1]=ag at this;cases this.1;rfl
 have co:pT= #[pT[0],.slice none 0 0]:=by apply FN;intro i;match i with|0=>simp[jT]|1=>rw[c1];rfl|i+2=>simp_all
 have V_:=(iF.1 U).1;obtain⟨k,rfl⟩:=oD (show 0<=n by omega);refine(ajU u k pT[0] w (by rw[U];congr 2) G).mono fun e w'⟨H,cs,hle,d0,hw⟩=>⟨_,H,?_⟩;rw[asV V_]at hw;have⟨be,b_⟩:=O.fresh;have hf:(ad.view++[bK.fresh])[ad.view.length]?=some .fresh:=sM;have d3:=O.len;have hm:=d0 (by unfold maxLen;omega);have p1:=qW (w':=w.alloc (.cells cs 5)) be hf (e:=.row w.heap.size 1 0 cs.size) (b:=.row 5 1 []) rfl rfl rfl rfl (aa:=.cells cs 5) rfl
  ⟨rfl,rfl,cx _,hm,cs,gj.of (su w _),sM,sM⟩
 have lX:=pM (w':=w.alloc (.cells cs 5)) be hf (e:=.row w.heap.size 1 0 cs.size) rfl rfl rfl rfl (aa:=.cells cs 5) rfl;have VD:=b_.trans lX.any;rw[asY,<-lv]at p1;have W8:((g++[ba.fresh]).set ad.view.length (.row w.heap.size 1 0 cs.size))[b]?=some (.fix u):=by rw[List.getElem?_set_ne G,eU G];exact ak
 have hr3:((g++[ba.fresh]).set ad.view.length (.row w.heap.size 1 0 cs.size))[ad.view.length]?=some (.row w.heap.size 1 0 cs.size):=by rw[bu,au rfl,au (by simp[d3])]
 have MZ:(w.alloc (.cells cs 5)).heap[u]?=some (.cells pT 241 (0,0)):=(Lib.alloc_old w _ u V_).trans U;rw[Sf _ u 1 pT 241 (0,0) _ MZ]at hw;have⟨f1,f2,f3,f4,f5⟩:=qE (w:=w.alloc (.cells cs 5)) (u:=u) (cs:=pT.setIfInBounds 1 (.slice (some ⟨w.heap.size,0,none⟩) 0 cs.size));have VE:=(pE W8 rfl f1 f2 f3 f4 f5);have Vv:=pC p1 W8 rfl f1 f2 f3 f4 f5 (b:=.fix 241 [x,.sl ad.view.length]) ⟨_,Kn _ u pT _ 241 (0,0) MZ,by simpa using hl,fun i s ag hs hu=>by match i with|0=>rw[SK G]at hu;have:=hc 0 s ag (by simpa using hs) hu;exact⟨(this.1.step VD (aC _)).step VE (aC _),this.2⟩|1=>simp at hs;subst hs;rw[ad4 G]at hu;simp at hu;subst hu;exact⟨.sl hr3,rfl⟩|i+2=>simp at hs⟩;rw[<-hv]at Vv;have xm:=VD.trans VE.any;rw[hw];exact⟨_,pr,(Vv.heap rfl),⟨xm.os,xm.tape,xm.output,xm.size,xm.frame,xm.gG,xm.g_⟩⟩;cases h;cases h
end Go.Proofs.YtfkepgkmobgleaaGreatDoor
namespace Go.Proofs
open Go.Shelf Tryz Go.Sx Tryz
def apL_ren:Go.Shelf.Ren:=⟨fun|11=>305|n=>n,fun|24=>22|26=>3|28=>347|0=>0|33=>222|4=>4|n=>n,fun|n=>n⟩
def apL:Go.Proofs.SlLaysZI.n11 prog apL_ren where
 mixed:=by kernel_rfl
 f11:=k0 func305
 t0:=underlying0
 a0:=isAgg0
 z0:=sizeOf0
 v0:=zeroValue0
 t24:=underlying22
 a24:=isAgg22
 z24:=sizeOf22
 v24:=zeroValue22
 t26:=underlying3
 a26:=isAgg3
 z26:=sizeOf3
 v26:=zeroValue3
 t28:=underlying347
 a28:=isAgg347
 z28:=sizeOf347
 v28:=zeroValue347
 i26:=by kernel_rfl
def keysA_ren:Go.Shelf.Ren:=⟨fun|10=>341|n=>n,fun|33=>222|23=>251|0=>0|4=>4|26=>3|3=>448|n=>n,fun|n=>n⟩
def keysA:Go.Proofs.SlLaysZI.n10 prog keysA_ren where
 mixed:=by kernel_rfl
 f10:=k0 func341
 t0:=underlying0
 a0:=isAgg0
 z0:=sizeOf0
 v0:=zeroValue0
 t4:=underlying4
 a4:=isAgg4
 z4:=sizeOf4
 v4:=zeroValue4
 t23:=underlying251
 a23:=isAgg251
 z23:=sizeOf251
 v23:=zeroValue251
 t26:=underlying3
 a26:=isAgg3
 z26:=sizeOf3
 v26:=zeroValue3
 t33:=underlying222
 a33:=isAgg222
 z33:=sizeOf222
 v33:=zeroValue222
def keysB_ren:Go.Shelf.Ren:=⟨fun|10=>245|n=>n,fun|33=>222|23=>341|0=>0|4=>4|26=>3|3=>343|n=>n,fun|n=>n⟩
def keysB:Go.Proofs.SlLaysZI.n10 prog keysB_ren where
 mixed:=by kernel_rfl
 f10:=k0 func245
 t0:=underlying0
 a0:=isAgg0
 z0:=sizeOf0
 v0:=zeroValue0
 t4:=underlying4
 a4:=isAgg4
 z4:=sizeOf4
 v4:=zeroValue4
 t23:=underlying341
 a23:=isAgg341
 z23:=sizeOf341
 v23:=zeroValue341
 t26:=underlying3
 a26:=isAgg3
 z26:=sizeOf3
 v26:=zeroValue3
 t33:=underlying222
 a33:=isAgg222
 z33:=sizeOf222
 v33:=zeroValue222
def keysC_ren:Go.Shelf.Ren:=⟨fun|10=>370|n=>n,fun|33=>222|23=>255|0=>0|4=>4|26=>3|3=>451|n=>n,fun|n=>n⟩
def keysC:Go.Proofs.SlLaysZI.n10 prog keysC_ren where
 mixed:=by kernel_rfl
 f10:=k0 func370
 t0:=underlying0
 a0:=isAgg0
 z0:=sizeOf0
 v0:=zeroValue0
 t4:=underlying4
 a4:=isAgg4
 z4:=sizeOf4
 v4:=zeroValue4
 t23:=underlying255
 a23:=isAgg255
 z23:=sizeOf255
 v23:=zeroValue255
 t26:=underlying3
 a26:=isAgg3
 z26:=sizeOf3
 v26:=zeroValue3
 t33:=underlying222
 a33:=isAgg222
 z33:=sizeOf222
 v33:=zeroValue222
def keysD_ren:Go.Shelf.Ren:=⟨fun|10=>446|n=>n,fun|33=>222|23=>41|0=>0|4=>4|26=>3|3=>3|n=>n,fun|n=>n⟩
def keysD:Go.Proofs.SlLaysZI.n10 prog keysD_ren where
 mixed:=by kernel_rfl
 f10:=k0 func446
 t0:=underlying0
 a0:=isAgg0
 z0:=sizeOf0
 v0:=zeroValue0
 t4:=underlying4
 a4:=isAgg4
 z4:=sizeOf4
 v4:=zeroValue4
 t23:=underlying41
 a23:=isAgg41
 z23:=sizeOf41
 v23:=zeroValue41
 t26:=underlying3
 a26:=isAgg3
 z26:=sizeOf3
 v26:=zeroValue3
 t33:=underlying222
 a33:=isAgg222
 z33:=sizeOf222
 v33:=zeroValue222
end Go.Proofs
namespace Go.Proofs.YtfkepgkmobgleaaGreatDoor
open Go.Sx Go.MapKept Go.RowKit Tryz
def Gc:Value->Option (DataW Unit×List MemPlace):=fun _=>some (.lit (.bool true),[])
def ao2{w:World}{u c}(U:w.heap[u]?=some (.map #[] c)):∃bY,w.ownsMap prog 3 Gc u 0 bY/\intKeys bY=[]/\Maps.size bY<=1:=
 ⟨_,⟨#[],c,U,⟨sM,⟨sM,sM,sM⟩,sM⟩,sM,rfl⟩,rfl,by simp[Maps.size]⟩
def ao3{w:World}{u c}{k}{m}(U:w.heap[u]?=some (.map #[m] c))(o:m.key=.int .i64 k)(E: -9223372036854775808<=k)(F:k<=9223372036854775807)(M:m.born<c):∃bY,w.ownsMap prog 3 Gc u 1 bY/\intKeys bY=[k]/\Maps.size bY<=1:=by
 have iX:(Lit.int .i64 k).wf=true:=by simp only[Lit.wf,bs,bR];exact⟨E,F⟩
 have s_:Go.keyOf prog 3 m.key=some (.int .i64 k):=by rw[o];exact Maps.keyOf_int_mk underlying3 iX
 refine⟨_,⟨#[m],c,U,⟨by simp[maxLen],⟨by simpa using M,sM,sM⟩,fun x hx=>?_⟩,sM,rfl⟩,?_⟩;simp at hx;subst hx;exact⟨_,by unfold WideElems.rd;rw[s_];rfl⟩;have:WideElems.rg prog 3 Gc m=(.int .i64 k,.lit (.bool true)):=by unfold WideElems.rg WideElems.rd;rw[s_];rfl
 simp[this];exact⟨rfl,aC 1⟩
def aaU{f}{wf}(LK:SlLaysZI.n10 prog wf)(hf:wf.f 10=f)(ht:wf.t 26=3){w}{g0 u n}{bY}(hB:g0<w.heap.size) (hm:w.cell? ⟨g0,0,none⟩=some (.map (some u)))(br:w.ownsMap prog 3 Gc u n bY)(hn:Maps.size bY<=1):Calls prog 305 #[.slice none 0 0,.func (.func f) #[] #[.pointer (some ⟨g0,0,none⟩)]] w fun e w'=>∃v ss,e=.returned v/\ss.Perm (intKeys bY)/\w'.ownsRow w.heap.size 3 1 v ss.length (ss.map encZ)/\(v=.slice none 0 0↔ss=[])/\Below w.heap.size w w':=by have U:=AnyZI.keys_gives LK Fence.wide 2 trivial rfl G g0 u n bY w hB hm (by rw[ht];exact br);have:=AnyZI.appendSeq_in apL Fence.wide 3 trivial rfl G (wf.f 10) #[.pointer (some ⟨g0,0,none⟩)] trivial (LK.f10.enters rfl) _ (Maps.size bY) (by unfold maxLen;omega) G w U;have:=callsIn_wide.1 this;rw[hf]at this;exact this
def aoc{w w'}{X}{g}{h}(O:Inv w X g h)(hB:Below w.heap.size w w'){e}{u}(H:∀k,e.owns k->k=u)(hk:w.heap.size<=u)(ai:u<w'.heap.size){aT} (M:Step g.length w g w' (g++[e])->aB w' (Ex X (g++[e])) (g++[e]) aT e):Inv w' X (g++[e]) (h++[aT])/\Step g.length w g w' (g++[e]):=by
 have ah:∀i e',(g++[e])[i]?=some e'->g[i]?=some e'\/(i=g.length/\e'=e):=fun i e' E=>by grind
 have hS:Step g.length w g w' (g++[e]):=⟨hB.os,hB.tape,hB.output,hB.size,fun k o _=>hB.block k o,fun k⟨i,e',E,F⟩o=>by rcases ah i e' E with h|⟨_,rfl⟩;exact⟨i,e',h,F⟩;grind,fun i e' Q E _=>.inl (by grind)⟩;refine⟨⟨by simp[O.len],fun i b' e' E F=>?_,fun i e' k E F=>?_,fun i j e1 e2 k E F g1 g2=>?_,fun k hx I=>?_,fun k hx=>fj (O.df k hx) hB.size⟩,hS⟩;rcases ah i e' F with a2|⟨Q,rfl⟩;have cj:i<h.length:=by rw[<-O.len];exact(ao.1 a2).1
 rw[eU cj]at E;exact(O.ok i b' e' E a2).step hS (aC _) fun k o=>hB.block k (O.lt i e' k a2 o);rw[Q,O.len]at E;simp_all;rcases ah i e' E with h|⟨_,rfl⟩;exact fj (O.lt i e' k h F) hB.size;grind;rcases ah i e1 E with a1|⟨rfl,rfl⟩<;>rcases ah j e2 F with a2|⟨rfl,rfl⟩;exact O.inj i j e1 e2 k a1 a2 g1 g2;have:=O.lt i e1 k a1 g1;grind;have:=O.lt j e2 k a2 g2;grind;rfl;have⟨i,e',E,F⟩:=I;rcases ah i e' E with h|⟨_,rfl⟩;exact O.cU k hx ⟨i,e',h,F⟩;have F:=H _ F;have:=O.df k hx;omega
def JC{f}{wf}(LK:SlLaysZI.n10 prog wf)(hf:wf.f 10=f)(ht:wf.t 26=3){fb b c}{T:TypeId}{p}{es}{ad}{K} (h0:ad.view[fb]?=some (.fix T [.mp b]))(M:ad.view[b]?=some (fF p es c))(h:keyOf es c ad K):ji prog 305 [.nils,.fn f [.ptr fb 0]] ad K:=by
 have base:∀w X g vs,Inv w X g ad.view->b5 w (Ex X g) g [.nils,.fn f [.ptr fb 0]] vs->
  ∃g0 u ms,vs=[.slice none 0 0,.func (.func f) #[] #[.pointer (some ⟨g0,0,none⟩)]]/\g0<w.heap.size/\w.cell? ⟨g0,0,none⟩=some (.map (some u))/\w.heap[u]?=some (.map ms c)/\iI w (Ex X g) g es ms:=fun w X g vs O D=>by
  obtain⟨x,y,ql,r1,r2⟩:=vH D
  obtain⟨g0,cs,ak,U,hl,hc⟩:=sV O h0
  obtain⟨u,ms,awW,oU,hM,_⟩:=ly O M
  refine⟨g0,u,ms,?_,(iF.1 U).1,?_,oU,hM⟩
  ·cases r1
   cases r2 with
   | @fn _ _ _ Bk d3 g7=>
    have:Bk= #[.pointer (some ⟨g0,0,none⟩)]:=by
     apply FN
     intro i
     match i with
     |0=>
      have E:0<Bk.size:=by rw[<-d3];simp
      rw[c4 E]
      have:=Ey ak (g7 0 _ _ rfl (c4 E))
      rw[this];rfl
     |i+1=>simp_all
    rw[ql,this]
  ·have E:0<cs.size:=by rw[<-hl];simp
   have:=(hc 0 _ _ rfl (c4 E)).1
   simp only[World.cell?,U]
   show cs[0]?=_
   rw[c4 E]
   generalize cs[0]=ag at this
   cases this<;>simp_all
 have alt:∀{w w' X g},Inv w X g ad.view->Below w.heap.size w w'->Inv w' X g ad.view/\Step g.length w g w' g:=fun O hB=>G5 O hB.os hB.tape hB.output hB.size fun u U=>hB.block u U;unfold keyOf at h;split at h;refine ji.ts (fn:=f305) (by kernel_rfl) Y rfl h (oH.refl _ _) (aC _) fun w X g vs O D=>?_;obtain⟨g0,u,ms,ql,E,F,h3,hM⟩:=base w X g vs O D;have Ny:=Fp (by have:=hM.1;simpa using this.symm);subst Ny;obtain⟨bY,I,o,hz⟩:=ao2 h3;rw[ql];refine(aaU LK hf ht E F I hz).mono fun e w'⟨v,ss,H,hp,_,o6,hB⟩=>⟨v,H,g,?_⟩;rw[o]at hp;have hv:=o6.2 hp.eq_nil;have:=alt O hB;rw[hv];exact⟨.nils,this.1,this.2⟩;rename_i k x st;obtain⟨c1,h⟩:=bL h;obtain⟨c2,h⟩:=bL h;obtain⟨c3,h⟩:=bL h;rw[Sx.DV]at c1 c2;have c1:=cZ c1;have c2:=cZ c2;have c3:=nw c3;obtain⟨H1,bi,lv⟩:=vC h;refine ji.ts (fn:=f305) (by kernel_rfl) Y rfl bi (fun i Q _=>by grind) (by rw[lv];simp) fun w X g vs O D=>?_;obtain⟨g0,u,ms,ql,E,F,h3,hM⟩:=base w X g vs O D;have dY:ms.size=1:=by have:=hM.1;simpa using this.symm
 obtain⟨m,rfl⟩:∃m,ms= #[m]:=⟨ms[0],by grind⟩;obtain⟨m1,_,OZ⟩:=hM.2 0 _ m rfl rfl;have l6:m.key=.int .i64 k:=by generalize m.key=ag at m1;cases m1;rfl
 obtain⟨bY,I,o,hz⟩:=ao3 h3 l6 c1 c2 (by rw[OZ];exact c3);rw[ql];refine(aaU LK hf ht E F I hz).mono fun e w'⟨v,ss,H,hp,cN,o6,hB⟩=>⟨v,H,?_⟩;rw[o]at hp;have qi:=List.perm_singleton.1 hp;subst qi;obtain⟨_,cN⟩:=cN;rcases cN with⟨m2,_⟩|⟨g',cap,cur,m2,hk,CY,cR,d0,iW,NZ⟩;grind;subst m2;have:=aoc O hB (e:=.row g' 1 1 cap) (u:=g') (fun _ h=>Eq.symm h) hk (iF.1 CY).1 (aT:=.row 3 1 [[.int .i64 k]]) fun hS=>by
  refine⟨rfl,rfl,cR,d0,cur,gj.of CY,G,fun i e H=>?_⟩;match i with
  |0=>
   simp at H;subst H;refine⟨rfl,fun j s hs=>?_⟩;match j with
   |0=>
    simp at hs;subst hs;have h5:cur.toList[0]?=some (.int .i64 k):=by
     have:(cur.toList.take (1*1))[0]?=some (encZ k):=by have:=NZ;simp only[pI,v8,mI,Kp]at this;rw[this];rfl
     rw[je]at this;simpa[encZ]using this
    rw[eF]at h5;exact⟨_,by simpa using h5,.int,rfl⟩
   |j+1=>simp at hs
  |i+1=>simp at H
 rw[lv];refine⟨_,?_,this.1,this.2⟩;refine .sl (sz:=1) (n:=1) (cap:=cap) ?_;rw[<-O.len];simp;cases h
def asT(l)(ad)(K)(h:QA l ad K):ji prog 305 l ad K:=by
 unfold QA at h;split at h;rename_i f fb;rcases gk h with⟨hm,h⟩|⟨_,h⟩;rw[mV]at h;have⟨aT,M,h⟩:=bg h;split at h;rename_i T b;have⟨m,ki,h⟩:=bg h;have dd:=Pb _ hm;simp only[gE,v7,iE]at dd;have fin:∀{p es c},ad.view[b]?=some (fF p es c)->keyOf es c ad K->ji prog 305 [.nils,.fn f [.ptr fb 0]] ad K:=fun ki o=>by rcases dd with rfl|rfl|rfl|rfl;exact JC keysA (by rfl) Y M ki o;exact JC keysB (by rfl) Y M ki o;exact JC keysC (by rfl) Y M ki o;exact JC keysD (by rfl) Y M ki o
 split at h;exact fin (p:=false) ki h;exact fin (p:=true) ki h;cases h;cases h;cases h;cases h
end Go.Proofs.YtfkepgkmobgleaaGreatDoor
namespace Go.Sx
def Tv{β:Type}{f}{x}:∀{l:List (Nat×β)},nJ f l=some x->(f,x)∈l:=by intro l;induction l with|nil=>intro h;simp[nJ]at h|cons p l ih=>intro h;have h:Bool.rec (motive:=fun _=>Option β) (nJ f l) (some p.2) (Nat.beq p.1 f)=some x:=h;cases M:Nat.beq p.1 f with|true=>rw[M]at h;have:=gS M;grind|false=>simp_all
end Go.Sx
namespace Go.Proofs.YtfkepgkmobgleaaGreatDoor
open Go.Sx Tryz
def abM{l}(h:l≠[]):(Instr.least l).isSome=true:=by cases l with|nil=>simp_all|cons x l=>first|rfl|(unfold Instr.least;simp)
def auz(p:String->Bool)(f:String->String)(missing)(x)(am:x∈missing):(match List.partition p missing with|(Rb,ex)=>(Instr.least ex<|>Instr.least (List.map f Rb))).isNone=false:=by
 rw[ad5];simp only;by_cases hc:p x=true;have E:=Ko (oE.2 ⟨am,hc⟩);cases F:Instr.least (List.filter (not∘p) missing)with
 |some y=>rfl
 |none=>
  have h3:((List.filter p missing).map f)≠[]:=by simpa using E
  have h4:=abM h3;simp_all
 have E:List.filter (not∘p) missing≠[]:=Ko (oE.2 ⟨am,by simpa using hc⟩);have h4:=abM E;revert h4;cases Instr.least (List.filter (not∘p) missing)<;>simp
def auy{want}{p0}{e}(H:e∈want.toList)(hn:(p0.any fun m=>m.name==e.1&&m.sig==e.2)=false):(Instr.missingMethod want p0).isNone=false:=by
 unfold Instr.missingMethod;simp only;generalize hm:(List.map (fun x=>x.fst) (List.filter (fun x=>match x with|(name,sig)=> !p0.any fun m=>m.name==name&&m.sig==sig) want.toList))=missing;have am:e.1∈missing:=by exact ac2
 exact auz _ _ missing e.1 am
def abL(P:Program)(e:TypeId×TypeId×Bool):Bool:=match P.underlying e.1,P.info? e.2.1 with
 |some (.interface ms),some i=>match e.2.2 with|true=>ms.toList.all fun x=>i.methods.any fun m=>m.name==x.1&&m.sig==x.2|false=>ms.toList.any fun x=> !(i.methods.any fun m=>m.name==x.1&&m.sig==x.2)
 |_,_=>false
def amg:Oz.all (abL prog)=true:=by kernel_rfl
def auw{want}{p0}(h:(want.toList.all fun x=>p0.any fun m=>m.name==x.1&&m.sig==x.2)=true):(Instr.missingMethod want p0).isNone=true:=by
 unfold Instr.missingMethod;have:List.filter (fun x=>match x with|(name,sig)=> !p0.any fun m=>m.name==name&&m.sig==sig) want.toList=[]:=by rw[Sh];intro x hx;have:=ir.1 h x hx;have⟨a,b⟩:=x;simp only at this⊢;rw[this];simp
 simp only[this];rfl
def amh:S1 prog Oz:=by
 intro e H;have h:=ir.1 amg e H;unfold abL at h;split at h;rename_i ms i E F;refine⟨ms,i,E,F,?_⟩;obtain⟨t,ag,b⟩:=e;cases b with|true=>exact auw h|false=>have⟨x,hx,hn⟩:=sv.1 h;exact auy hx (by simpa using hn)
 simp_all
def GJ:ka prog pX where
 tab:=aj
 ft:=ajs
 mt:=anO
 mixed:=by kernel_rfl
 it:=amh
 ps:=fun f sp h=>by
  have:=Tv h
  simp only[pX,ZV,gE,v7,iE,yT]at this
  rcases this with⟨rfl,rfl⟩|⟨rfl,rfl⟩|⟨rfl,rfl⟩
  ·exact ahl
  ·exact H_
  ·exact asD
 hs:=fun f sp h=>by
  have:=Tv h
  simp only[pX,WV,gE,v7,iE,yT]at this
  rcases this with⟨rfl,rfl⟩|⟨rfl,rfl⟩|⟨rfl,rfl⟩|⟨rfl,rfl⟩|⟨rfl,rfl⟩
  ·exact agU
  ·exact asT
  ·exact agF
  ·exact ajT
  ·exact ajd
noncomputable def AU:List SV:=Go.Lib.pow10Tab.map fun z=>SV.int .u64 z
noncomputable def Vc:HW:=⟨1,⟨⟨⟨.glob 2 443 AU,.dead,.dead,.dead,.dead,.dead,.dead,.dead,.dead,.dead,.dead,.dead,.dead,.dead,.dead,.dead⟩,aO.cK .dead,aO.cK .dead,aO.cK .dead,aO.cK .dead,aO.cK .dead,aO.cK .dead,aO.cK .dead,aO.cK .dead,aO.cK .dead,aO.cK .dead,aO.cK .dead,aO.cK .dead,aO.cK .dead,aO.cK .dead,aO.cK .dead⟩,aO.cK (aO.cK .dead),aO.cK (aO.cK .dead),aO.cK (aO.cK .dead),aO.cK (aO.cK .dead),aO.cK (aO.cK .dead),aO.cK (aO.cK .dead),aO.cK (aO.cK .dead),aO.cK (aO.cK .dead),aO.cK (aO.cK .dead),aO.cK (aO.cK .dead),aO.cK (aO.cK .dead),aO.cK (aO.cK .dead),aO.cK (aO.cK .dead),aO.cK (aO.cK .dead),aO.cK (aO.cK .dead)⟩⟩
def ajw:Vc.view=[.glob 2 443 AU]:=by kernel_rfl
def apH:Ef AU=true:=by kernel_rfl
abbrev lQ:HW:=⟨0,rh⟩
def fuel:Nat:=100000
noncomputable abbrev run(aH:Env):kH:=EL prog aH fuel
def asG:oP prog pX (run pX) 12 [] Vc (ya .tt)=True:=by kernel_rfl
end Go.Proofs.YtfkepgkmobgleaaGreatDoor
namespace Go.Air
open Go.Sx
abbrev W(n:Int):Int:=IntKind.i64.wrap n
def BX{n}(h0: -9223372036854775808<=n)(E:n<=9223372036854775807):W n=n:=Ro (by simp[IntKind.min,IntKind.bits,IntKind.signed];omega) (by simp_all)
def n9(n:Int):SV:=.int .i64 n
def aoU{t:TypeId}{z k k'}{es aS}{b}(o:k=k')(H:es=aS):a6 1 (.ss 0 0 k) [.row t z es,b] (fun s I=>s=.ss 0 0 k'/\I=[.row t z aS]):=by subst o;subst H;refine a6.of [some 0] _ _ Y ⟨rfl,rfl⟩ ?_;show 0=0/\k=k/\bd t t (bd z z (es=es/\True));exact⟨rfl,rfl,kM rfl (kM rfl ⟨rfl,trivial⟩)⟩
def ahE(i:Nat)(e0)(t):sh (0+((0:Nat):Int).toNat) (((i:Int)-((0:Nat):Int)).toNat) (e0::t)=false:=by unfold sh;generalize Nat.beq _ 0=x;cases x<;>rfl
def ahC(e0 z)(t)(i:Nat)(Q:(i:Int)<((t.length+1:Nat):Int))(ab aZ C:List (List SV))(k r)(hA:ab=List.take (0+((0:Nat):Int).toNat+((i:Int)-((0:Nat):Int)).toNat) (e0::t)) (hB:aZ=List.drop (0+((i:Int)+1).toNat) (List.take (0+((i:Int)+1).toNat+(((e0::t).length:Int)-((i:Int)+1)).toNat) (e0::t)))(xi:C=List.drop (0+((0:Nat):Int).toNat+((i:Int)-((0:Nat):Int)).toNat+aZ.length) (e0::t)) (o:k=0+((0:Nat):Int).toNat+((((i:Int)-((0:Nat):Int)).toNat+aZ.length:Nat):Int).toNat)(D:r=(((e0::t).length:Int)-((((i:Int)-((0:Nat):Int)).toNat+aZ.length:Nat):Int)).toNat):List.take k (ab++(aZ++C))++(List.replicate r z++List.drop (k+r) (ab++(aZ++C)))=(e0::t).eraseIdx i++[z]:=by
 have F:((i:Int)+1).toNat=i+1:=by omega
 have h3:((i:Int)-((0:Nat):Int)).toNat=i:=by omega
 have h4:(((e0::t).length:Int)-((i:Int)+1)).toNat=(e0::t).length-(i+1):=sO;have h0:((0:Nat):Int).toNat=0:=rfl;rw[j9 (l:=e0::t) sO]at hB;have XA:ab.length=i:=by subst hA;simp;omega
 have Ar:aZ.length=t.length-i:=by subst hB;simp
 have XB:C.length=1:=by subst xi;rw[Fu,Ar];simp;omega
 have l7:r=1:=by subst D;rw[Ar];simp;omega
 have e1:List.take k (ab++(aZ++C))=ab++aZ:=by rw[<-sw,Fv (by simp_all),j9 (by grind)]
 have e2:List.drop (k+r) (ab++(aZ++C))=[]:=List.drop_eq_nil_of_le (by grind);grind
def Uj{α:Type}(f:α->List SV)(l:List α){i}(Q:i<l.length){z}:((l.map f).eraseIdx i++[z]).take ((l.map f).length-1)=(l.eraseIdx i).map f:=by
 have e:(l.map f).eraseIdx i=(l.eraseIdx i).map f:=by rw[v_,v_,dx,wa,Sd]
 grind
def ahB{α:Type}(l:List α)(i)(z):l.length-1<=(l.eraseIdx i++[z]).length:=by grind
def idxOf{α:Type}(p:α->Bool)(l:List α):Int:=if l.any p then(l.findIdx p:Int)else -1
def lK{α:Type}(p:α->Bool)(l:List α)(i:Nat):Prop:=∀j,j<i->∀x,l[j]?=some x->p x=false
def lK.step{α:Type}{p}{l}{i}{x:α}(h:lK p l i)(hx:l[i]?=some x)(hp:p x=false):lK p l (i+1):=fun j hj y hy=>by rcases Nat.lt_succ_iff_lt_or_eq.1 hj with E|E;exact h j E y hy;simp_all
def Ah{α:Type}{p}{l}{i}{x:α}(h:lK p l i)(hx:l[i]?=some x)(hp:p x=true):idxOf p l=i:=by have Q:=(ao.1 hx);unfold idxOf;rw[au (sv.2 ⟨x,bN hx,hp⟩)];congr 1;refine(List.findIdx_eq Q.1).2 ⟨by grind,fun j hj=>?_⟩;have cj:=Q.1;exact h j hj _ (aD (show j<l.length by omega))
def Ai{α:Type}{p}{l:List α}{i}(h:lK p l i)(Q:l.length<=i):idxOf p l= -1:=by unfold idxOf;rw[ay];intro ha;obtain⟨x,hx,hp⟩:=sv.1 ha;obtain⟨j,hj⟩:=fx.1 hx;have:=(ao.1 hj).1;rw[h j G x hj]at hp;simp at hp
def Ag{α:Type}(p:α->Bool)(l):(idxOf p l= -1/\l.filter (fun a=> !p a)=l)\/ ∃(i:Nat)(x:α),idxOf p l=(i:Int)/\lK p l i/\l[i]?=some x/\p x=true:=by by_cases h:l.any p=true;obtain⟨y,hy,hp⟩:=sv.1 h;have ai:=ad7 ⟨y,hy,hp⟩;refine .inr ⟨l.findIdx p,_,by unfold idxOf;rw[au h],fun j hj x hx=>?_,aD ai,List.findIdx_getElem⟩<;>grind;refine .inl ⟨by unfold idxOf;rw[ay h],Kw.2 fun a ha=>?_⟩;simp_all
structure lJ{α:Type}(fe:α->Bool)(l es:List α)(i j:Nat):Prop where
 len:es.length=l.length
 lt:i<j
 le:j<=l.length
 pre:es.take i=(l.take j).filter fe
 post:es.drop j=l.drop j
def tW{α:Type}{l:List α}{i}{x}(h:l[i]?=some x):l.take (i+1)=l.take i++[x]:=by rw[Ks,h];rfl
def lJ.init{α:Type}{fe}{l}{i}{x:α}(h:lK (fun a=> !fe a) l i)(hx:l[i]?=some x)(o:fe x=false):lJ fe l l i (i+1):=by
 refine⟨rfl,G,(ao.1 hx).1,?_,rfl⟩;rw[tW hx,yO];have E:(l.take i).filter fe=l.take i:=Kw.2 fun a ha=>by obtain⟨j,hj⟩:=fx.1 ha;rw[je]at hj;split at hj;have:=h j ‹_› a hj;simpa using this;simp at hj
 grind
def lJ.at{α:Type}{fe}{l es}{i j}{x:α}(h:lJ fe l es i j)(hx:es[j]?=some x):l[j]?=some x:=by have:=fU (fun q=>q[0]?) h.post;simp_all
def lJ.skip{α:Type}{fe}{l es}{i j}{x:α}(h:lJ fe l es i j)(hx:es[j]?=some x)(o:fe x=false):lJ fe l es i (j+1):=by have hl:=h.at hx;have hj:=(ao.1 hl).1;refine⟨h.len,by have:=h.lt;omega,hj,?_,?_⟩;rw[h.pre,tW hl,yO];simp[o];have:=fU (List.drop 1) h.post;simp_all
def lJ.fe{α:Type}{fe}{l es}{i j}{x:α}(h:lJ fe l es i j)(hx:es[j]?=some x)(o:fe x=true):lJ fe l (es.set i x) (i+1) (j+1):=by have hl:=h.at hx;have hj:=(ao.1 hl).1;have lp:=h.lt;have hlen:=h.len;refine⟨by simpa using h.len,G,hj,?_,?_⟩;rw[tW (x:=x) (by grind),List.take_set,tW hl,yO,<-h.pre];rw[List.set_eq_of_length_le sO];simp[o];rw[List.drop_set_of_lt G];have:=fU (List.drop 1) h.post;simp_all
def lJ.done{α:Type}{fe}{l es:List α}{i j}(h:lJ fe l es i j)(hj:l.length<=j):es.take i=l.filter fe:=by rw[h.pre,j9 hj]
def Up{α:Type}{f}{fe}{l es:List α}{i j k}{R:List (List SV)}(h:lJ fe l es i j)(hj:l.length<=j)(Q:i<=l.length)(o:k=i):((es.map f).take k++R).take k=(l.filter fe).map f:=by subst o;have:=h.len;rw[Fv sO,List.take_take,Nat.min_self,<-wa,h.done hj]
def Un{α:Type}{f}{l es:List α}{k}{R:List (List SV)}(h:es.length=l.length)(Q:k<=l.length):k<=((es.map f).take k++R).length:=by simp;omega
def Uo{ab bY}{z:List SV}{r}(h:0<r):ab++(List.replicate r z++bY)≠[]:=by cases r<;>simp_all
def aoW{t ag:TypeId}{z k}{x}{es}{R}(hR:R (.ss 0 0 k) [.row t z es,.fix ag [.int .i64 x]]):a6 2 (.ss 0 0 k) [.row t z es,.fix ag [.int .i64 x]] R:=by refine a6.of gB _ _ Y hR ?_;show 0=0/\k=k/\bd t t (bd z z (es=es/\bd ag ag (x=x/\True)));exact⟨rfl,rfl,kM rfl (kM rfl ⟨rfl,kM rfl ⟨rfl,trivial⟩⟩)⟩
def GS{n b}(hn:n<=1000000)(M:b<=1000):n+1<=4611686018427387903/\(n+1)*b<=140737488355328:=
 ⟨G,dF (Nat.mul_le_mul (show n+1<=1000001 by omega) M) dC⟩
def aoX{t ag v:TypeId}{z k}{a b c}{es GM}{R}(hR:R (.ss 0 0 k) [.row t z es,.fix ag [.ptr 2 0],.fix v [.int .i64 a,.int .i64 b,.int .i64 c,.sl 3],.row t z GM]):a6 4 (.ss 0 0 k) [.row t z es,.fix ag [.ptr 2 0],.fix v [.int .i64 a,.int .i64 b,.int .i64 c,.sl 3],.row t z GM] R:=by refine a6.of jx _ _ Y hR ?_;show 0=0/\k=k/\bd t t (bd z z (es=es/\bd ag ag (bd v v (a=a/\b=b/\c=c/\bd t t (bd z z (GM=GM/\True))))));exact⟨rfl,rfl,kM rfl (kM rfl ⟨rfl,kM rfl (kM rfl ⟨rfl,rfl,rfl,kM rfl (kM rfl ⟨rfl,trivial⟩)⟩)⟩)⟩
structure Pk where
 id:Int
 aR:Int
 len:Int
 arr:Int
 wZ:Int
 deriving Inhabited,DecidableEq
def Pk.cells(p:Pk):List SV:=[.int .i64 p.id,.int .i64 p.aR,.int .i64 p.len,.int .i64 p.arr,.int .i64 p.wZ]
def LF(l)(p):l.map Pk.cells++[[.int .i64 p.id,.int .i64 p.aR,.int .i64 p.len,.int .i64 p.arr,.int .i64 p.wZ]]=(l++[p]).map Pk.cells:=by simp[Pk.cells]
def PX:Pk:=⟨0,0,0,0,0⟩
def pj(p:Pk):Bool:=decide (1<=p.id/\0<=p.aR/\p.aR<32/\1<=p.len/\p.len<=4096/\0<=p.arr/\p.arr<=16384/\(p.wZ= -1\/p.arr<=p.wZ/\p.wZ<=81919))
structure Qu where
 most:Int
 mostB:Int
 pk:List Pk
 bytes:Int
 deriving Inhabited
def pQ(a b:Int):Bool:=decide (1<=a/\a<=64/\1<=b/\b<=262144)
def lC(q:Qu)(p:Pk):Int×Qu:=
 if pj p=false then(1,q)else if q.most<=q.pk.length\/q.mostB<W (q.bytes+p.len)then(4,q)else(0,{q with pk:=q.pk++[p],bytes:=W (q.bytes+p.len)})
def r_(q:Qu):Pk×Int×Qu:=match q.pk with|[]=>(PX,5,q)|p::l=>(p,0,{q with pk:=l,bytes:=W (q.bytes-p.len)})
def hr(p:Pk)(slot:Int):Bool:=decide (p.wZ≠ -1/\p.wZ<slot)
def fG(q:Qu)(slot:Int):List Pk×Qu:=(q.pk.filter fun p=>hr p slot,{q with pk:=q.pk.filter fun p=> !hr p slot,bytes:=(q.pk.filter fun p=>hr p slot).foldl (fun b p=>W (b-p.len)) q.bytes})
def sT(l:List Pk)(s:Int)(i:Nat)(b:Int):Int:=((l.take i).filter fun p=>hr p s).foldl (fun b p=>W (b-p.len)) b
def ada{ab:Prop}(k:ab:=by rw[tW hx,yO];simp[h]):ab:=k
def US{l:List Pk}{i}{x}{s}(hx:l[i]?=some x)(h:hr x s=true):(l.take (i+1)).filter (hr · s)=(l.take i).filter (hr · s)++[x]:=by exact ada
def UR{l:List Pk}{i}{x}{s}(hx:l[i]?=some x)(h:hr x s=false):(l.take (i+1)).filter (hr · s)=(l.take i).filter (hr · s):=by exact ada
def aiO{l}{i}{x}{s b}(hx:l[i]?=some x)(h:hr x s=true):sT l s (i+1) b=W (sT l s i b-x.len):=by unfold sT;rw[US hx h,List.foldl_append];rfl
def aiN{l}{i}{x}{s b}(hx:l[i]?=some x)(h:hr x s=false):sT l s (i+1) b=sT l s i b:=by unfold sT;rw[UR hx h]
def r9(q:Qu)(a b:Int):Int×Qu:=if pQ a b=false then(1,q)else(0,{q with most:=a,mostB:=b})
def EO(n:Int):Bool:=decide (0<=n/\n<65536)
def bI(a b:Int):Int:=if a<=b then b-a else b-a+65536
def small(n:Int):Prop:=0<=n/\n<30000
def ah0{a b}(ha:small a)(M:small b):(b-a+65536).tmod 65536=bI a b:=by unfold small at*;unfold bI;grind
def aw4{a}(ha:small a):(a+1+65536).tmod 65536=a+1:=by unfold small at*;grind
def LX{a b}(ha:small a)(M:small b):0<=bI a b:=by unfold small at*;unfold bI;split<;>omega
def Q9{n:Nat}(h:n<18446744073709551616):IntKind.u64.wrap (n:Int)=n:=Ro (by simp[IntKind.min,IntKind.signed]) (by simp[IntKind.max,IntKind.bits,IntKind.signed];omega)
def ZM(d):(2:Int)^d=((2 ^d:Nat):Int):=sM
def aj2(k d:Nat)(o:k<18446744073709551616)(hd:d<64):(IntKind.u64.wrap ((BitVec.ofInt IntKind.u64.bits ((k:Int).fdiv (2 ^min d IntKind.u64.bits))&&&BitVec.ofInt IntKind.u64.bits 1).toNat:Int)=1)↔k.testBit d=true:=by
 have M:IntKind.u64.bits=64:=rfl;have E:(k:Int).fdiv (2 ^min d IntKind.u64.bits)=((k/2 ^d:Nat):Int):=by rw[M,Kx G,ZM,Int.fdiv_eq_ediv_of_nonneg _ (Int.natCast_nonneg _)];rfl
 have F:(BitVec.ofInt IntKind.u64.bits ((k/2 ^d:Nat):Int)&&&BitVec.ofInt IntKind.u64.bits 1).toNat=(k/2 ^d)% 2:=by
  rw[BitVec.toNat_and];have e1:(BitVec.ofInt IntKind.u64.bits ((k/2 ^d:Nat):Int)).toNat=k/2 ^d:=by rw[BitVec.ofInt_natCast,BitVec.toNat_ofNat,M];exact Fq (Nat.lt_of_le_of_lt (Nat.div_le_self _ _) o)
  have e2:(BitVec.ofInt IntKind.u64.bits 1).toNat=1:=dC;rw[e1,e2,Nat.and_one_is_mod]
 have h3:k/2 ^d % 2<2:=BG _ dC;rw[E,F,Q9 (Nat.lt_trans h3 dC),Nat.testBit_eq_decide_div_mod_eq,decide_eq_true_iff];omega
def aj3{k:Nat}{x:Int}(o:k<18446744073709551616)(h0:0<=x)(hd:x<64):SV.bool (decide (IntKind.u64.wrap ((BitVec.ofInt IntKind.u64.bits ((k:Int).fdiv (2 ^min x.toNat IntKind.u64.bits))&&&BitVec.ofInt IntKind.u64.bits 1).toNat:Int)=1))=SV.bool (decide (x<64)&&k.testBit x.toNat):=by refine fU SV.bool (Fz.2 ?_);rw[decide_eq_true_iff,aj2 _ _ o G];simp[hd]
def as1(k d:Nat)(o:k<18446744073709551616)(hd:d<64):IntKind.u64.wrap ((BitVec.ofInt IntKind.u64.bits (k:Int)|||BitVec.ofInt IntKind.u64.bits (IntKind.u64.wrap (1*2 ^min d IntKind.u64.bits))).toNat:Int)=((k|||2 ^d:Nat):Int):=by
 have M:IntKind.u64.bits=64:=rfl;have hp:=Sn (a:=2) dC hd;have E:IntKind.u64.wrap (1*2 ^min d IntKind.u64.bits)=((2 ^d:Nat):Int):=by rw[M,Kx G,ZM,Int.one_mul];exact Q9 hp
 have e1:∀n:Nat,n<18446744073709551616->(BitVec.ofInt IntKind.u64.bits (n:Int)).toNat=n:=fun n hn=>by simp_all
 rw[E,BitVec.toNat_or,e1 _ o,e1 _ hp];exact Q9 (Sp (n:=64) o hp)
structure Se where
 seq:Int
 id:Int
 tries:Int
 deriving Inhabited,DecidableEq
def Se.cells(p:Se):List SV:=[.int .i64 p.seq,.int .i64 p.id,.int .i64 p.tries]
structure b7 where
 bn:Int
 tries:Int
 next:Int
 pend:List Se
 deriving Inhabited
def b7.base(s:b7):Int:=(s.pend.map Se.seq).headD s.next
def b7.Aq(s:b7):Bool:=decide (bI s.base s.next<s.bn)
structure hY(s:b7):Prop where
 bn:1<=s.bn/\s.bn<=64
 tries:1<=s.tries/\s.tries<=16
 next:small s.next
 len:s.pend.length<=1000
 aaV:∀p∈s.pend,small p.seq
 vR:∀p∈s.pend,0<=p.tries/\p.tries<=s.tries
def hY.base{s}(h:hY s):small s.base:=by unfold b7.base;cases hp:s.pend with|nil=>exact h.next|cons p l=>exact h.aaV p (by rw[hp];simp)
def jA(s:b7)(id:Int):Int×Int×b7:=if id<1 then(0,1,s)else if s.Aq=false then(0,4,s)else(s.next,0,{s with pend:=s.pend++[⟨s.next,id,0⟩],next:=s.next+1})
def b7.find(s:b7)(q:Int):Int:=idxOf (fun p:Se=>decide (p.seq=q)) s.pend
def mA(s:b7)(q:Int):Int×Int×b7:=
 if s.find q<0 then(0,6,s)else match s.pend[(s.find q).toNat]? with
  |none=>(0,6,s)
  |some p=>if p.tries=s.tries then(0,14,s)else(p.tries+1,0,{s with pend:=s.pend.set (s.find q).toNat {p with tries:=p.tries+1}})
def nI(base:Int)(n:Nat)(p:Se):Bool:=decide (p.seq<base)||(decide (bI base p.seq<64)&&n.testBit (bI base p.seq).toNat)
def aeF{b}{n}{p}(E:¬p.seq<b)(F:(decide (bI b p.seq<64)&&n.testBit (bI b p.seq).toNat)=false):nI b n p=false:=by unfold nI;simp_all
def ov(s:b7)(base:Int)(n:Nat):b7:=
 if 32768<=bI s.base base\/bI s.base s.next<bI s.base base then s else{s with pend:=s.pend.filter fun p=> !nI base n p}
def CE{α:Type}{p}{l:List α}{i}{x}(hx:l[i]?=some x)(h:p x=true):(l.take (i+1)).filter p=(l.take i).filter p++[x]:=by exact ada
def CD{α:Type}{p}{l:List α}{i}{x}(hx:l[i]?=some x)(h:p x=false):(l.take (i+1)).filter p=(l.take i).filter p:=by exact ada
def L9{α:Type}(p:α->Bool)(l:List α)(i):((l.take i).filter p).length<=l.length:=dF (wg _ _) (List.length_take_le' _ _)
def O9{α β:Type}(f:α->β)(l)(x):l.map f++[f x]=(l++[x]).map f:=sM
def mz(s:b7)(q:Int):Int×Int×b7:=
 if s.find q<0 then(0,6,s)else match s.pend[(s.find q).toNat]? with
  |none=>(0,6,s)
  |some p=>(p.id,0,{s with pend:=s.pend.eraseIdx (s.find q).toNat})
def TY(l)(p):l.map Se.cells++[[.int .i64 p.seq,.int .i64 p.id,.int .i64 p.tries]]=(l++[p]).map Se.cells:=by simp[Se.cells]
def ic(n:Int):List SV:=[.int .i64 n]
structure dj where
 bn:Int
 exp:Int
 held:List (Int×Int×Nat)
 ck:Nat
 deriving Inhabited
structure hU(r:dj):Prop where
 bn:1<=r.bn/\r.bn<=64
 exp:small r.exp
 keys:∀e∈r.held,small e.1
 len:r.held.length<=10000
def eE(r:dj)(out:List Int):List Int×dj:=match dJ r.held r.exp with|some id=>(out++[id],{r with held:=iy r.held r.exp,exp:=r.exp+1})|none=>(out,{r with exp:=r.exp+1})
def jz(r:dj)(base:Int):Int:=if base<r.exp/\r.bn<r.exp-base then 2 else 0
def ahZ{a b}(ha:small a)(M:small b):bI a b<65536:=by unfold small at*;unfold bI;split<;>omega
def Yv{r}{b}(D:small r.exp)(M:small b)(E:32768<=bI r.exp b)(F:r.bn<65536-bI r.exp b):jz r b=2:=by unfold small at*;unfold bI at*;unfold jz;omega
def Yw{r}{b}(D:small r.exp)(M:small b)(E:¬32768<=bI r.exp b):jz r b=0:=by unfold small at*;unfold bI at*;unfold jz;omega
def Yx{r}{b}(D:small r.exp)(M:small b)(F:¬r.bn<65536-bI r.exp b):jz r b=0:=by unfold small at*;unfold bI at*;unfold jz;omega
def cI:Nat->dj->List Int->List Int×dj|0,r,out=>(out,r)|n+1,r,out=>cI n (eE r out).2 (eE r out).1
def ku:Nat->dj->List Int->List Int×dj|0,r,out=>(out,r)|n+1,r,out=>if hC r.held r.exp then ku n (eE r out).2 (eE r out).1 else(out,r)
def H4(l)(x):l.map ic++[[.int .i64 x]]=(l++[x]).map ic:=by simp[ic]
def anv{α:Type}(l:List (Int×α×Nat))(k):(iy l k).length<=l.length:=wg _ _
def Ph{α:Type}{l}{k}{a:α}(h:dJ l k=some a):∃e∈l,e.1=k/\e.2.1=a:=by unfold dJ vj at h;cases hf:l.find? (fun e=>e.1==k)<;>grind
def ID{α:Type}{l:List (Int×α×Nat)}{k}:hC l k=(dJ l k).isSome:=by unfold hC dJ vj;grind
def Pa{α:Type}{l}{k}{a:α}(h:dJ l k=some a):(iy l k).length<l.length:=by obtain⟨e,H,E,_⟩:=Ph h;unfold iy;refine ad8.2 ⟨e,H,?_⟩;simp[E]
def Qc(r)(out):(eE r out).2.exp=r.exp+1:=by unfold eE;grind
def aae(r)(out):(eE r out).1.length+(eE r out).2.held.length<=out.length+r.held.length:=by unfold eE;cases h:dJ r.held r.exp with|none=>simp|some a=>have:=Pa h;simp;omega
def EF{r}(out)(h:hC r.held r.exp=true):(eE r out).2.held.length<r.held.length:=by unfold eE;rw[ID]at h;cases h:dJ r.held r.exp with|none=>simp[h]at*|some a=>exact Pa h
def aaf{r}(D:hU r)(out)(hs:small (r.exp+1)):hU (eE r out).2:=by unfold eE;cases U:dJ r.held r.exp with|none=>exact⟨D.bn,hs,D.keys,D.len⟩|some a=>exact⟨D.bn,hs,fun e H=>D.keys e ((oE.1 H).1),dF (anv _ _) D.len⟩
structure uy(b:Int)(r:dj)(aa:List Int)(x:dj×List Int):Prop where
 ok:hU x.1
 len:x.2.length+x.1.held.length<=aa.length+r.held.length
 eq:cI (b-x.1.exp).toNat x.1 x.2=cI (b-r.exp).toNat r aa
def uy.step{b}{r}{aa}{x}(h:uy b r aa x)(M:small b)(hl:x.1.exp<b):uy b r aa ((eE x.1 x.2).2,(eE x.1 x.2).1):=by have E:=h.ok.exp;refine⟨aaf h.ok _ (by unfold small at*;omega),dF (aae _ _) h.len,?_⟩;rw[<-h.eq,Qc,show(b-x.1.exp).toNat=(b-(x.1.exp+1)).toNat+1 by omega];rfl
def uy.mu{b}{r}{aa}{x}(h:uy b r aa x)(hl:x.1.exp<b):(b-(eE x.1 x.2).2.exp).toNat<(b-x.1.exp).toNat:=by rw[Qc];omega
def uy.done{b}{r}{aa}{x}(h:uy b r aa x)(hl:¬x.1.exp<b):cI (b-r.exp).toNat r aa=(x.2,x.1):=by rw[<-h.eq,show(b-x.1.exp).toNat=0 by omega];rfl
def aq9:∀n m r aa,r.held.length<=n->r.held.length<=m->ku n r aa=ku m r aa:=by
 intro n;induction n with
 |zero=>intro m r aa hn hm;have h0:r.held=[]:=pH G;cases m with|zero=>rfl|succ m=>simp[ku,hC,h0]
 |succ n ih=>intro m r aa hn hm;cases m with|zero=>grind|succ m=>unfold ku;by_cases h:hC r.held r.exp=true;rw[au h,au h];have:=EF aa h;grind;simp_all
def mq(r:dj)(aa:List Int):List Int×dj:=ku r.held.length r aa
structure y9(r:dj)(aa:List Int)(x:dj×List Int):Prop where
 ok:hU x.1
 len:x.2.length+x.1.held.length<=aa.length+r.held.length
 exp:x.1.exp+x.1.held.length<30000
 eq:mq x.1 x.2=mq r aa
def y9.step{r}{aa}{x}(h:y9 r aa x)(hm:hC x.1.held x.1.exp=true):y9 r aa ((eE x.1 x.2).2,(eE x.1 x.2).1):=by have E:=h.ok.exp;have F:=h.exp;have h3:=EF x.2 hm;refine⟨aaf h.ok _ (by unfold small at*;omega),dF (aae _ _) h.len,?_,?_⟩;show(eE x.1 x.2).2.exp+((eE x.1 x.2).2.held.length:Int)<30000;rw[Qc];omega;rw[<-h.eq];unfold mq;cases hl:x.1.held.length with|zero=>omega|succ n=>rw[show ku (n+1) x.1 x.2=if hC x.1.held x.1.exp then ku n (eE x.1 x.2).2 (eE x.1 x.2).1 else(x.2,x.1)from rfl,au hm];exact aq9 _ _ _ _ (aC _) (show(eE x.1 x.2).2.held.length<=n by omega)
def y9.done{r}{aa}{x}(h:y9 r aa x)(hm:hC x.1.held x.1.exp=false):mq r aa=(x.2,x.1):=by rw[<-h.eq];unfold mq;cases hl:x.1.held.length with|zero=>rfl|succ n=>rw[show ku (n+1) x.1 x.2=if hC x.1.held x.1.exp then ku n (eE x.1 x.2).2 (eE x.1 x.2).1 else(x.2,x.1)from rfl,hm];rfl
def ye{α:Type}{l}{k}{a:α}(h:dJ l k=some a):hC l k=true:=by rw[ID,h];rfl
def Pj{α:Type}{l:List (Int×α×Nat)}{k}(h:dJ l k=none):hC l k=false:=by rw[ID,h];rfl
def fp(r:dj)(b:Int):List Int×dj:=if jz r b≠0 then([],r)else mq (cI (b-r.exp).toNat r []).2 (cI (b-r.exp).toNat r []).1
def fS(r:dj)(seq id:Int):dj:=if hC r.held seq=false/\¬seq<r.exp then{r with held:=gb r.held seq id r.ck,ck:=pe r.held seq r.ck}else r
def fT(r:dj)(b seq id:Int):List Int×dj:=if jz r b≠0\/r.bn<=bI b seq then([],r)else
 mq (fS (cI (b-r.exp).toNat r []).2 seq id) (cI (b-r.exp).toNat r []).1
def bitsOf(b:Int)(l:List Int):Nat:=l.foldl (fun n k=>n|||2 ^(bI b k).toNat) 0
def tz(l:List (Int×Int×Nat))(k a)(ck):lx (mE n9 l) k (.int .i64 a) ck=mE n9 (gb l k a ck):=O5 n9 l k a ck
def Ji{r}{q id}(E:dJ r.held q=none)(F:¬q<r.exp):fS r q id=⟨r.bn,r.exp,gb r.held q id r.ck,pe r.held q r.ck⟩:=by unfold fS;rw[au ⟨Pj E,F⟩]
def aq7{r}{q id a}(E:dJ r.held q=some a):fS r q id=r:=by unfold fS;rw[ay (by rw[ye E];simp)]
def aq8{r}{q id}(F:q<r.exp):fS r q id=r:=by unfold fS;simp_all
def anN{α:Type}(l:List (Int×α×Nat))(k)(a)(ck):l.length<=(gb l k a ck).length:=by unfold gb;split<;>simp
def aq6(r)(q id):r.held.length<=(fS r q id).held.length:=by unfold fS;split;exact anN _ _ _ _;omega
def aag(r)(q id):(fS r q id).exp=r.exp:=by unfold fS;split<;>rfl
def Bi{α:Type}(l:List (Int×α×Nat))(seen:List Nat):Nat:=(l.filter fun e=> !seen.contains e.2.2).length
def Rc{α:Type}{l}{seen}{k}{a:α}{s}(hm:(k,a,s)∈l)(hs:s∉seen):Bi l (seen++[s])<Bi l seen:=by
 have E:(l.filter fun e=> !(seen++[s]).contains e.2.2)=(l.filter fun e=> !seen.contains e.2.2).filter fun e=> !(e.2.2==s):=by rw[List.filter_filter];apply List.filter_congr;intro e _;by_cases h:e.2.2=s<;>simp[h,Bool.and_comm]
 unfold Bi;rw[E];refine ad8.2 ⟨(k,a,s),oE.2 ⟨hm,by simpa using hs⟩,sM⟩
def abQ{l}{ck}(h:gW (mE n9 l) ck){e e'}(E:e∈l)(F:e'∈l)(h3:e.2.2=e'.2.2):e=e':=by
 have hn:(l.map (·.2.2)).Nodup:=by have:=h.2.1;unfold mE at this;rwa[pJ]at this
 obtain⟨i,Q⟩:=fx.1 E;obtain⟨j,hj⟩:=fx.1 F;have cj:=(ao.1 Q).1;have e1:(l.map (·.2.2))[i]?=some e.2.2:=by rw[bz,Q];rfl
 have e2:(l.map (·.2.2))[j]?=some e.2.2:=by rw[bz,hj,h3];rfl
 have:=(ue (by simpa using cj) hn).1 (e1.trans e2.symm);simp_all
def afR(b)(l)(i):(bitsOf b l).testBit i=true↔ ∃k∈l,(bI b k).toNat=i:=by
 have key:∀(l:List Int)(n:Nat),(l.foldl (fun n k=>n|||2 ^(bI b k).toNat) n).testBit i=true↔n.testBit i=true\/ ∃k∈l,(bI b k).toNat=i:=by intro l;induction l with|nil=>intro n;simp|cons k l ih=>intro n;rw[FA,ih,Ky,uf,FB];simp[or_assoc]
 unfold bitsOf;rw[key];simp
def wk(b:Int)(l:List (Int×Int×Nat))(seen:List Nat)(n:Nat):Prop:=n<18446744073709551616/\∀i,n.testBit i=true↔ ∃e∈l,e.2.2∈seen/\(bI b e.1).toNat=i
def wk.step{b}{l}{ck}{seen}{n}{k a}{s}(hw:gW (mE n9 l) ck)(h:wk b l seen n)(hm:(k,a,s)∈l)(hd:(bI b k).toNat<64):wk b l (seen++[s]) (n|||2 ^(bI b k).toNat):=by refine⟨Sp (n:=64) h.1 (Sn dC hd),fun i=>?_⟩;rw[Ky,uf,h.2 i,FB];constructor;grind;rintro⟨e,H,E,F⟩;rcases eJ.1 E with E|E;grind;right;have:=abQ hw H hm (by simpa using E);simp_all
def wk.done{b}{l}{seen}{n}(h:wk b l seen n)(ha:∀e∈l,e.2.2∈seen):n=bitsOf b (l.map (·.1)):=by refine Nat.eq_of_testBit_eq fun i=>Fz.2 ?_;rw[h.2 i,afR];grind
def O4{α:Type}{f}{l}{k}{a:α}{s}(h:(k,a,s)∈l):(k,f a,s)∈mE f l:=ew.2 ⟨_,h,rfl⟩
def OK{α:Type}{l}{x:α}:(l++[x]).getLast?=some x:=sM
structure Ds where
 id:Int
 w:Int
 def_:Int
 turns:Int
 deriving Inhabited,DecidableEq
def bp(xs:List Ds)(i:Nat):Ds:=xs.getD i ⟨0,0,0,0⟩
def GC{xs}{i}(h:i<xs.length):xs[i]?=some (bp xs i):=by unfold bp;simp_all
structure Rd where
 fH:Int
 pool:List Ds
 order:List Nat
 sending:Option Nat
 deriving Inhabited
structure sG(r:Rd):Prop where
 ord:∀i∈r.order,i<r.pool.length
 len:r.order.length<=100000
 snd:∀i,r.sending=some i->i<r.pool.length
def Rd.find(r:Rd)(id:Int):Int:=idxOf (fun i=>decide ((bp r.pool i).id=id)) r.order
def Rd.uD(r:Rd)(t:Int):Int×Rd:=if t<1\/1048576<t then(1,r)else match r.sending with|none=>(14,r)|some i=>(0,{r with pool:=r.pool.set i {bp r.pool i with def_:=W ((bp r.pool i).def_-t)},sending:=none})
def Rd.leave(r:Rd)(id:Int):Int×Rd:=if r.find id<0 then(6,r)else(0,{r with order:=r.order.eraseIdx (r.find id).toNat,sending:=none})
def Rd.join(r:Rd)(id w:Int):Int×Rd:=if id<0\/16<=id\/w<1\/16<w then(1,r)else if 0<=r.find id then(7,r)else
 (0,{r with pool:=r.pool++[⟨id,w,W (r.fH*w),0⟩],order:=r.order++[r.pool.length],sending:=none})
structure Fl where
 id:Int
 st:Int
 w:Int
 pk:Int
 by_:Int
 lag:Int
 lead:Int
 deriving Inhabited,DecidableEq
def Fl.cells(f:Fl):List SV:=[.int .i64 f.id,.int .i64 f.st,.int .i64 f.w,.int .i64 f.pk,.int .i64 f.by_,.int .i64 f.lag,.int .i64 f.lead]
def UZ:Fl:=⟨0,0,0,0,0,0,0⟩
structure St where
 id:Int
 name:List UInt8
 w:Int
 iC:Int
 deriving Inhabited,DecidableEq
def St.cells(s:St):List SV:=[.int .i64 s.id,.str s.name,.int .i64 s.w,.int .i64 s.iC]
structure Tb where
 cap:Int
 cJ:Int
 sts:List St
 names:List (List UInt8×Int×Nat)
 ck:Nat
 fls:List (Bool×Fl)
 total:Int
 deriving Inhabited
def qy(e:List UInt8×Int×Nat):SV×SV×Nat:=(.str e.1,.int .i64 e.2.1,e.2.2)
def cV(l:List (Bool×Fl))(i:Nat):Bool×Fl:=l.getD i (false,UZ)
def fY(u:Nat->Nat)(l:List (Bool×Fl)):List (List SV):=(List.range l.length).map fun i=>[if(cV l i).1 then .ra (u i) 0 else .nilp]
def nP(u:Nat->Nat)(l:List (Bool×Fl)):(fY u l).length=l.length:=by simp[fY]
def Ml{u}{l}{i}(Q:i<l.length)(h:(cV l i).1=true):(fY u l)[i]?=some [.ra (u i) 0]:=by unfold fY;simp_all
def U9{u}{l}{i}(Q:i<l.length)(h:(cV l i).1=false):(fY u l)[i]?=some [.nilp]:=by unfold fY;simp_all
def w8{l}{i}(Q:i<l.length):(l.map (·.2))[i]?=some (cV l i).2:=by unfold cV;simp_all
def Tb.has(t:Tb)(id:Int):Bool:=decide (0<=id/\id<t.fls.length)&&(cV t.fls id.toNat).1
def Tb.fl(t:Tb)(id:Int):Fl:=(cV t.fls id.toNat).2
def Tb.put(t:Tb)(id:Int)(f:Fl):Tb:={t with fls:=t.fls.set id.toNat (true,f)}
def Tb.aR(t:Tb)(id:Int):Fl×Bool:=if t.has id then(t.fl id,true)else(UZ,false)
def nv(w:Int):Bool:=decide (1<=w/\w<=16)
def Tb.nj(t:Tb)(id a b:Int):Int×Tb:=if t.has id=false then(6,t)else if pQ a b=false then(1,t)else(0,t.put id {t.fl id with pk:=a,by_:=b})
def Tb.pw(t:Tb)(id a b:Int):Int×Tb:=if t.has id=false then(6,t)else if a<0\/1099511627776<a\/b<0\/1099511627776<b then(1,t)else(0,t.put id {t.fl id with lag:=a,lead:=b})
def Tb.ow(t:Tb)(id w:Int):Int×Tb:=if t.has id=false then(6,t)else if nv w=false then(1,t)else
 if t.cap<W (W (t.total-(t.fl id).w)+w)then(12,t)else(0,{t.put id {t.fl id with w:=w}with total:=W (t.total+W (w-(t.fl id).w))})
def Ja{t:Tb}{id}{f}:((t.put id f).fls.map (·.2))=(t.fls.map (·.2)).set id.toNat f:=by unfold Tb.put;simp_all
def Jb{u}{t:Tb}{id}{f}(h:t.has id=true):fY u (t.put id f).fls=fY u t.fls:=by
 simp only[Tb.has,bR,bs]at h;unfold Tb.put fY;simp only[fV];apply k8;intro i Q;have key:(cV (t.fls.set id.toNat (true,f)) i).1=(cV t.fls i).1:=by by_cases H:id.toNat=i;subst H;rw[h.2];unfold cV;simp_all;unfold cV;simp_all
 rw[key]
def QQ:St:=⟨0,[],0,0⟩
def Tb.k5(t:Tb)(id:Int):St×Bool:=if 0<=id/\id<t.sts.length then(t.sts.getD id.toNat QQ,true)else(QQ,false)
def atv{l:List St}{i}(h:i<l.length):(l.map St.cells)[i]?=some (l.getD i QQ).cells:=by simp_all
def Tb.remove(t:Tb)(id:Int):Int×Tb:=if t.has id=false then(6,t)else(0,{t with fls:=t.fls.set id.toNat (false,t.fl id),total:=W (t.total-(t.fl id).w)})
def aat{t:Tb}{id}(h:id.toNat<t.fls.length):((t.fls.set id.toNat (false,t.fl id)).map (·.2))=t.fls.map (·.2):=by rw[iH];have:(t.fls.map (·.2))[id.toNat]?=some (t.fl id):=w8 h;apply jh;grind
def aau{u}{l}{i}{f}:(fY u l).set i [.nilp]=fY u (l.set i (false,f)):=by
 apply jh;intro j;unfold fY;rw[bu];simp only[bh,Ft,fV];by_cases hj:j<l.length;rw[bz,bz,Fm hj];by_cases H:i=j;subst H;rw[au rfl,au hj];have k1:(cV (l.set i (false,f)) i).1=false:=by unfold cV;rw[mK,qK hj];rfl
 simp[k1];rw[ay H];have k2:cV (l.set i (false,f)) j=cV l j:=by unfold cV;rw[mK,mK,List.getElem?_set_ne H]
 simp_all;simp_all
def Tb.gw(t:Tb)(st w:Int):Int×Int×Tb:=if st<0\/(t.sts.length:Int)<=st then(0,6,t)else if nv w=false then(0,1,t)else if(t.fls.length:Int)=32 then(0,4,t)else if t.cap<W (t.total+w)then(0,12,t)else
 ((t.fls.length:Int),0,{t with fls:=t.fls++[(true,⟨t.fls.length,st,w,64,262144,1099511627776,1099511627776⟩)],total:=W (t.total+w)})
def r4(l:List (List UInt8×Int×Nat))(k:List UInt8):Option Int:=(l.find? fun e=>e.1==k).map (·.2.1)
def Tb.find(t:Tb)(k:List UInt8):Int×Bool:=match r4 t.names k with|some i=>(i,true)|none=>(0,false)
def Tb.lb(t:Tb)(f:List UInt8×Int)(name:List UInt8)(w r:Int):Int×Int×Tb:=if f.2≠0 then(0,1,t)else if nv w=false then(0,1,t)else if r<0 then(0,1,t)else if t.cJ<=r then(0,1,t)else if(r4 t.names f.1).isSome=true then(0,7,t)else if(t.sts.length:Int)=16 then(0,4,t)else
 ((t.sts.length:Int),0,{t with sts:=t.sts++[⟨t.sts.length,name,w,r⟩],names:=t.names++[(f.1,(t.sts.length:Int),t.ck)],ck:=t.ck+1})
end Go.Air
namespace Go.Proofs.YtfkepgkmobgleaaGreatDoor
open Go.Sx Go.Air Tryz
def mixed:prog.follows .mixedOrders=true:=by kernel_rfl
def a_(n)(h0: -9223372036854775808<=n)(E:n<=9223372036854775807):IntKind.i64.wrap n=n:=BX h0 E
end Go.Proofs.YtfkepgkmobgleaaGreatDoor
namespace Go.Sx
structure Rd(ab aZ:Prop):Prop where
 f:aZ->ab
def Rd.e{ab:Prop}:Rd ab ab:=⟨id⟩
def Rd.a{P ab aZ:Prop}(h:P)(r:Rd ab aZ):Rd (P/\ab) aZ:=⟨fun b=>⟨h,r.f b⟩⟩
def Rd.k{l:Array Oper}{ids:List Mk}{ab aZ:Prop}(h:x8 l ids=true)(r:Rd ab aZ):Rd (x8 l ids=true/\ab) aZ:=.a h r
def Rd.t{c:Bool}{ab A' aZ:Prop}(h:c=true)(r:Rd ab aZ):Rd ((c=true->ab)/\(c=false->A')) aZ:=⟨fun b=>gX h (r.f b)⟩
def Rd.n{c:Bool}{ab A' aZ:Prop}(h:c=false)(r:Rd A' aZ):Rd ((c=true->ab)/\(c=false->A')) aZ:=⟨fun b=>dV h (r.f b)⟩
def eL.ar{P:Program}{T:aG}(hT:bl P T){f:FuncId}{fn:Func}{c:Code}{args:List SV}{am:Hp}{R:SV->Hp->Prop}(hf:P.funcs[f]?=some fn)(hn:(fn.name== "runtime.NumGoroutine")=false) (M:fn.body=some c)(C7:CK am True) (o:vN args fn.ntmps fun J=>pS P T am.length c J am (yt T fn fun s h'=>IY am.length h' s fun s'=>mD am.length h' fun I=>CK I (R s' I))):eL P f args am R:=
 .Zd (U7 C7).2 (aq.ar hT hf hn M o)
def aY.aoC{P:Program}{T:aG}(hT:bl P T){f:FuncId}{fn:Func}{c:Code}{args:List SV}{R:SV->Prop}(hf:P.funcs[f]?=some fn)(hn:(fn.name== "runtime.NumGoroutine")=false) (M:fn.body=some c)(ha:xb args True)(o:vN args fn.ntmps fun J=>pS P T 0 c J [] (yt T fn fun s h'=>IY 0 h' s R)):aY P f args R:=
 (eL.Zd (R:=fun s _=>R s) (by simp) (aq.ar hT hf hn M o)).pure ha
end Go.Sx
namespace Go.Proofs.YtfkepgkmobgleaaGreatDoor
open Go.Sx

end Go.Proofs.YtfkepgkmobgleaaGreatDoor
namespace Go.Sx
open Go.Proofs.YtfkepgkmobgleaaGreatDoor Go.Sx Go.Air Go.Proofs.Tryz
def Rd.d{ops:Array Oper}{m:Nat}{id:Nat}{J:Fr}{h:Hp}{K:Fr->Hp->Prop}{aZ:Prop}(r:Rd (Ut prog tab ops J h K) aZ):Rd (cf prog m id ops J h K) aZ:=⟨fun b=>cf.fQ mixed aj (r.f b)⟩
end Go.Sx
namespace Go.Proofs.YtfkepgkmobgleaaGreatDoor
open Go.Sx Tryz
def B{ab aZ:Prop}(h:aZ)(f:Rd ab aZ:=by(conv=>arg 1;whnf);(repeat(first|((with_reducible apply Rd.t);first|(exact rfl)|(focus(simp;omega)))|((with_reducible apply Rd.n);first|(exact rfl)|(focus(simp;omega)))|((with_reducible apply Rd.k);(kernel_rfl))|((fail_if_success(with_reducible apply Rd.t));(with_reducible apply Rd.a);first|rfl|omega|(focus(simp;omega)))|(with_reducible apply Rd.d));(conv=>arg 1;whnf));with_reducible exact .e):ab:=f.f h
def wt{ab:Prop}(f:Rd ab True:=by(conv=>arg 1;whnf);(repeat(first|((with_reducible apply Rd.t);first|(exact rfl)|(focus(simp;omega)))|((with_reducible apply Rd.n);first|(exact rfl)|(focus(simp;omega)))|((with_reducible apply Rd.k);(kernel_rfl))|((fail_if_success(with_reducible apply Rd.t));(with_reducible apply Rd.a);first|rfl|omega|(focus(simp;omega)))|(with_reducible apply Rd.d));(conv=>arg 1;whnf));with_reducible exact .e):ab:=f.f trivial
def ws{ab:Prop}(h:ab:=by exact(a_ _ (by omega) (by omega)).trans (by simp)):ab:=h
def dv(ls:List Int):List (List SV):=ls.map fun z=>[.int .i64 z]
def qz(ls):(dv ls).length=ls.length:=by simp[dv]
def raw(ls:List Int)(ah:Int):Int:=if ah<(ls.length:Int)then ls.getD ah.toNat 0 else IntKind.i64.wrap (IntKind.i64.wrap (7*ah)+3)
def cr(ls:List Int)(ah n:Int):Int:=if n<1 then 0 else raw ls ah % n
def eP(ls:List Int)(ah:Int):bK:=.fix 60 [.rs 1 (dv ls),.int .i64 ah]
def tmod_neg{v n:Int}(hn:0<n)(h:v.tmod n<0):v.tmod n+n=v % n:=by rw[Int.tmod_eq_emod]at*;split at h;have:=Kz v (b:=n) G;omega;grind
def abB{v n:Int}(hn:0<n)(h:0<=v.tmod n):v.tmod n=v % n:=by rw[Int.tmod_eq_emod]at*;split at h;simp_all;have:=KA v (b:=n) hn;omega
def adu{ab:Prop}(k:ab:=by
 refine⟨fun hn=>?_,fun hn=>?_⟩;refine B ?_;have hn:n<1:=by simpa using hn
 rw[a_ (ah+1) G G];exact⟨by simp[cr,hn],rfl⟩;refine B ?_;have hn:¬n<1:=by simpa using hn
 refine⟨G,B ?_⟩;refine⟨fun hm=>?_,fun hm=>?_⟩;refine B ?_;rw[a_ (ah+1) G G];have e:cr ls ah n=v % n:=by simp[cr,hn,NP]
 have hm:v.tmod n<0:=by simpa using hm
 have e2:=tmod_neg G hm;refine⟨?_,rfl⟩;rw[e,<-e2,a_ _ (by have:=Kz v (b:=n) G;omega) (by have:=KA v (b:=n) G;omega)];refine B ?_;rw[a_ (ah+1) G G];have e:cr ls ah n=v % n:=by simp[cr,hn,NP]
 have hm:¬v.tmod n<0:=by simpa using hm
 refine⟨?_,rfl⟩;rw[e,abB G G]):ab:=k
def e6(ls)(ah n)(h0:0<=ah)(E:ah<9223372036854775807)(n1:n<=9223372036854775807):eL prog 15 [.ptr 0 0,.int .i64 n] [eP ls ah] fun s I=>s=.int .i64 (cr ls ah n)/\I=[eP ls (ah+1)]:=by
 refine .ar aj func15 Y rfl trivial ?_;conv=>whnf
 refine cf.fQ mixed aj ?_;conv=>whnf
 refine⟨by kernel_rfl,?_⟩;conv=>whnf
 have bc:ah<(ls.length:Int)->(dv ls)[ah.toNat]?=some [.int .i64 (ls.getD ah.toNat 0)]:=fun h=>by have:ah.toNat<ls.length:=G;simp[dv,List.getD,aD this]
 refine⟨fun M=>?_,fun M=>?_⟩;have aP:ah<(ls.length:Int):=by simpa[qz]using M
 have NP:raw ls ah=ls.getD ah.toNat 0:=by simp[raw,aP]
 conv=>whnf
 refine cf.fQ mixed aj ?_;conv=>whnf
 refine⟨⟨h0,by rw[qz];exact aP⟩,B ?_⟩;refine⟨_,bc aP,B ?_⟩;generalize hv:ls.getD ah.toNat 0=v at*;exact adu;have NP:raw ls ah=IntKind.i64.wrap (IntKind.i64.wrap (7*ah)+3):=by
  have:¬ah<(ls.length:Int):=by simpa[qz]using M
  simp[raw,this]
 generalize IntKind.i64.wrap (IntKind.i64.wrap (7*ah)+3)=v at*;refine B ?_;exact adu
def eR(ls)(ah n):0<=cr ls ah n:=by unfold cr;split;omega;exact Kz _ G
def eH(ls)(ah n)(hn:1<=n):cr ls ah n<n:=by unfold cr;rw[ay G];exact KA _ G
def aus(l):∀{h},(∀p∈l,h[p.1]?=some p.2)->bF l h=h:=by
 induction l with
 |nil=>intro h _;rfl
 |cons p l ih=>
  intro h hp;have e:h.set p.1 p.2=h:=by apply jh;intro i;rw[bu];by_cases Q:p.1=i;grind;rw[ay Q]
  show bF l (h.set p.1 p.2)=h;grind
end Go.Proofs.YtfkepgkmobgleaaGreatDoor
namespace Go.Sx
open Go.Proofs.YtfkepgkmobgleaaGreatDoor Go.Sx Go.Air
def eL.lP{P}{f}{args bH}{am}{s}(hs:eL P f args am fun s' bf=>s'=s/\bf=am)(A)(hn:A.Nodup){h}{ae}{K} (ha:wK A args bH True)(hh:DP h A am True)(o:K s [] A):oF P f bH h ae K:=
 ⟨s,[],A,o,⟨fun _ _ _ F _ O D dz=>(hs.run hn ha hh O dz D).mono fun _ _⟨s',bf,V,⟨e1,e2⟩,_,bb,aE,hS⟩=>by
  subst e1;subst e2
  have⟨_,hlen,oX⟩:=Xl A hh
  have e:back A bf F=F:=aus _ fun p hp=>by
   have⟨i,Q⟩:=fx.1 hp
   have⟨a,b⟩:=p
   rw[ug]at Q
   grind
  rw[e]at aE
  exact⟨V,bb,aE,hS,by rw[aE.len,O.len]⟩,sM⟩⟩
end Go.Sx
namespace Go.Proofs.YtfkepgkmobgleaaGreatDoor
open Go.Sx

end Go.Proofs.YtfkepgkmobgleaaGreatDoor
namespace Go.Sx
def JS{k q}{a b c d}(E:a=c)(F:b=d):SV.tup [.int k a,.int q b]=.tup [.int k c,.int q d]:=by rw[E,F]
def al8{k}{a c}(E:a=c):SV.int k a=.int k c:=by rw[E]
def gH{b d}(h:b=d):SV.bool b=.bool d:=by rw[h]
end Go.Sx
namespace Go.Proofs.YtfkepgkmobgleaaGreatDoor
open Go.Sx Tryz
abbrev b9(s:List UInt8)(i:Nat):Int:=((s.getD i 0).toNat:Int)
def zo(s)(i):0<=b9 s i/\b9 s i<=255:=by have:=(s.getD i 0).toNat_lt;unfold b9;omega
def jI(s:List UInt8):Nat->Int|0=>0|i+1=>(jI s i+b9 s i)% 255
def kL(s:List UInt8):Nat->Int|0=>0|i+1=>(kL s i+jI s (i+1))% 255
def zt(s):∀i,0<=jI s i/\jI s i<=254:=by intro i;cases i with|zero=>simp[jI]|succ i=>simp only[jI];omega
def Gv(s):∀i,0<=kL s i/\kL s i<=254:=by intro i;cases i with|zero=>simp[kL]|succ i=>simp only[kL];omega
def jJ(s:List UInt8):Int:=256*kL s s.length+jI s s.length
def adD{ab:Prop}(k:ab:=by
 have M:s.length=i.1:=by simp only[bX]at M;omega
 have a1:=zt s i.1;have b1:=Gv s i.1;have ev:IntKind.i64.wrap (IntKind.i64.wrap (256*kL s i.1)+jI s i.1)=jJ s:=by rw[a_ (256*kL s i.1) G G,a_ _ G G];unfold jJ;rw[show kL s s.length=kL s i.1 from fU (kL s) M,show jI s s.length=jI s i.1 from fU (jI s) M]
 refine B ?_;refine .same (B ?_);rw[ev]):ab:=k
def aho(s)(hs:s.length<=100000000):aY prog 58 [.str s] (· =.int .i64 (jJ s)):=by
 refine .ar aj func58 Y rfl trivial ?_;have hl:(s.map fX).length=s.length:=by simp
 refine B ?_;refine b6.cq aj 28 (fun i:{i:Nat//i<=s.length}=>[(3,.int .i64 (jI s i.1)),(4,.int .i64 (kL s i.1)),(8,.sl 0),(9,.int .i64 (s.length:Int)),(10,.int .i64 (i.1:Int))])
  (fun _=>[.row 5 1 (s.map fX)]) (fun i=>s.length-i.1) ⟨0,G⟩ (.of [some 0] Y ?_) ?_
 exact wt;intro i;refine B ?_;refine⟨fun M=>?_,fun M=>?_⟩;have M:i.1<s.length:=by simp only[bs]at M;omega
 have a1:=zt s i.1;have b1:=Gv s i.1;have x1:=zo s i.1;have a2:=zt s (i.1+1);have U:(s.map fX)[(i.1:Int).toNat]?=some [SV.int .u8 (b9 s i.1)]:=by rw[gh,bz,aD M];simp[fX,b9,List.getD,aD M]
 have w5:Int.tmod (IntKind.i64.wrap (jI s i.1+IntKind.i64.wrap (b9 s i.1))) 255=jI s (i.1+1):=by rw[a_ (b9 s i.1) G G,a_ _ G G,uk G];rfl
 have pU:Int.tmod (IntKind.i64.wrap (kL s i.1+jI s (i.1+1))) 255=kL s (i.1+1):=by rw[a_ _ G G,uk G];rfl
 refine B ?_;refine⟨_,U,B ?_⟩;refine⟨⟨i.1+1,G⟩,by show s.length-(i.1+1)<s.length-i.1;omega,.of [some 0] Y (B ?_)⟩;refine⟨by simp[*],B ?_⟩;exact acx;exact adD
def ari(s)(hs:s.length<=100000000):aY prog 116 [.str s] (· =.int .i64 (jJ s)):=by
 refine .ar aj func116 Y rfl trivial (B ?_);refine b6.cq aj 27 (fun i:{i:Nat//i<=s.length}=>[(0,.str s),(3,.int .i64 (jI s i.1)),(4,.int .i64 (kL s i.1)),(5,.int .i64 (i.1:Int))])
  (fun _=>[]) (fun i=>s.length-i.1) ⟨0,G⟩ (.of [] dC ?_) ?_
 exact wt;intro i;refine B ?_;refine⟨fun M=>?_,fun M=>?_⟩;have M:i.1<s.length:=by simp only[bs]at M;omega
 have a1:=zt s i.1;have b1:=Gv s i.1;have x1:=zo s i.1;have a2:=zt s (i.1+1);have pV:IntKind.i64.wrap ((i.1:Int)+1)=((i.1+1:Nat):Int):=by rw[a_ _ G G];omega
 have w5:Int.tmod (IntKind.i64.wrap (jI s i.1+IntKind.i64.wrap (b9 s i.1))) 255=jI s (i.1+1):=by rw[a_ (b9 s i.1) G G,a_ _ G G,uk G];rfl
 have pU:Int.tmod (IntKind.i64.wrap (kL s i.1+jI s (i.1+1))) 255=kL s (i.1+1):=by rw[a_ _ G G,uk G];rfl
 refine B ?_;refine⟨⟨i.1+1,G⟩,by show s.length-(i.1+1)<s.length-i.1;omega,.of [] dC (B ?_)⟩;refine⟨by exact w5,B ?_⟩;refine⟨by exact Eq.trans (by rw[show((i.1:Int)).toNat=i.1 from rfl]at*;rw[w5]) pU,?_⟩;exact wt;exact adD
def y4(r:Int):Prop:=97<=r/\r<=122\/65<=r/\r<=90\/48<=r/\r<=57\/r=45\/r=95\/r=46\/161<=r/\r≠65533
instance(r:Int):Decidable (y4 r):=by unfold y4;infer_instance
def DW(r:Int):Bool:=decide (y4 r)
def iu(s:List UInt8):ByteArray:=⟨s.toArray⟩
def afD(s):(iu s).size=s.length:=by simp[iu,ByteArray.size]
def tC(s:ByteArray):Nat->Nat->Bool|0,_=>true|b+1,p=>if p<s.size then DW (Utf8.decode s p).1&&tC s b (p+(Utf8.decode s p).2)else true
def Rk(s)(p)(h:p<s.size):1<=(Utf8.decode s p).2:=by by_cases ha:(s[p]'h).toNat<128;rw[decode_ascii s p h ha];omega;exact(decode_high s p h G).2
def YH(s):∀b p b',s.size<=p+b->s.size<=p+b'->tC s b p=tC s b' p:=by
 intro b;induction b with
 |zero=>intro p b' h h';cases b' with|zero=>rfl|succ b'=>simp only[tC];rw[ay G]
 |succ b ih=>
  intro p b' h h';by_cases hp:p<s.size;have hw:=Rk s p hp;cases b' with|zero=>omega|succ b'=>simp only[tC];grind
  grind
def vo(s:ByteArray)(p:Nat):Bool:=tC s s.size p
def aoo{s}{p}(h:p<s.size):vo s p=(DW (Utf8.decode s p).1&&vo s (p+(Utf8.decode s p).2)):=by unfold vo;rw[YH s s.size p (s.size+1) G G];simp only[tC];rw[au h]
def aon{s}{p}(h:s.size<=p):vo s p=true:=by unfold vo;rw[YH s s.size p 0 G G];rfl
def hD(s:List UInt8):Bool:=vo (iu s) 0&&decide (1<=s.length/\s.length<=24)
def amX(r)(w):Calls prog 266 #[.int .i32 r] w fun e w'=>e=.returned (.bool (DW r))/\w'=w:=by
 go_enter func266,ntmps266;go_wp2;all_goals go_ret
 all_goals refine⟨fU (fun b=>Ending.returned (.bool b)) ?_,rfl⟩
 all_goals symm
 all_goals try simp only[dh,c6,ne_eq]at*
 all_goals first
  |(refine qM ?_;unfold y4;omega)
  |(refine uh ?_;unfold y4;omega)
  |(by_cases hx:r=65533
    ·subst hx;decide
    ·have e:DW r=true:=qM (by unfold y4;omega)
     rw[e];simp[hx])
def ank(s)(w):Calls prog 216 #[.string (iu s)] w fun e w'=>e=.returned (.bool (hD s))/\∃pos,w'=w.iter (iu s) pos:=by
 have dY:=afD s;go_enter func216,ntmps216;go_wp2;go_loopw [2] (fun n w'=>∃pos:Nat,w'=w.iter (iu s) pos/\n=.bool false/\vo (iu s) pos=vo (iu s) 0) (fun _ w'=>(iu s).size-w'.iterPos w.heap.size);case atStart=>grind
 case round=>
  obtain⟨pos,rfl,rfl,hc⟩:=hrel;by_cases hp:pos<(iu s).size
  ·have NC:∀ty,(Instr.next (.pointer (some ⟨w.heap.size,0,none⟩)) true ty).run prog (w.iter (iu s) pos)=_:=fun ty=>run_next_any w (iu s) pos ty hp;have hwd:=Rk (iu s) pos hp;have bQ:=aoo hp;go_wp2_with (go_at_call 266;refine(amX _ _).mono ?_;rintro e w' ⟨rfl,rfl⟩)
   ·rename_i M;have hn:hD s=false:=by unfold hD;rw[<-hc,bQ,(by simpa using M:DW ((Utf8.decode (iu s) pos).1:Int)=false)];rfl
    go_ret;exact⟨by rw[hn];rfl,_,rfl⟩
   rename_i M;refine⟨⟨_,rfl,rfl,?_⟩,?_⟩;simp_all;simp only[World.iterPos_iter];omega
  ·have NC:∀ty,(Instr.next (.pointer (some ⟨w.heap.size,0,none⟩)) true ty).run prog (w.iter (iu s) pos)=_:=fun ty=>run_next_end w (iu s) pos ty hp;have H:=aon (Nat.le_of_not_lt hp);go_wp2;all_goals
    go_ret
    refine⟨fU (fun b=>Ending.returned (.bool b)) ?_,_,rfl⟩
    unfold hD;grind
def aY.aoD{P}{f}{fn}{c}(hf:P.funcs[f]?=some fn)(hn:(fn.name== "runtime.NumGoroutine")=false)(M:fn.body=some c){s}{b} (hc:∀w:World,Calls P f #[.string (iu s)] w fun e w'=>e=.returned (.bool b)/\∃pos,w'=w.iter (iu s) pos):aY P f [.str s] (· =.bool b):=by
 refine⟨fun h K o=>⟨fun w X g vs O D=>?_⟩⟩;have⟨hl,D⟩:=D;obtain⟨v,rfl⟩:∃v,vs=[v]:=by cases vs<;>simp_all
 have hv:=D 0 _ v rfl rfl;cases hv;have ro:(callFunc f [Value.string (iu s)].toArray).run P w=.ok (.enter f #[.string (iu s)]) w:=by
  have F:fn.name≠ "runtime.NumGoroutine" :=by simpa using hn
  simp[callFunc,hf,F,M]
 show bO P (callFunc f [Value.string (iu s)].toArray) w _;unfold bO;rw[ro];refine(hc w).mono fun e w'⟨H,pos,hw⟩=>?_;subst H;subst hw;have hS:Step 0 w [] (w.iter (iu s) pos) []:=⟨rfl,rfl,rfl,by show w.heap.size<=(w.heap.push _).size;simp_all,fun u U _=>by show(w.heap.push _)[u]?=_;grind,fun u I _=>absurd I (tE u),fun _ _ h=>by omega⟩;have⟨be,b_⟩:=O.same hS;exact⟨_,rfl,_,h,g,o _ rfl,.bool,be,b_⟩
def anl(s):aY prog 216 [.str s] (· =.bool (hD s)):=
 aY.aoD func216 Y rfl (ank s)
def jd(n:Int):List UInt8:=[UInt8.ofNat (n/256).toNat,UInt8.ofNat (n % 256).toNat]
def LH(s):0<=jJ s/\jJ s<=65278:=by have a:=zt s s.length;have b:=Gv s s.length;unfold jJ;omega
def nt{z}(h0:0<=z)(E:z<=255):((UInt8.ofNat z.toNat).toNat:Int)=z:=by rw[UInt8.toNat_ofNat'];omega
def JT(n)(h0:0<=n)(E:n<=65535):aY prog 69 [.int .i64 n] (· =.str (jd n)):=by
 refine .ar aj func69 Y rfl trivial ?_;have e1:IntKind.u8.wrap (IntKind.i64.wrap (Int.tdiv n 256))=n/256:=by rw[Int.tdiv_eq_ediv_of_nonneg h0,a_ _ G G,BF];omega
 have e2:IntKind.u8.wrap (Int.tmod n 256)=n % 256:=by rw[uk h0,BF];omega
 have e3:[[SV.int .u8 (IntKind.u8.wrap (IntKind.i64.wrap (Int.tdiv n 256)))],[SV.int .u8 (IntKind.u8.wrap (Int.tmod n 256))]]=(jd n).map fX:=by rw[e1,e2];simp only[jd,mI,Kp,fX];rw[nt G G,nt G G]
 refine B ?_;refine⟨jd n,e3,?_⟩;conv=>whnf
def asJ(s)(hs:s.length<=100000000):aY prog 68 [.str s] (· =.str (s++jd (jJ s))):=by refine .ar aj func68 Y rfl trivial ?_;have r:=LH s;refine B ?_;refine(ari _ G).call (ri (B ?_));refine(JT _ G G).call (ri (B ?_));refine⟨by(have e:(jd (jJ s)).length=2:=rfl;omega),?_⟩;conv=>whnf
def Mp:List Int:=[100,1,60,1500,4096,100,700]
def xg{l}{i:Int}(h0:0<=i)(E:i<l.length):(dv l)[i.toNat]?=some [SV.int .i64 (l.getD i.toNat 0)]:=by
 have:i.toNat<l.length:=by omega
 simp[dv,List.getD,aD this]
def ajK(ls)(a)(h0:0<=a)(E:a<9223372036854775800):eL prog 42 [.ptr 0 0] [eP ls a] fun s I=>s=.int .i64 (Mp.getD (cr ls a 7).toNat 0)/\I=[eP ls (a+1)]:=by refine .ar aj func42 Y rfl trivial ?_;have n0:=eR ls a 7;have n1:=eH ls a 7 G;refine B ?_;refine(e6 _ _ _ G G G).call [0] dC Y1 Y1 (rj (B ?_));refine⟨_,xg (l:=Mp) n0 n1,?_⟩;exact adh
structure Hd where
 st:List UInt8
 c:Int
 p:Int
 l:Int
 f:Int
abbrev CZ(h:Hd):SV:=.agg [.str h.st,.int .i64 h.c,.int .i64 h.p,.int .i64 h.l,.int .i64 h.f]
def jO(h:Hd):Prop:=0<=h.c/\h.c<=7/\0<=h.p/\h.p<=65535/\1<=h.l/\h.l<=4096/\0<=h.f/\h.f<=65535
instance(h:Hd):Decidable (jO h):=by unfold jO;infer_instance
def ib(h:Hd):Bool:=hD h.st&&decide (jO h)
def aki{h}(a:hD h.st=true)(b:jO h):ib h=true:=by unfold ib;simp_all
def xv{h}(b:¬jO h):ib h=false:=by unfold ib;simp_all
def akh{h}(a:hD h.st=false):ib h=false:=by unfold ib;rw[a];rfl
def akg{h}{q}[Decidable q](a:hD h.st=true)(b:q↔jO h):decide q=ib h:=by unfold ib;simp_all
def ac4{ab:Prop}(k:ab:=by refine⟨fun _=>B ?_,fun _=>B ?_⟩;refine dT (fun _=>B ?_) fun _=>B ?_;refine dT (fun _=>B ?_) fun _=>B ?_;refine dT (fun _=>B ?_) fun _=>B ?_;refine dT (fun _=>B ?_) fun _=>B ?_;refine dT (fun _=>B ?_) fun _=>B ?_;refine dT (fun _=>B ?_) fun _=>B ?_;refine dT (fun _=>B ?_) fun _=>B ?_;exact gH (akg ‹_› (by unfold jO;omega));exact gH (xv (by unfold jO;omega)).symm;exact gH (xv (by unfold jO;omega)).symm;exact gH (xv (by unfold jO;omega)).symm;exact gH (xv (by unfold jO;omega)).symm;exact gH (xv (by unfold jO;omega)).symm;exact gH (xv (by unfold jO;omega)).symm;exact gH (xv (by unfold jO;omega)).symm;exact gH (akh ‹_›).symm):ab:=k
def ap6(h):aY prog 143 [CZ h] (· =.bool (ib h)):=by refine .ar aj func143 Y rfl trivial (B ?_);refine(anl _).call (ri (B ?_));exact ac4
def asy(h)(hn:aY prog 115 [.str h.st] (· =.bool (hD h.st))):aY prog 67 [CZ h] (· =.bool (ib h)):=by refine .ar aj func67 Y rfl trivial (B ?_);refine hn.call (ri (B ?_));exact ac4
def gf(h:Hd):List UInt8:=[165,1,UInt8.ofNat h.c.toNat]++jd h.p++jd h.l++jd h.f++[UInt8.ofNat h.st.length]++h.st
def gO(h:Hd):List UInt8:=gf h++jd (jJ (gf h))
def Pv{s}(h:hD s=true):1<=s.length/\s.length<=24:=by unfold hD at h;simp_all
def C0{h}(a:ib h=true):hD h.st=true/\jO h:=by unfold ib at a;simp_all
def u8c{n}(h0:0<=n)(E:n<=255):fX (UInt8.ofNat n.toNat)=[SV.int .u8 n]:=by unfold fX;rw[nt h0 E]
def Ht{n}(h0:0<=n)(E:n<=65535):IntKind.u8.wrap (n.fdiv (2 ^min (Int.toNat 8) IntKind.i64.bits))=n/256:=by rw[show(2:Int)^min (Int.toNat 8) IntKind.i64.bits=256 from by decide,Int.fdiv_eq_ediv_of_nonneg _ G,BF];omega
def Iv{n}(h0:0<=n)(E:n<=65535):IntKind.u8.wrap n=n % 256:=by rw[BF]
def XZ{n}(h0:0<=n)(E:n<=255):IntKind.u8.wrap n=n:=by rw[BF];omega
def CI(h:Hd):SV:=if ib h then .tup [.str (gO h),.int .i64 0]else .tup [.str [],.int .i64 1]
def arM(h)(hq:aY prog 115 [.str h.st] (· =.bool (hD h.st))):aY prog 43 [CZ h] (· =CI h):=by
 refine .ar aj func43 Y rfl trivial (B ?_);refine(asy h hq).call (ri (B ?_));refine⟨fun hv=>?_,fun hv=>?_⟩;have hv:ib h=false:=by simpa using hv
 refine B ?_;(unfold CI;rw[hv];rfl);have hv:ib h=true:=by simpa using hv
 have hn:=Pv (C0 hv).1;have hp:=(C0 hv).2;unfold jO at hp;have ahn:=LH (gf h);have gc:=XZ (n:=h.c) G G;have n1:=XZ (n:=(h.st.length:Int)) G G;have e1:fX (UInt8.ofNat h.st.length)=[SV.int .u8 (h.st.length:Int)]:=by have:=u8c (n:=(h.st.length:Int)) G G;simpa using this
 conv=>whnf
 refine cf.fQ mixed aj ?_;conv=>whnf
 (refine⟨[UInt8.ofNat h.c.toNat],by rw[gc,mI,u8c G G];rfl,?_⟩);conv=>whnf
 refine⟨sM,?_⟩;conv=>whnf
 refine(JT _ G G).cA ?_;conv=>whnf
 refine⟨by(simp[jd]<;>omega),B ?_⟩;refine(JT _ G G).cA (B ?_);refine⟨by(simp[jd]<;>omega),B ?_⟩;refine(JT _ G G).cA (B ?_);refine⟨by(simp[jd]<;>omega),B ?_⟩;refine⟨[UInt8.ofNat h.st.length],by rw[n1,mI,e1];rfl,B ?_⟩;refine⟨by(simp[jd]<;>omega),B ?_⟩;refine⟨by(simp[jd]<;>omega),?_⟩;conv=>whnf
 refine(asJ _ (by(simp[jd]<;>omega))).cA ?_;conv=>whnf
 refine⟨by kernel_rfl,?_⟩;conv=>whnf
 (unfold CI;rw[hv];rfl)
def kq(s:List UInt8)(i:Nat):Int:=256*b9 s i+b9 s (i+1)
def oT:Hd:=⟨[],0,0,0,0⟩
def tI(s:List UInt8):Hd:=⟨(s.take (s.length-2)).drop 10,b9 s 2,kq s 3,kq s 5,kq s 7⟩
def gd(s:List UInt8):Hd×Int:=
 if s.length<12 then(oT,9)else if¬s.take 2=[165,1]then(oT,11)else if(s.length:Int)<12+b9 s 9 then(oT,9)else if 12+b9 s 9<(s.length:Int)then(oT,11)
 else if¬kq s (s.length-2)=jJ (s.take (s.length-2))then(oT,10)else if ib (tI s)=true then(tI s,0)else(oT,1)
abbrev I6(s:List UInt8):SV:=.tup [CZ (gd s).1,.int .i64 (gd s).2]
def TR(x:Nat)(h:x<18446744073709551616):(BitVec.ofInt IntKind.i64.bits (x:Int)).toNat=x:=by rw[BitVec.toNat_ofInt];show((x:Int)% 18446744073709551616).toNat=x;omega
def aoP{a b}(a0:0<=a)(a1:a<=255)(fb:0<=b)(b1:b<=255):IntKind.i64.wrap ((BitVec.ofInt IntKind.i64.bits (IntKind.i64.wrap (a*2 ^min (Int.toNat 8) IntKind.i64.bits))|||BitVec.ofInt IntKind.i64.bits b).toNat:Int)=256*a+b:=by
 obtain⟨x,rfl⟩:=oD a0;obtain⟨y,rfl⟩:=oD fb;have e1:IntKind.i64.wrap ((x:Int)*2 ^min (Int.toNat 8) IntKind.i64.bits)=((x*256:Nat):Int):=by rw[show(2:Int)^min (Int.toNat 8) IntKind.i64.bits=256 from by decide,a_ _ G G];omega
 rw[e1,BitVec.toNat_or,TR _ G,TR _ G,show x*256=x<<<8 from by omega,<-Nat.shiftLeft_add_eq_or_of_lt (show y<2 ^8 by omega),KB,a_ _ G G];omega
def Gw(s)(z)(h0:0<=z)(Q:z+1<(s.length:Int))(hs:s.length<=1000000):eL prog 142 [.int .i64 z,.ptr 0 0] [.fix 9 [.str s]] fun v I=>v=.int .i64 (kq s z.toNat)/\I=[.fix 9 [.str s]]:=by
 obtain⟨i,rfl⟩:=oD h0;rw[gh];refine .ar aj func142 Y rfl trivial ?_;have fb:=zo s i;have b1:=zo s (i+1);have w1:IntKind.i64.wrap ((i:Int)+1)=((i+1:Nat):Int):=by rw[a_ _ G G];rfl
 conv=>whnf
 refine cf.fQ mixed aj ?_;conv=>whnf
 refine⟨G,?_⟩;conv=>whnf
 refine⟨G,?_⟩;conv=>whnf
 refine⟨G,?_⟩;conv=>whnf
 refine⟨by kernel_rfl,?_⟩;conv=>whnf
 refine⟨by(rw[w1];refine al8 ?_;exact(by rw[a_ (b9 s i) G G,a_ (b9 s (i+1)) G G];exact aoP G G G G:IntKind.i64.wrap ((BitVec.ofInt IntKind.i64.bits (IntKind.i64.wrap (IntKind.i64.wrap (b9 s i)*2 ^min (Int.toNat 8) IntKind.i64.bits))|||BitVec.ofInt IntKind.i64.bits (IntKind.i64.wrap (b9 s (i+1)))).toNat:Int)=kq s i)),?_⟩;conv=>whnf
def Z1(st)(c p l f):aY prog 143 [.agg [.str st,.int .i64 c,.int .i64 p,.int .i64 l,.int .i64 f]] (· =.bool (ib ⟨st,c,p,l,f⟩)):=ap6 ⟨st,c,p,l,f⟩
def apO{s}(h:s.length<12):gd s=(oT,9):=by unfold gd;rw[au h]
def apP{s}(h:12<=s.length)(E:¬s.take 2=[165,1]):gd s=(oT,11):=by unfold gd;simp_all
def apQ{s}(h:12<=s.length)(E:s.take 2=[165,1])(F:(s.length:Int)<12+b9 s 9):gd s=(oT,9):=by unfold gd;simp_all
def apR{s}(h:12<=s.length)(E:s.take 2=[165,1])(F:12+b9 s 9<(s.length:Int)):gd s=(oT,11):=by unfold gd;grind
def apS{s}(h:12<=s.length)(E:s.take 2=[165,1])(F:12+b9 s 9=(s.length:Int))(h3:¬kq s (s.length-2)=jJ (s.take (s.length-2))):gd s=(oT,10):=by unfold gd;simp_all
def apT{s}(h:12<=s.length)(E:s.take 2=[165,1])(F:12+b9 s 9=(s.length:Int))(h3:kq s (s.length-2)=jJ (s.take (s.length-2)))(h4:ib (tI s)=false):gd s=(oT,1):=by unfold gd;simp_all
def ZR{s}(h:12<=s.length)(E:s.take 2=[165,1])(F:12+b9 s 9=(s.length:Int))(h3:kq s (s.length-2)=jJ (s.take (s.length-2)))(h4:ib (tI s)=true):gd s=(tI s,0):=by unfold gd;simp_all
def yp{s}{a}{b}(h:gd s=(a,b)):SV.tup [CZ a,.int .i64 b]=I6 s:=by rw[I6,h]
def apc(s)(hs:s.length<=9223372036854775807):aY prog 77 [.str s] (· =I6 s):=by
 refine .ar aj func77 Y rfl trivial ?_;have afC:=zo s 9;have c0:=zo s 2;have w2:IntKind.i64.wrap ((s.getD (Int.toNat 2) 0).toNat:Int)=b9 s 2:=(a_ (b9 s 2) G G:IntKind.i64.wrap (b9 s 2)=b9 s 2);have E7:IntKind.i64.wrap (12+IntKind.i64.wrap (b9 s 9))=12+b9 s 9:=by rw[a_ (b9 s 9) G G,a_ _ G G]
 refine B ?_;refine⟨fun el=>?_,fun el=>?_⟩;have el:s.length<12:=by simp only[bs]at el;omega
 refine B ?_;exact yp (apO el);have el:12<=s.length:=by simp only[bX]at el;omega
 refine B ?_;refine⟨fun nT=>?_,fun nT=>?_⟩;have nT:¬s.take 2=[165,1]:=by simpa using nT
 refine B ?_;exact yp (apP el nT);have nT:s.take 2=[165,1]:=by simpa using nT
 refine B ?_;refine⟨fun rH=>?_,fun rH=>?_⟩;have rH:(s.length:Int)<12+b9 s 9:=by rw[bs]at rH;exact E7▸rH
 refine B ?_;exact yp (apQ el nT rH);have rH:¬(s.length:Int)<12+b9 s 9:=by rw[bX]at rH;exact E7▸rH
 refine B ?_;refine⟨fun uS=>?_,fun uS=>?_⟩;have uS:12+b9 s 9<(s.length:Int):=by rw[bs]at uS;exact E7▸uS
 refine B ?_;exact yp (apR el nT uS);have uS:¬12+b9 s 9<(s.length:Int):=by rw[bX]at uS;exact E7▸uS
 have Hr:12+b9 s 9=(s.length:Int):=G;have pV:IntKind.i64.wrap ((s.length:Int)-2)=((s.length-2:Nat):Int):=by rw[a_ _ G G];omega
 have Cw:=(fU (fun z=>IntKind.i64.wrap (z-2)) E7).trans (by rw[Hr,pV]);conv=>whnf
 refine cf.fQ mixed aj ?_;conv=>whnf
 refine(Gw _ _ G G G).lP [0] dC Y1 Y1 ?_;conv=>whnf
 refine⟨G,?_⟩;conv=>whnf
 refine(aho _ (by grind)).cA ?_;conv=>whnf
 refine⟨by kernel_rfl,?_⟩;conv=>whnf
 refine dT (fun p8=>?_) fun p8=>?_;refine B ?_;(simp only[Cw,pV,Int.toNat_natCast]at*;exact yp (apS el nT Hr ‹_›));conv=>whnf
 refine cf.fQ mixed aj ?_;conv=>whnf
 refine⟨G,?_⟩;conv=>whnf
 refine⟨G,?_⟩;conv=>whnf
 refine(Gw _ _ G G G).lP [0] dC Y1 Y1 (B ?_);refine(Gw _ _ G G G).lP [0] dC Y1 Y1 (B ?_);refine(Gw _ _ G G G).lP [0] dC Y1 Y1 (B ?_);refine(Z1 _ _ _ _ _).call (ri (B ?_));refine⟨fun Dd=>?_,fun Dd=>?_⟩;simp only[bs,bX,dN,dO,c5,dP,bR,dG,dH,dQ,dk,c6,dR,dL,dS,dh,ne_eq,dZ]at Dd;refine B ?_;(simp only[Cw,pV,w2,Int.toNat_natCast]at*;exact yp (apT el nT Hr (dk.1 p8) Dd));simp only[bs,bX,dN,dO,c5,dP,bR,dG,dH,dQ,dk,c6,dR,dL,dS,dh,ne_eq,dZ]at Dd;refine B ?_;(simp only[Cw,pV,w2,Int.toNat_natCast]at*;exact yp (ZR el nT Hr (dk.1 p8) Dd))
end Go.Proofs.YtfkepgkmobgleaaGreatDoor
namespace Go.Sx
open  Go.Sort
noncomputable def Vh(b:Nat)(J:Fr)(h:Hp)(K:Fr->Hp->Prop):Prop:=
 av h b fun aT=>match aT with
  |.row _ z es=>gg h b .dead fun h'=>yd b (.rs z es) J fun F'=>K F' h'
  |_=>False
def ajH{b}{J}{h}{K}(o:Vh b J h K):∃F' h',h'.length=h.length/\(∀m,lM m J h F' h')/\K F' h':=by
 have⟨aT,M,o⟩:=bg o;cases aT with
 |row t z es=>
  have⟨ai,o⟩:=jb o;have⟨F',o,hl,cB⟩:=O7 J o;refine⟨F',_,sM,fun m=>⟨fun w X g tmps O hF=>?_⟩,o⟩;have⟨aE,hS,br⟩:=O.kill m b;have cS:g[b]?=some (g[b]'(by rw[O.len];exact ai)):=aD _;have hE:∀u,Ex X (g.set b .dead) u->Ex X g u:=fun u hx=>hx.elim .inl fun I=>by exact adm
  refine⟨_,aE,⟨by rw[hl];exact hF.1,fun i s v hs hv=>?_⟩,hS⟩;have Q:i<J.length:=by rw[<-hl];exact(ao.1 hs).1
  have D:=hF.2 i _ v (aD Q) hv;rcases cB i _ s (aD Q) hs with⟨e1,e2⟩|e1;exact adY;exact RN
 |_=>cases o
def aq.ajI{P}{f}{args:List SV}{h}{K}(b)(o:Vh b args h fun bH h'=>aq P f bH h' K):aq P f args h K:=by
 obtain⟨F',h',hlen,hs,o⟩:=ajH o;refine⟨fun w X g vs O D=>?_⟩;obtain⟨V,aE,cB,hS⟩:=(hs g.length).ok w X g vs.toArray O ⟨by simpa using D.1,fun i s v E F=>D.2 i s v E (by simpa using F)⟩;refine(o.ok w X V vs aE ⟨by simpa using cB.1,fun i s v E F=>cB.2 i s v E (by simpa using F)⟩).mono fun v w'⟨s,bx,j_,hK,bb,axS,ca⟩=>?_;have hl:V.length=g.length:=by rw[aE.len,O.len,hlen]
 exact⟨s,bx,j_,hK,bb,axS,hS.trans (hl▸ca)⟩
section
variable{P:Program}
def Gd(h:Hp)(l:List Nat):Hp->(bK->Prop)->Prop:=
 List.rec (fun I k=>List.rec False (fun b t _=>List.rec (k b) (fun _ _ _=>False) t) I)
  (fun j _ ih I k=>List.rec False (fun b t _=>av h j fun b'=>b=b'/\ih t k) I) l
def afp{h}(n)(l):∀{I k},Gd h l I k->∃b,k b/\(∀k',k' b->Gd h l I k')/\∀F:Hp,(∀i∈l,F[i]?=h[i]?)->bF ((l++[n]).zip I) F=bF [(n,b)] F:=by
 induction l with
 |nil=>intro I k o;cases I with|nil=>exact o.elim|cons b t=>cases t with|nil=>exact⟨b,o,fun _ h=>h,fun _ _=>rfl⟩|cons _ _=>exact o.elim
 |cons j l ih=>intro I k o;cases I with|nil=>exact o.elim|cons b t=>have⟨b',M,e,o⟩:=bg o;subst e;have⟨c,o,hm,hu⟩:=ih o;refine⟨c,o,fun k' hc=>jY M ⟨rfl,hm k' hc⟩,fun F ha=>?_⟩;have hj:=(ha j sM).trans M;show bF ((l++[n]).zip t) (F.set j b)=_;rw[yy hj];simp_all
def al.LA{f}{args bH}{am}{s1}{em}(hs:al P f args am fun s I=>s=s1/\I=em)(A)(hl:A.length=am.length){h}{ae}{K}(hn:(A++[ae]).Nodup)(hf:h[ae]?=some .fresh) (ha:u_ (A++[ae]) args bH True)(hh:x7 (A++[ae]) h A am True)(rc:em.length=A.length+1)(o:r3 (A++[ae]) em fun bf=>Gd h A bf fun b=>rZ (A++[ae]) s1 fun s'=>K s' [(ae,b)] (A++[ae])):oF P f bH h ae K:=by have⟨bf,bi,M⟩:=IN (A++[ae]) em _ o;have⟨b,aU,_,hu⟩:=afp ae A bi;have⟨s',dc,xS⟩:=IL (A++[ae]) s1 _ aU;have⟨s2,ws,aJ,⟨e1,e2,e3⟩,aw⟩:=(hs.Gn A hl hn hf ha hh rc (K:=fun s2 ws aJ=>s2=s'/\ws=(A++[ae]).zip bf/\aJ=A++[ae]) (M _ (xS _ ⟨rfl,rfl,rfl⟩))).ok;subst e1;subst e2;subst e3;refine⟨s2,[(ae,b)],A++[ae],dc,⟨fun w X g F vs O D dz=>?_,fun p hp=>by simp_all⟩⟩;have:=aw.ok w X g F vs O D dz;unfold ea at this⊢;simp_all
end
open Go.Sort
def ED{α:Type}[Inhabited α](enc:α->Value)(w)(u m)(d)(os){cw}{T:TypeId}{fr}(U:w.heap[u]?=some (.cells cw T fr)):(grow (putRow enc (Go.Sort.ahead w m) u 0 d) os).heap[u]?=some (.cells (putCells enc 0 d cw) T fr):=by have ai:=(iF.1 U).1;show((w.heap.modify u (onCells (putCells enc 0 d)))++os)[u]?=_;rw[Ku (by simpa using ai),Fy,au rfl,U];rfl
def ap5{α:Type}[Inhabited α](enc:α->Value)(w)(u m)(d)(os){k}(o:k<w.heap.size)(cW:k≠u):(grow (putRow enc (Go.Sort.ahead w m) u 0 d) os).heap[k]?=w.heap[k]?:=by show((w.heap.modify u (onCells (putCells enc 0 d)))++os)[k]?=_;grind
def ap4{α:Type}[Inhabited α](enc:α->Value)(d)(cw)(t):(putCells enc 0 d cw)[t]?=(cw[t]?).map fun x=>if t<d.size then enc d[t]! else x:=by unfold putCells;simp_all
def aaJ{α:Type}[Inhabited α](enc:α->Value){w}{X}{u n cap z}{T:TypeId}{es aS}(O:Inv w X [.row u z n cap] [.row T z es])(d)(hd:d.size<=n*z) (hl:aS.length=es.length)(hz:∀e∈aS,e.length=z)(hv:∀i e,aS[i]?=some e->∀j s,e[j]?=some s->i*z+j<d.size/\(∀w L,af w L [] s (enc d[i*z+j]!))/\(enc d[i*z+j]!).oneCell'=true)(m)(os):Inv (grow (putRow enc (Go.Sort.ahead w m) u 0 d) os) X [.row u z n cap] [.row T z aS]/\Step 1 w [.row u z n cap] (grow (putRow enc (Go.Sort.ahead w m) u 0 d) os) [.row u z n cap]:=by
 have M:=O.ok 0 _ _ rfl rfl;obtain⟨_,hn,xK,mX,cw,⟨fr,U,dp,MY⟩,dY,_⟩:=M;have iW:w.heap.size<=(grow (putRow enc (Go.Sort.ahead w m) u 0 d) os).heap.size:=by show w.heap.size<=((w.heap.modify u (onCells (putCells enc 0 d)))++os).size;simp
 have br:∀k,bM [ba.row u z n cap] k->k=u:=fun k⟨i,e,H,o⟩=>by match i,H with|0,H=>simp at H;subst H;simpa[ba.owns]using o.symm|i+1,H=>simp at H
 have ak8:bM [ba.row u z n cap] u:=⟨0,_,rfl,by simp[ba.owns]⟩;refine⟨⟨rfl,fun i b e M H=>?_,fun i e k H o=>fj (O.lt i e k H o) iW,O.inj,O.cU,fun k hx=>fj (O.df k hx) iW⟩,⟨rfl,rfl,rfl,iW,fun k o I=>ap5 enc w u m d os o fun e=>I (e▸ak8),fun k I _=>I,fun i e _ H _=>.inl H⟩⟩;match i,M,H with
 |0,M,H=>
  simp at M H;subst M;subst H;simp only[aB];have xN:(putCells enc 0 d cw).size=cw.size:=by simp[putCells]
  refine⟨trivial,G,xK,mX,putCells enc 0 d cw,⟨fr,ED enc w u m d os U,by grind,MY⟩,by omega,fun i e H=>⟨hz e (bN H),fun j s hs=>?_⟩⟩;have⟨E,F,h3⟩:=hv i e H j s hs;have ai:i*z+j<cw.size:=by have:n*z<=cap*z:=e8 z xK;omega
  refine⟨enc d[i*z+j]!,?_,F _ _,h3⟩;rw[ap4,c4 ai];simp[E]
 |i+1,M,H=>simp at M
def al.ts{P}{f}{fn}{c}(hf:P.funcs[f]?=some fn)(hn:(fn.name== "runtime.NumGoroutine")=false)(M:fn.body=some c){args}{am}{R} (a7:∀w X g vs,Inv w X g am->b5 w (Ex X g) g args vs->Calls P f vs.toArray w fun e w'=>∃v,e=.returned v/\∃s I V,R s I/\af w' (Ex X V) V s v/\Inv w' X V I/\Step g.length w g w' V):al P f args am R:=
 ⟨⟨fun w X g vs O D=>by
  have H:=Go.Proofs.enters_of hf hn M vs.toArray w
  unfold bO
  simp_all⟩⟩
end Go.Sx
namespace Go.Proofs
open Go.Shelf Tryz Go.Sx Tryz
def sortI_ren:Go.Shelf.Ren:=⟨fun|53=>185|64=>251|63=>250|78=>315|79=>290|70=>306|71=>307|72=>308|73=>309|74=>310|75=>311|59=>312|76=>313|77=>314|88=>346|89=>347|90=>348|91=>349|92=>350|68=>319|96=>375|n=>n,fun|22=>22|23=>3|3=>3|51=>158|0=>0|67=>444|69=>235|4=>4|61=>465|60=>464|44=>54|5=>5|9=>9|75=>494|79=>498|83=>521|84=>522|n=>n,fun|n=>n⟩
def sortI:Go.Proofs.SlLaysN.n53 prog sortI_ren where
 mixed:=by kernel_rfl
 f53:=k0 func185
 f59:=k0 func312
 f63:=k0 func250
 f64:=tK func251
 f68:=k0 func319
 f70:=k0 func306
 f71:=k0 func307
 f72:=k0 func308
 f73:=k0 func309
 f74:=k0 func310
 f75:=k0 func311
 f76:=k0 func313
 f77:=k0 func314
 f78:=tK func315
 f79:=tK func290
 f88:=k0 func346
 f89:=tK func347
 f90:=tK func348
 f91:=k0 func349
 f92:=k0 func350
 f96:=k0 func375
 t0:=underlying0
 a0:=isAgg0
 z0:=sizeOf0
 v0:=zeroValue0
 t3:=underlying3
 a3:=isAgg3
 z3:=sizeOf3
 v3:=zeroValue3
 t4:=underlying4
 a4:=isAgg4
 z4:=sizeOf4
 v4:=zeroValue4
 t5:=underlying5
 a5:=isAgg5
 z5:=sizeOf5
 v5:=zeroValue5
 t9:=underlying9
 a9:=isAgg9
 z9:=sizeOf9
 v9:=zeroValue9
 t22:=underlying22
 a22:=isAgg22
 z22:=sizeOf22
 v22:=zeroValue22
 t23:=underlying3
 a23:=isAgg3
 z23:=sizeOf3
 v23:=zeroValue3
 t44:=underlying54
 a44:=isAgg54
 z44:=sizeOf54
 v44:=zeroValue54
 t51:=underlying158
 a51:=isAgg158
 z51:=sizeOf158
 v51:=zeroValue158
 t60:=underlying464
 a60:=isAgg464
 z60:=sizeOf464
 v60:=zeroValue464
 t61:=underlying465
 a61:=isAgg465
 z61:=sizeOf465
 v61:=zeroValue465
 t67:=underlying444
 a67:=isAgg444
 z67:=sizeOf444
 v67:=zeroValue444
 t69:=underlying235
 a69:=isAgg235
 z69:=sizeOf235
 v69:=zeroValue235
 t75:=underlying494
 a75:=isAgg494
 z75:=sizeOf494
 v75:=zeroValue494
 t79:=underlying498
 a79:=isAgg498
 z79:=sizeOf498
 v79:=zeroValue498
 t83:=underlying521
 a83:=isAgg521
 z83:=sizeOf521
 v83:=zeroValue521
 t84:=underlying522
 a84:=isAgg522
 z84:=sizeOf522
 v84:=zeroValue522
def sortK_ren:Go.Shelf.Ren:=⟨fun|6=>254|15=>251|14=>318|28=>315|29=>290|20=>351|21=>352|22=>353|23=>354|24=>355|25=>356|26=>357|27=>358|46=>376|47=>347|48=>348|49=>377|50=>378|57=>390|n=>n,fun|22=>195|24=>274|25=>416|3=>3|39=>158|0=>0|53=>444|55=>235|4=>4|46=>465|45=>464|50=>54|5=>5|9=>9|66=>494|70=>498|76=>521|77=>522|n=>n,fun|n=>n⟩
def sortK:Go.Proofs.SlLaysF0.n6 prog sortK_ren where
 mixed:=by kernel_rfl
 f6:=k0 func254
 f14:=k0 func318
 f15:=tK func251
 f20:=k0 func351
 f21:=k0 func352
 f22:=k0 func353
 f23:=k0 func354
 f24:=k0 func355
 f25:=k0 func356
 f26:=k0 func357
 f27:=k0 func358
 f28:=tK func315
 f29:=tK func290
 f46:=k0 func376
 f47:=tK func347
 f48:=tK func348
 f49:=k0 func377
 f50:=k0 func378
 f57:=k0 func390
 t0:=underlying0
 a0:=isAgg0
 z0:=sizeOf0
 v0:=zeroValue0
 t3:=underlying3
 a3:=isAgg3
 z3:=sizeOf3
 v3:=zeroValue3
 t4:=underlying4
 a4:=isAgg4
 z4:=sizeOf4
 v4:=zeroValue4
 t5:=underlying5
 a5:=isAgg5
 z5:=sizeOf5
 v5:=zeroValue5
 t9:=underlying9
 a9:=isAgg9
 z9:=sizeOf9
 v9:=zeroValue9
 t22:=underlying195
 a22:=isAgg195
 z22:=sizeOf195
 v22:=zeroValue195
 t25:=underlying416
 a25:=isAgg416
 z25:=sizeOf416
 v25:=zeroValue416
 t39:=underlying158
 a39:=isAgg158
 z39:=sizeOf158
 v39:=zeroValue158
 t45:=underlying464
 a45:=isAgg464
 z45:=sizeOf464
 v45:=zeroValue464
 t46:=underlying465
 a46:=isAgg465
 z46:=sizeOf465
 v46:=zeroValue465
 t50:=underlying54
 a50:=isAgg54
 z50:=sizeOf54
 v50:=zeroValue54
 t53:=underlying444
 a53:=isAgg444
 z53:=sizeOf444
 v53:=zeroValue444
 t55:=underlying235
 a55:=isAgg235
 z55:=sizeOf235
 v55:=zeroValue235
 t66:=underlying494
 a66:=isAgg494
 z66:=sizeOf494
 v66:=zeroValue494
 t70:=underlying498
 a70:=isAgg498
 z70:=sizeOf498
 v70:=zeroValue498
 t76:=underlying521
 a76:=isAgg521
 z76:=sizeOf521
 v76:=zeroValue521
 t77:=underlying522
 a77:=isAgg522
 z77:=sizeOf522
 v77:=zeroValue522
def cmpI_ren:Go.Shelf.Ren:=⟨fun|5=>256|7=>319|n=>n,fun|22=>3|3=>3|4=>4|n=>n,fun|n=>n⟩
def cmpI:Go.Proofs.SlLaysC2.n5 prog cmpI_ren where
 mixed:=by kernel_rfl
 f5:=k0 func256
 f7:=k0 func319
 t3:=underlying3
 a3:=isAgg3
 z3:=sizeOf3
 v3:=zeroValue3
 t4:=underlying4
 a4:=isAgg4
 z4:=sizeOf4
 v4:=zeroValue4
 t22:=underlying3
 a22:=isAgg3
 z22:=sizeOf3
 v22:=zeroValue3
end Go.Proofs
namespace Go.Proofs.YtfkepgkmobgleaaGreatDoor
open Go.Sx Go.Air Tryz
def agQ(es)(hl:es.length<=1000000):al prog 317 [.sl 0] [.row 193 5 es] (fun s I=>s=.sl 1/\I=[.row 193 5 es,.row 193 5 es]):=by refine al.ar aj func317 Y rfl (B ?_);exact J1
def agT(es)(hl:es.length<=1000000):al prog 225 [.sl 0] [.row 290 3 es] (fun s I=>s=.sl 1/\I=[.row 290 3 es,.row 290 3 es]):=by refine al.ar aj func225 Y rfl (B ?_);exact J1
def agP(es)(hl:es.length<=1000000):al prog 121 [.sl 0] [.row 3 1 es] (fun s I=>s=.sl 1/\I=[.row 3 1 es,.row 3 1 es]):=by refine al.ar aj func121 Y rfl (B ?_);exact J1
def RP{ab:Prop}(k:ab:=by refine dt sO (B ?_);refine dt sO (B ?_);refine dt sO (B ?_);refine B2 (by exact ahE _ _ _) (B ?_);refine dt (by simp[jr,A5,sh];omega) (B ?_);refine B3 (by simp[jr,A5,sh];omega) (B ?_);refine dt sO (B ?_);refine dt sO (B ?_);exact aoU sO (ahC _ _ _ _ Q _ _ _ _ _ rfl rfl rfl rfl rfl)):ab:=k
def ahy(es)(i j)(hj:j=i+1)(h0:0<=i)(Q:i<es.length)(hl:es.length<=1000000):al prog 193 [.sl 0,.int .i64 i,.int .i64 j] [.row 193 5 es] (fun s I=>s=.ss 0 0 (es.length-1)/\I=[.row 193 5 (es.eraseIdx i.toNat++[PX.cells])]):=by
 subst hj;obtain⟨e0,t,rfl⟩:∃e0 t,es=e0::t:=by cases es with|nil=>simp at Q;omega|cons a b=>exact⟨a,b,rfl⟩
 obtain⟨i,rfl⟩:=oD h0;simp only[pI]at Q hl;refine al.ar aj func193 Y rfl (B ?_);exact RP
def ahA(es)(i j)(hj:j=i+1)(h0:0<=i)(Q:i<es.length)(hl:es.length<=1000000):al prog 265 [.sl 0,.int .i64 i,.int .i64 j] [.row 290 3 es] (fun s I=>s=.ss 0 0 (es.length-1)/\I=[.row 290 3 (es.eraseIdx i.toNat++[[.int .i64 0,.int .i64 0,.int .i64 0]])]):=by
 subst hj;obtain⟨e0,t,rfl⟩:∃e0 t,es=e0::t:=by cases es with|nil=>simp at Q;omega|cons a b=>exact⟨a,b,rfl⟩
 obtain⟨i,rfl⟩:=oD h0;simp only[pI]at Q hl;refine al.ar aj func265 Y rfl (B ?_);exact RP
def ahx(es)(i j)(hj:j=i+1)(h0:0<=i)(Q:i<es.length)(hl:es.length<=1000000):al prog 158 [.sl 0,.int .i64 i,.int .i64 j] [.row 3 1 es] (fun s I=>s=.ss 0 0 (es.length-1)/\I=[.row 3 1 (es.eraseIdx i.toNat++[[.int .i64 0]])]):=by
 subst hj;obtain⟨e0,t,rfl⟩:∃e0 t,es=e0::t:=by cases es with|nil=>simp at Q;omega|cons a b=>exact⟨a,b,rfl⟩
 obtain⟨i,rfl⟩:=oD h0;simp only[pI]at Q hl;refine al.ar aj func158 Y rfl (B ?_);exact RP
def HD(d:Ds):Hp:=[.fix 419 [.int .i64 d.id,.int .i64 d.w,.int .i64 d.def_,.int .i64 d.turns]]
def il(d):oJ 1 (HD d):=by exact Go.Sx.Fd
def amd(u:Nat->Nat)(xs:List Ds)(i)(d)(Q:xs[i]?=some d)(id):al prog 322 [.ra (u i) 0,.ptr 0 0] [.fix 3 [.int .i64 id],.asn (aI (fun i=>[u i]) (xs.map HD))] fun v I=>v=.bool (decide (d.id=id))/\I=[.fix 3 [.int .i64 id],.asn (aI (fun i=>[u i]) (xs.map HD))]:=by refine al.ar aj func322 Y rfl (B ?_);refine cc.pool aj il (p:=1) rfl Q rfl (B ?_);exact adP
