/- Lemmas for TopZ; tactic blocks in binders fill in some arguments. -/
import Derived.Laws.RangeString
import Derived.Laws.Cover3
import Derived.Stop.IfaceNil
import Derived.LaidEql
import Derived.Test.YtfkepgkmobgleaaGreatDoorP02
set_option linter.all false
noncomputable section
set_option maxHeartbeats 0
namespace Go.Sx
section
variable{P:Program} {T:aG}
def LY{α:Type}(es:List α)(i:Nat)(k:List α->Prop):Prop:=mD i es fun a=>w4 (Nat.succ i) es fun b=>fA a b k
def ah8{α:Type}{es}{i}{k:List α->Prop}(h:LY es i k):k (es.eraseIdx i):=by have E:=(yB (show mD i es _ from h)).2;have F:=(Ct E).2;have h3:=iL F;grind
def LW(T:aG)(U:dm)(t:TypeId)(m key:SV)(K:bC):Prop:=
 aX T t fun te=>match te.ti with
  |.map kt _=>qo T kt key (match m with
   |.nilm=>K (.tup []) [] []
   |.mp b=>ij U b fun p es ck=>na key es 0 fun r=>match r with
    |some i=>LY es i fun aS=>K (.tup []) [(b,fF p aS ck)] [b]
    |none=>K (.tup []) [(b,fF p es ck)] [b]
   |_=>False)
  |_=>False
def pr{w}{L}{g}:af w L g (.tup []) (.tuple #[]):=.tup rfl sM
def ad3{ab:Prop}(k:ab:=by simp only[Builtin.delete_,iS,lG,mL,Sk,bJ,bB hu,cb,hv,my U,hc,Instr.findKey,bB ko,hf,da,vM U]):ab:=k
def Ui(hT:bl P T){J}{h:Hp}{t:TypeId}{kB}{xs}{x y}(bD:kB.toList=t::kB.toList.tail)(bv:xs.toList=[x,y]){K} (o:az J x fun m=>az J y fun key=>LW T (av h) t m key K):aN P J h (.call ⟨.builtin .delete,xs,kB⟩) K:=by
 have⟨m,o,hm⟩:=bS o;obtain⟨key,o,hy⟩:=bS o;replace o:=b4 hT o;generalize ax:(bk P t).ti=ti at o;have n5:∀A:Operand->Value,xs.map A= #[A x,A y]:=fun A=>by
  have:(xs.map A).toList=[A x,A y]:=by rw[KD,bv];rfl
  grind
 have iS:kB[0]?=some t:=by rw[<-eF,bD];rfl
 have gI:x∈(Op.call ⟨.builtin .delete,xs,kB⟩).operands.toList:=by simp[Op.operands,Call.operands];rw[<-qN,bv];simp
 have xJ:y∈(Op.call ⟨.builtin .delete,xs,kB⟩).operands.toList:=by simp[Op.operands,Call.operands];rw[<-qN,bv];simp
 cases ti with
 |map kt d4=>
  have hu:=pA (bm ax sM).1
  obtain⟨o,kS⟩:=Ij hT o
  obtain⟨d,ko,hd⟩:∃d,P.underlying kt=some d/\uv d key:=by
   exact RU
  have hex:∀A d ty pos after guard,
   execOp A ⟨d,.call ⟨.builtin .delete,xs,kB⟩,ty,pos,after,guard⟩=(do pure (Next.value (<-Builtin.delete_ kB ty #[A x,A y])):Sem Next):=fun A d ty pos after guard=>by
   exact adf
  cases m with
  |nilm=>
   refine⟨_,_,_,o,fun w X g F A d ty pos after guard O I ap=>?_,sM⟩
   have E:=hm w _ g A (I x gI)
   have cn:=hy w _ g A (I y xJ)
   have hc:=wY (P:=P) (w:=w) ko hd cn true
   refine dD (hex A d ty pos after guard) (v:=.tuple #[]) (w':=w) ?_ ⟨g,pr,O,.refl _ _ _,rfl⟩
   generalize aF:A x=vx at E
   cases E
   simp only[Builtin.delete_,iS,lG,mL,Sk,bJ,bB hu,cb,hc,da]
  |mp b=>
   have o:ij (av h) b (fun p es ck=>na key es 0 fun r=>match r with
    |some i=>LY es i fun aS=>K (.tup []) [(b,fF p aS ck)] [b]
    |none=>K (.tup []) [(b,fF p es ck)] [b]):=o
   obtain⟨p,es,ck,M,o⟩:=oh o
   obtain⟨r,o,ai,on⟩:=IC hd es o
   have a7:∀(w:World)(X:Nat->Prop)(g:Sg)(F:Hp)(A:Operand->Value)(ty:TypeId),Inv w X g F->(∀aa∈(Op.call ⟨.builtin .delete,xs,kB⟩).operands.toList,bA w (Ex X g) g J A aa)->F[b]?=h[b]?->
    ∃u ms,g[b]?=some (.obj u)/\w.heap[u]?=some (.map ms ck)/\iI w (Ex X g) g es ms/\(p=false->iI w (Ex X g) [] es ms)/\
    (match r with
     |none=>(Builtin.delete_ kB ty #[A x,A y]).run P w=.ok (.tuple #[]) (jc w u ms ck)
     |some i=>(Builtin.delete_ kB ty #[A x,A y]).run P w=.ok (.tuple #[]) (jc w u (ms.eraseIdxIfInBounds i) ck)):=fun w X g F A ty O I ap=>by
    have E:=hm w _ g A (I x gI)
    have cn:=hy w _ g A (I y xJ)
    have⟨u,ms,ak,U,hM,gy⟩:=ly O (ap.trans M)
    have hv:A x=.map (some u):=by
     exact adK
    have hf:=on w (Ex X g) g (A y) ms.toList cn (by rw[hM.1];simp) (fun j e m H hm=>(hM.2 j e m H (by grind)).1)
    have hc:=wY (P:=P) (w:=w) ko hd cn ms.isEmpty
    refine⟨u,ms,ak,U,hM,gy,?_⟩
    cases r with
    |none=>
     exact ad3
    |some i=>
     have⟨m,bq,hf,s_⟩:=hf
     exact ad3
   cases r with
   |none=>
    refine⟨_,_,_,o,fun w X g F A d ty pos after guard O I ap=>?_,sM⟩
    have⟨u,ms,ak,U,hM,gy,D⟩:=a7 w X g F A ty O I (ap b sM)
    have hp:=tM (p:=p) (c:=ck) O ak U hM gy
    exact dD (hex A d ty pos after guard) D ⟨g,pr,hp.1,hp.2,rfl⟩
   |some i=>
    have o:=ah8 o
    refine⟨_,_,_,o,fun w X g F A d ty pos after guard O I ap=>?_,sM⟩
    have⟨u,ms,ak,U,hM,gy,D⟩:=a7 w X g F A ty O I (ap b sM)
    have cj:i<ms.size:=by have:=ai i rfl;rw[<-hM.1];omega
    have er:∀τ:Sg,iI w (Ex X g) τ es ms->iI w (Ex X g) τ (es.eraseIdx i) (ms.eraseIdxIfInBounds i):=fun τ hM=>by
     have e1:(ms.eraseIdxIfInBounds i).toList=ms.toList.eraseIdx i:=by
      unfold Array.eraseIdxIfInBounds;rw[dif_pos cj];simp
     refine⟨?_,fun j e m H hm=>?_⟩
     ·have E:(ms.eraseIdxIfInBounds i).size=(ms.toList.eraseIdx i).length:=by rw[<-e1,BI]
      rw[E,qJ,qJ];simp[hM.1]
     ·rw[<-eF,e1,List.getElem?_eraseIdx]at hm
      rw[List.getElem?_eraseIdx]at H
      split at H
      ·rename_i hj
       rw[au hj,eF]at hm
       exact hM.2 j e m H hm
      ·rename_i hj
       rw[ay hj,eF]at hm
       exact hM.2 (j+1) e m H hm
    have hp:=tM (p:=p) (c:=ck) O ak U (er g hM) fun h=>er [] (gy h)
    exact dD (hex A d ty pos after guard) D ⟨g,pr,hp.1,hp.2,rfl⟩
  |_=>cases o
 |_=>cases o
def Gx(T:aG)(U:dm)(t:TypeId)(m:SV)(K:bC):Prop:=
 aX T t fun te=>match te.ti with
  |.map _ _=>(match m with
   |.nilm=>K (.tup []) [] []
   |.mp b=>ij U b fun p _ ck=>K (.tup []) [(b,fF p [] ck)] [b]
   |_=>False)
  |_=>False
def Ua(hT:bl P T){J}{h:Hp}{t:TypeId}{kB}{xs}{x}(bD:kB.toList=t::kB.toList.tail)(bv:xs.toList=[x]){K} (o:az J x fun m=>Gx T (av h) t m K):aN P J h (.call ⟨.builtin .clear,xs,kB⟩) K:=by
 have⟨m,o,hm⟩:=bS o;replace o:=b4 hT o;generalize ax:(bk P t).ti=ti at o;have n5:∀A:Operand->Value,xs.map A= #[A x]:=fun A=>by exact Bz
 have iS:kB[0]?=some t:=by rw[<-eF,bD];rfl
 have gI:x∈(Op.call ⟨.builtin .clear,xs,kB⟩).operands.toList:=by simp[Op.operands,Call.operands];rw[<-qN,bv];simp
 have hex:∀A d ty pos after guard,
  execOp A ⟨d,.call ⟨.builtin .clear,xs,kB⟩,ty,pos,after,guard⟩=(do pure (Next.value (<-Builtin.clear_ kB ty #[A x])):Sem Next):=fun A d ty pos after guard=>by
  exact adf
 cases ti with
 |map kt d4=>
  have hu:=pA (bm ax sM).1;cases m with
  |nilm=>refine⟨_,_,_,o,fun w X g F A d ty pos after guard O I ap=>?_,sM⟩;have E:=hm w _ g A (I x gI);refine dD (hex A d ty pos after guard) (v:=.tuple #[]) (w':=w) ?_ ⟨g,pr,O,.refl _ _ _,rfl⟩;generalize aF:A x=vx at E;cases E;simp only[Builtin.clear_,iS,lG,mL,bJ,bB hu,cb,da]
  |mp b=>
   have o:=o;have⟨p,es,ck,M,o⟩:=oh o;refine⟨_,_,_,o,fun w X g F A d ty pos after guard O I ap=>?_,sM⟩;have E:=hm w _ g A (I x gI);have⟨u,ms,ak,U,hM,gy⟩:=ly O ((ap b sM).trans M);have hv:A x=.map (some u):=by exact Fi
   have hp:=tM (p:=p) (es:=[]) (ms:= #[]) (c:=ck) O ak U ⟨rfl,sM⟩ fun _=>⟨rfl,sM⟩;refine dD (hex A d ty pos after guard) (v:=.tuple #[]) ?_ ⟨g,pr,hp.1,hp.2,rfl⟩;simp only[Builtin.clear_,iS,lG,mL,bJ,bB hu,cb,hv,my U,vM U,da]
  |_=>cases o
 |_=>cases o
end
section
variable{P:Program} {T:aG}
def ve(T:aG)(U:dm)(t:TypeId)(x:SV)(K:bC):Prop:=
 aX T t fun te=>match te.ti,x with
  |.slice _,.sl b=>fJ U b fun _ _ _ es=>K (.int .i64 (es.length:Int)) [] [b]
  |.slice _,.ss b _ m=>fJ U b fun _ _ _ _=>K (.int .i64 (m:Int)) [] [b]
  |.slice _,.z0=>K (.int .i64 0) [] []
  |.map _ _,.nilm=>K (.int .i64 0) [] []
  |.map _ _,.mp b=>ij U b fun _ es _=>K (.int .i64 (es.length:Int)) [] [b]
  |_,_=>False
def amM(hT:bl P T){J}{h:Hp}{t:TypeId}{kB}{xs}{x}(bD:kB.toList=t::kB.toList.tail)(bv:xs.toList=[x]){K} {m}(hm:∀w L g A,bA w L g J A x->af w L g m (A x))(o:ve T (av h) t m K):aN P J h (.call ⟨.builtin .len,xs,kB⟩) K:=by
 replace o:=b4 hT o;generalize ax:(bk P t).ti=ti at o;have n5:∀A:Operand->Value,xs.map A= #[A x]:=fun A=>by exact Bz
 have iS:kB[0]?=some t:=by rw[<-eF,bD];rfl
 have gI:x∈(Op.call ⟨.builtin .len,xs,kB⟩).operands.toList:=by simp[Op.operands,Call.operands];rw[<-qN,bv];simp
 have hex:∀A d ty pos after guard,
  execOp A ⟨d,.call ⟨.builtin .len,xs,kB⟩,ty,pos,after,guard⟩=(do pure (Next.value (<-Builtin.len_ kB ty #[A x])):Sem Next):=fun A d ty pos after guard=>by
  exact adf
 cases ti with
 |slice e=>
  have hu:=fi (bm ax sM).1;cases m with
  |sl b=>
   have o:=o;have⟨p,T0,z,es,M,o⟩:=kz o;refine⟨_,_,_,o,fun w X g F A d ty pos after guard O I ap=>?_,sM⟩;have E:=hm w _ g A (I x gI);have hv:∃a c,A x=.slice a es.length c:=by generalize aF:A x=vx at E;rcases ot O ((ap b sM).trans M)with⟨u,cap,vs,ak,_⟩|⟨ak,dA⟩;cases E<;>grind;cases E<;>grind
   have⟨a,c,hv⟩:=hv;refine dD (hex A d ty pos after guard) (v:=.int .i64 (es.length:Int)) (w':=w) ?_ ⟨g,.int,O,.refl _ _ _,rfl⟩;exact adX
  |z0=>
   refine⟨_,_,_,o,fun w X g F A d ty pos after guard O I ap=>?_,sM⟩;have E:=hm w _ g A (I x gI);have hv:∃a,A x=.slice a 0 0:=by generalize aF:A x=vx at E;cases E with|z0=>simp_all
   have⟨a,hv⟩:=hv;refine dD (hex A d ty pos after guard) (v:=.int .i64 0) (w':=w) ?_ ⟨g,.int,O,.refl _ _ _,rfl⟩;simp only[Builtin.len_,iS,lG,mL,bJ,bB hu,cb,hv,da,goInt];rfl
  |ss b lo n=>
   have o:=o;have⟨p,T0,z,es,M,o⟩:=kz o;refine⟨_,_,_,o,fun w X g F A d ty pos after guard O I ap=>?_,sM⟩;have E:=hm w _ g A (I x gI);have hv:∃a c,A x=.slice a n c:=by generalize aF:A x=vx at E;cases E with|ss _ _ _=>simp_all|eS _=>simp_all|ej h'=>rcases ot O ((ap b sM).trans M)with⟨u,cap,vs,ak,_⟩|⟨ak,dA⟩<;>(simp_all)
   have⟨a,c,hv⟩:=hv;refine dD (hex A d ty pos after guard) (v:=.int .i64 (n:Int)) (w':=w) ?_ ⟨g,.int,O,.refl _ _ _,rfl⟩;exact adX
  |_=>cases o
 |map kt d4=>
  have hu:=pA (bm ax sM).1;cases m with
  |nilm=>refine⟨_,_,_,o,fun w X g F A d ty pos after guard O I ap=>?_,sM⟩;have E:=hm w _ g A (I x gI);refine dD (hex A d ty pos after guard) (v:=.int .i64 0) (w':=w) ?_ ⟨g,.int,O,.refl _ _ _,rfl⟩;generalize aF:A x=vx at E;cases E;simp only[Builtin.len_,iS,lG,mL,bJ,bB hu,cb,da,goInt]
  |mp b=>
   have o:=o;have⟨p,es,ck,M,o⟩:=oh o;refine⟨_,_,_,o,fun w X g F A d ty pos after guard O I ap=>?_,sM⟩;have E:=hm w _ g A (I x gI);have⟨u,ms,ak,U,hM,gy⟩:=ly O ((ap b sM).trans M);have hv:A x=.map (some u):=by exact Fi
   refine dD (hex A d ty pos after guard) (v:=.int .i64 (es.length:Int)) (w':=w) ?_ ⟨g,.int,O,.refl _ _ _,rfl⟩;simp only[Builtin.len_,iS,lG,mL,bJ,bB hu,cb,hv,my U,da,goInt,hM.1]
  |_=>cases o
 |_=>simp_all
def XP(hT:bl P T){J}{h:Hp}{t:TypeId}{kB}{xs}{x}(bD:kB.toList=t::kB.toList.tail)(bv:xs.toList=[x]){K} (o:az J x fun m=>ve T (av h) t m K):aN P J h (.call ⟨.builtin .len,xs,kB⟩) K:=by have⟨m,o,hm⟩:=bS o;exact amM hT bD bv hm o
def Pf(T:aG)(U:dm)(t:TypeId)(m key:SV)(K:bC):Prop:=
 aX T t fun te=>match te.ti with
  |.map kt d4=>qo T kt key (match m with
   |.mp b=>ij U b fun p es ck=>na key es 0 fun r=>match r with
    |some i=>av es i fun e=>K (.tup [e.2.1,.int .i64 (e.2.2:Int)]) [(b,fF p es ck)] [b]
    |none=>k6 T d4 fun z=>fA es [(key,z,ck)] fun aS=>K (.tup [z,.int .i64 (ck:Int)]) [(b,fF (hG p z) aS (Nat.succ ck))] [b]
   |_=>False)
  |_=>False
def Yq(hT:bl P T){J}{h:Hp}{t:TypeId}{x y}{K}{m key}(hm:∀w L g A,bA w L g J A x->af w L g m (A x)) (hy:∀w L g A,bA w L g J A y->af w L g key (A y))(o:Pf T (av h) t m key K):aN P J h (.mapEntry t x y) K:=by
 replace o:=b4 hT o;generalize ax:(bk P t).ti=ti at o;cases ti with
 |map kt d4=>
  have hu:=pA (bm ax sM).1;have⟨o,kS⟩:=Ij hT o;obtain⟨d,ko,hd⟩:∃d,P.underlying kt=some d/\uv d key:=by exact RU
  cases m with
  |mp b=>
   have o:ij (av h) b (fun p es ck=>na key es 0 fun r=>match r with|some i=>av es i fun e=>K (.tup [e.2.1,.int .i64 (e.2.2:Int)]) [(b,fF p es ck)] [b]|none=>k6 T d4 fun z=>fA es [(key,z,ck)] fun aS=>K (.tup [z,.int .i64 (ck:Int)]) [(b,fF (hG p z) aS (Nat.succ ck))] [b]):=o;have⟨p,es,ck,M,o⟩:=oh o;have⟨r,o,ai,on⟩:=IC hd es o;cases r with
   |none=>
    have⟨s,z,o,hz,l8⟩:=Br hT o;have o:=iL o;have OH:eK key:=by exact axP
    refine⟨_,_,_,o,fun w X g F A d ty pos after guard O I ap=>?_,sM⟩;have E:=hm w _ g A (I x rO);have cn:=hy w _ g A (I y rO);have⟨u,ms,ak,U,hM,gy⟩:=ly O ((ap b sM).trans M);have hv:A x=.map (some u):=by exact adK
    have hf:=on w (Ex X g) g (A y) ms.toList cn (by rw[hM.1];simp) (fun j e m H hm=>(hM.2 j e m H (by grind)).1);have hc:=wY (P:=P) (w:=w) ko hd cn false;have mk:∀τ:Sg,iI w (Ex X g) τ es ms->af w (Ex X g) τ key (A y)->af w (Ex X g) τ s z->iI w (Ex X g) τ (es++[(key,s,ck)]) (ms.push {key:=A y,val:=z,born:=ck}):=fun τ hM a1 a2=>by exact ub
    have hp:=tM (p:=hG p s) (c:=ck+1) O ak U (mk g hM cn (l8 _ _ _)) (fun hp=>by have⟨e1,_⟩:=El hp;exact mk [] (gy e1) (OH _ _ _ _ _ cn) (l8 _ _ _));refine dD (m:=Instr.mapEntry t (A x) (A y)) rfl (v:=.tuple #[z,.int .i64 (ck:Int)]) (w':=jc w u (ms.push {key:=A y,val:=z,born:=ck}) (ck+1)) ?_ ⟨g,oo (l8 _ _ _) .int,hp.1,hp.2,rfl⟩;simp only[Instr.mapEntry,bJ,bB hu,cb,hv,my U,hc,Instr.findKey,bB ko,hf,da,hz w,vM U,goInt]
   |some i=>
    have⟨e,H,o⟩:=bg o;refine⟨_,_,_,o,fun w X g F A d ty pos after guard O I ap=>?_,sM⟩;have E:=hm w _ g A (I x rO);have cn:=hy w _ g A (I y (by simp[Op.operands]));have⟨u,ms,ak,U,hM,gy⟩:=ly O ((ap b sM).trans M);have hv:A x=.map (some u):=by exact adK
    have hf:=on w (Ex X g) g (A y) ms.toList cn (by rw[hM.1];simp) (fun j e m H hm=>(hM.2 j e m H (by grind)).1);have hc:=wY (P:=P) (w:=w) ko hd cn false;have⟨m,bq,hf,s_⟩:=hf;rw[wh,eF]at bq;have Np:=Xz (P:=P) hd cn;have same:ms.modify i (fun e=>{e with key:=A y})=ms:=by apply FN;intro j;rw[Fy];by_cases Q:i=j;subst Q;rw[au rfl,bq];have⟨k,v,B5⟩:=m;grind;rw[ay Q]
    have hp:=tM (p:=p) (c:=ck) O ak U hM gy;have xG:=hM.2 i e m H bq;refine dD (m:=Instr.mapEntry t (A x) (A y)) rfl (v:=.tuple #[m.val,.int .i64 (m.born:Int)]) (w':=jc w u ms ck) ?_ ⟨g,?_,hp.1,hp.2,rfl⟩;simp only[Instr.mapEntry,bJ,bB hu,cb,hv,my U,hc,Instr.findKey,bB ko,hf,da,bq,nC,Option.getD_some,s_,Np,same,vM U,goInt];rw[xG.2.2];exact oo (xG.2.1.step hp.2 (aC _)) .int
  |_=>cases o
 |_=>cases o
def anB(hT:bl P T){J}{h:Hp}{t:TypeId}{x y}{K}(o:az J x fun m=>az J y fun key=>Pf T (av h) t m key K):aN P J h (.mapEntry t x y) K:=by have⟨m,o,hm⟩:=bS o;have⟨key,o,hy⟩:=bS o;exact Yq hT hm hy o
def B7(n:Int)(es:List ME):Nat->(Nat->Prop)->Prop:=
 List.rec (fun _ _=>False) (fun e _ ih i k=>dy (decide ((e.2.2:Int)=n)) (k i) (ih (Nat.succ i) k)) es
def af0{n}(es):∀{i k},B7 n es i k->∃j,k j/\i<=j/\(∃e,es[j-i]?=some e/\(e.2.2:Int)=n)/\∀l,l<j-i->∀e,es[l]?=some e->(e.2.2:Int)≠n:=by induction es with|nil=>intro i k h;cases h|cons e es ih=>intro i k h;rcases gk h with⟨M,h⟩|⟨M,h⟩;exact⟨i,h,aC _,⟨e,sM,cZ M⟩,fun l hl=>by omega⟩;have⟨j,o,E,⟨e',F,h3⟩,h4⟩:=ih h;have hj:j-i=(j-Nat.succ i)+1:=G;refine⟨j,o,G,⟨e',by grind,h3⟩,fun l hl e'' H=>?_⟩;grind
def L2(U:dm)(m st v:SV)(K:bC):Prop:=
 match m,st with
 |.mp b,.int _ n=>ij U b fun p es ck=>B7 n es 0 fun i=>av es i fun e=>gg es i (e.1,v,e.2.2) fun aS=>K .undef [(b,fF (hG p v) aS ck)] [b]
 |_,_=>False
def UN{J}{h:Hp}{t:TypeId}{x y z}{K}{m st v}(hm:∀w L g A,bA w L g J A x->af w L g m (A x)) (hy:∀w L g A,bA w L g J A y->af w L g st (A y))(hz:∀w L g A,bA w L g J A z->af w L g v (A z)) (o:L2 (av h) m st v K):aN P J h (.entryStore t x y z) K:=by
 cases m with
 |mp b=>
  cases st with
  |int q n=>
   have o:ij (av h) b (fun p es ck=>B7 n es 0 fun i=>av es i fun e=>gg es i (e.1,v,e.2.2) fun aS=>K .undef [(b,fF (hG p v) aS ck)] [b]):=o;have⟨p,es,ck,M,o⟩:=oh o;have⟨i,o,_,⟨e0,lY,dn⟩,aj9⟩:=af0 es o;rw[wh]at lY aj9;have⟨e,H,o⟩:=bg o;have⟨_,o⟩:=jb o;have:e0=e:=by rw[lY]at H;simpa using H
   subst this;refine⟨_,_,_,o,fun w X g F A d ty pos after guard O I ap=>?_,sM⟩;have E:=hm w _ g A (I x rO);have cn:=hy w _ g A (I y (by simp[Op.operands]));have h3:=hz w _ g A (I z rO);have⟨u,ms,ak,U,hM,gy⟩:=ly O ((ap b sM).trans M);have hv:A x=.map (some u):=by exact Fi
   have N4:A y=.int q n:=by generalize aF:A y=vy at cn;cases cn;rfl
   have cj:i<ms.size:=by rw[<-hM.1];exact(ao.1 H).1
   have C6:ms.findIdx? (fun e=>((e.born:Int)==n))=some i:=by
    rw[Array.findIdx?_eq_some_iff_getElem];refine⟨cj,?_,fun j hj=>?_⟩;have:=(hM.2 i e0 ms[i] H (c4 cj)).2.2;simp_all;have dq:j<es.length:=by rw[hM.1];omega
    have:=(hM.2 j _ ms[j] (aD dq) (c4 G)).2.2;grind
   have mk:∀τ:Sg,iI w (Ex X g) τ es ms->af w (Ex X g) τ v (A z)->iI w (Ex X g) τ (es.set i (e0.1,v,e0.2.2)) (ms.modify i fun e=>{e with val:=A z}):=fun τ hM a2=>by refine⟨by simp[hM.1],fun j e' m' aK bq=>?_⟩;rw[bu]at aK;rw[Fy]at bq;by_cases Q:i=j;subst Q;rw[au rfl,c4 cj]at bq;rw[au rfl,au (ao.1 H).1]at aK;simp at bq;subst bq;simp at aK;subst aK;have⟨b1,_,i6⟩:=hM.2 i e0 ms[i] H (c4 cj);simp_all;rw[ay Q]at aK bq;exact hM.2 j e' m' aK bq
   have hp:=tM (p:=hG p v) (c:=ck) O ak U (mk g hM h3) (fun hp=>by have⟨e1,e2⟩:=El hp;exact mk [] (gy e1) (e2 _ _ _ _ _ h3));refine AP (m:=Instr.entryStore t (A x) (A y) (A z)) rfl (w':=jc w u (ms.modify i fun e=>{e with val:=A z}) ck) ?_ ⟨g,.undef,hp.1,hp.2,rfl⟩;simp only[Instr.entryStore,bJ,hv,cb,my U,N4,asInt,asIntOf,da,C6,vM U]
  |_=>cases o
 |_=>cases st<;>cases o
def ait{J}{h:Hp}{t:TypeId}{x y z}{K}(o:az J x fun m=>az J y fun st=>az J z fun v=>L2 (av h) m st v K):aN P J h (.entryStore t x y z) K:=by have⟨m,o,hm⟩:=bS o;have⟨st,o,hy⟩:=bS o;have⟨v,o,hz⟩:=bS o;exact UN hm hy hz o
end
section
variable{P:Program} {T:aG}
def vt{w}{X}{g}{h}(O:Inv w X g h){b:Nat}{bw}(M:h[b]?=some bw)(o:(∃s p,bw=.sit s p)\/(∃m a l c,bw=.mit m a l c)):∃u,g[b]?=some (.obj u)/\aB w (Ex X g) g bw (.obj u):=by
 have ai:b<g.length:=by rw[O.len];exact(ao.1 M).1
 have H:=aD ai;have:=O.ok b _ _ M H;rcases o with⟨s,p,rfl⟩|⟨m,a,l,c,rfl⟩;all_goals
  cases ak:g[b]'ai<;>rw[ak]at this H<;>first|exact⟨_,H,this⟩|exact this.elim
def j5(w:World)(u:Nat)(aa:Obj):World:={w with heap:=w.heap.setIfInBounds u aa}
def as0{w}{u}{aa}:(j5 w u aa).os=w.os/\(j5 w u aa).tape=w.tape/\(j5 w u aa).output=w.output/\(j5 w u aa).heap.size=w.heap.size/\∀k,k≠u->(j5 w u aa).heap[k]?=w.heap[k]?:=
 ⟨rfl,rfl,rfl,by simp[j5],fun k o=>by simp only[j5];grind⟩
def JE{w}{u}{aa o'}(h:w.heap[u]?=some aa):(j5 w u o').heap[u]?=some o':=by have:=(iF.1 h).1;simp[j5,this]
def I_{w}{X}{g}{h}(O:Inv w X g h){b u}(ak:g[b]?=some (.obj u)){aa}{bw} (aw:Step g.length w g (j5 w u aa) g->aB (j5 w u aa) (Ex X g) g bw (.obj u)):Inv (j5 w u aa) X g (h.set b bw)/\Step g.length w g (j5 w u aa) g:=by have⟨f1,f2,f3,f4,f5⟩:=as0 (w:=w) (u:=u) (aa:=aa);have hS:=(pE ak rfl f1 f2 f3 f4 f5).any (m:=g.length);exact⟨pC O ak rfl f1 f2 f3 f4 f5 (aw hS),hS⟩
def aaj(T:aG)(U:dm)(ae:Nat)(t:TypeId)(x:SV)(K:bC):Prop:=
 aX T t fun te=>match te.ti,x with
  |.str,.str s=>K (.it ae) [(ae,.sit s 0)] [ae]
  |.map _ _,.nilm=>K (.it ae) [(ae,.mit none 0 [] 0)] [ae]
  |.map _ _,.mp b=>ij U b fun _ _ ck=>K (.it ae) [(ae,.mit (some b) ck [] ck)] [ae,b]
  |_,_=>False
def aak(hT:bl P T){J}{h:Hp}{ae}(hf:h[ae]?=some .fresh){t:TypeId}{x}{K}(o:az J x fun x=>aaj T (av h) ae t x K):aN P J h (.range t x) K:=by
 have⟨m,o,hm⟩:=bS o;replace o:=b4 hT o;generalize ax:(bk P t).ti=ti at o;have mk:∀w X g F aa bw,Inv w X g F->F[ae]?=some .fresh->
  (Step g.length w g (w.alloc aa) (g.set ae (.obj w.heap.size))->(w.alloc aa).heap[w.heap.size]?=some aa->aB (w.alloc aa) (Ex X (g.set ae (.obj w.heap.size))) (g.set ae (.obj w.heap.size)) bw (.obj w.heap.size))->
  ∃V,af (w.alloc aa) (Ex X V) V (.it ae) (.pointer (some ⟨w.heap.size,0,none⟩))/\Inv (w.alloc aa) X V (bF [(ae,bw)] F)/\Step g.length w g (w.alloc aa) V/\V.length=g.length:=by
  intro w X g F aa bw O cE aw
  have hS:=pM (w':=w.alloc aa) O cE (e:=.obj w.heap.size) rfl rfl rfl rfl rfl
  have ai:=(ao.1 (lR O cE)).1
  refine⟨g.set ae (.obj w.heap.size),.it (by simp[ai]),?_,hS,sM⟩
  rw[kC]
  have iT:(w.alloc aa).heap[w.heap.size]?=some aa:=by show(w.heap.push aa)[w.heap.size]?=_;simp
  exact qW (w':=w.alloc aa) O cE (e:=.obj w.heap.size) (b:=bw) rfl rfl rfl rfl rfl (aw hS iT)
 cases ti with
 |str=>have hu:=qG (bm ax sM).1;cases m with|str s=>refine⟨_,_,_,o,fun w X g F A d ty pos after guard O I ap=>?_,sM⟩;have E:=hm w _ g A (I x rO);have cE:=(ap ae sM).trans hf;refine dD (m:=Instr.range t (A x)) rfl (v:=.pointer (some ⟨w.heap.size,0,none⟩)) (w':=w.alloc (.stringIter ⟨s.toArray⟩ 0)) ?_ (mk w X g F _ _ O cE fun _ hn=>hn);generalize aF:A x=vx at E;cases E;exact run_range_string w t _ hu|_=>cases o
 |map kt d4=>
  have hu:=pA (bm ax sM).1;cases m with
  |nilm=>refine⟨_,_,_,o,fun w X g F A d ty pos after guard O I ap=>?_,sM⟩;have E:=hm w _ g A (I x rO);have cE:=(ap ae sM).trans hf;refine dD (m:=Instr.range t (A x)) rfl (v:=.pointer (some ⟨w.heap.size,0,none⟩)) (w':=w.alloc (.mapIter none 0 #[] 0)) ?_ (mk w X g F _ _ O cE fun _ hn=>⟨none,hn,rfl⟩);generalize aF:A x=vx at E;cases E;simp only[Instr.range,bJ,bB hu,cb,da];rfl
  |mp b=>
   have o:=o;have⟨p,es,ck,M,o⟩:=oh o;refine⟨_,_,_,o,fun w X g F A d ty pos after guard O I ap=>?_,sM⟩;have E:=hm w _ g A (I x rO);have cE:=(ap ae sM).trans hf;have aP:=(ap b sM).trans M;have⟨u,ms,ak,U,hM,gy⟩:=ly O aP;have mW:b≠ae:=by rintro rfl;rw[aP]at cE;cases p<;>simp[fF]at cE
   have hv:A x=.map (some u):=by exact Fi
   refine dD (m:=Instr.range t (A x)) rfl (v:=.pointer (some ⟨w.heap.size,0,none⟩)) (w':=w.alloc (.mapIter (some u) ck #[] ck)) ?_ (mk w X g F _ _ O cE fun _ hn=>⟨some u,hn,.inl ⟨u,?_,rfl⟩⟩);rw[hv];simp only[Instr.range,bJ,bB hu,cb,my U,da];rfl;grind
  |_=>cases o
 |_=>simp_all
def leftOf(es:List ME)(seen:List Nat):List ME:=es.filter fun e=> !seen.contains e.2.2
def YO(c:Bool)(U:dm)(it:SV)(str:Bool)(K:bC):Prop:=
 match it with
 |.it b=>U b fun bw=>match bw,str with
  |.sit s pos,true=>dy (decide (pos<s.length))
   (dy (decide ((s.getD pos 0).toNat<128)) (GY c (s.getD pos 0).toNat fun ch=>K (.tup [.tt,.int .i64 (pos:Int),.int .i32 ch]) [(b,.sit s (Nat.succ pos))] [b])
    (GY c ((Go.Utf8.decode ⟨s.toArray⟩ pos).1:Int) fun ch=>iz (Nat.add pos (Go.Utf8.decode ⟨s.toArray⟩ pos).2) fun q=>K (.tup [.tt,.int .i64 (pos:Int),.int .i32 ch]) [(b,.sit s q)] [b]))
   (K (.tup [.ff]) [] [b])
  |.mit none _ _ _,false=>K (.tup [.ff]) [] [b]
  |.mit (some m) since seen st,false=>ij U m fun _ es ck=>
   bo (seen.isEmpty||es.isEmpty|| !(es.all fun e=>decide (st<=e.2.2)))
    (List.rec (K (.tup [.ff]) [] [b,m]) (fun e r _=>List.rec
     (bo (decide (e.2.2<since)) (K (.tup [.tt,e.1,e.2.1]) [(b,.mit (some m) since (seen++[e.2.2]) ck)] [b,m])) (fun _ _ _=>False) r) (leftOf es seen))
  |_,_=>False
 |_=>False
def aiX(p:Nat->Bool)(R:ME->MapEntry->Prop)(es:List ME):∀(ls:List MapEntry),es.length=ls.length->(∀(i:Nat)(e:ME)(m:MapEntry),es[i]?=some e->ls[i]?=some m->R e m/\m.born=e.2.2)->(es.filter fun e=>p e.2.2).length=(ls.filter fun m=>p m.born).length/\∀(i:Nat)(e:ME)(m:MapEntry),(es.filter fun e=>p e.2.2)[i]?=some e->(ls.filter fun m=>p m.born)[i]?=some m->R e m/\m.born=e.2.2:=by
 induction es with
 |nil=>grind
 |cons e es ih=>
  intro ls hl D;cases ls with
  |nil=>simp at hl
  |cons m ls=>
   have⟨E,F⟩:=D 0 e m rfl rfl;have⟨h3,h4⟩:=ih ls (by simpa using hl) (fun i e m H hm=>D (i+1) e m (by simpa using H) (by simpa using hm));rw[SH,SH,F];by_cases hp:p e.2.2=true;rw[au hp,au hp];refine⟨by simp[h3],fun i e' m' aK bq=>?_⟩;cases i with|zero=>grind|succ i=>exact h4 i e' m' (by simpa using aK) (by simpa using bq)
   rw[ay hp,ay hp];grind
def Jn{w}{L}{g}{s}{v}(E:af w L g s v):af w L g (.tup [s]) (.tuple #[v]):=by refine .tup rfl fun i a x ha hx=>?_;grind
def Jo{w}{L}{g}{s t r}{v ag x}(E:af w L g s v)(F:af w L g t ag)(h3:af w L g r x):af w L g (.tup [s,t,r]) (.tuple #[v,ag,x]):=by refine .tup rfl fun i a y ha hy=>?_;match i with|0=>simp_all|1=>simp_all|2=>simp_all|_+3=>simp at ha
def aok{c}{J}{h:Hp}{x}{str}{K}(o:az J x fun x=>YO c (av h) x str K):aN P J h (.next x str) K:=by
 have⟨m,o,hm⟩:=bS o;cases m with
 |it b=>
  have⟨bw,M,o⟩:=bg o;have o8:∀w X g A u,(∀aa∈(Op.next x str).operands.toList,bA w (Ex X g) g J A aa)->g[b]?=some (.obj u)->A x=.pointer (some ⟨u,0,none⟩):=fun w X g A u I ak=>by have E:=hm w _ g A (I x rO);generalize aF:A x=vx at E;cases E<;>simp_all
  cases bw with
  |sit s pos=>
   cases str with
   |false=>cases o
   |true=>
    rcases gk o with⟨ai,o⟩|⟨ai,o⟩
    ·have ai:=cZ ai;rcases gk o with⟨ha,o⟩|⟨_,o⟩;rotate_left;have o:=Mh (k:=fun ch=>iz (Nat.add pos (Go.Utf8.decode ⟨s.toArray⟩ pos).2) fun q=>K (.tup [.tt,.int .i64 (pos:Int),.int .i32 ch]) [(b,.sit s q)] [b]) o;have o:=mf (k:=fun q=>K (.tup [.tt,.int .i64 (pos:Int),.int .i32 ((Go.Utf8.decode ⟨s.toArray⟩ pos).1:Int)]) [(b,.sit s q)] [b]) o;refine⟨_,_,_,o,fun w X g F A d ty ps after guard O I ap=>?_,sM⟩;have⟨u,ak,aw⟩:=vt O ((ap b sM).trans M) (.inl ⟨_,_,rfl⟩);have U:w.heap[u]?=some (.stringIter ⟨s.toArray⟩ pos):=aw;have dY:pos<(⟨s.toArray⟩:ByteArray).size:=by simpa[ByteArray.size]using ai
     have hp:=I_ (aa:=.stringIter ⟨s.toArray⟩ (pos+(Go.Utf8.decode ⟨s.toArray⟩ pos).2)) (bw:=.sit s (pos+(Go.Utf8.decode ⟨s.toArray⟩ pos).2)) O ak fun _=>JE U;refine dD (m:=Instr.next (A x) true ty) rfl (v:=.tuple #[.bool true,.int .i64 (pos:Int),.int .i32 ((Go.Utf8.decode ⟨s.toArray⟩ pos).1:Int)]) (w':=j5 w u (.stringIter ⟨s.toArray⟩ (pos+(Go.Utf8.decode ⟨s.toArray⟩ pos).2))) ?_ ⟨g,Jo .tt .int .int,hp.1,hp.2,rfl⟩;rw[o8 w X g A u I ak];simp only[Instr.next,getObj,setObj,bJ,Sem.run,U,Result.andThen,dY,dw,goInt];rfl;have ha:=cZ ha;have o:=Mh (k:=fun ch=>K (.tup [.tt,.int .i64 (pos:Int),.int .i32 ch]) [(b,.sit s (Nat.succ pos))] [b]) o;refine⟨_,_,_,o,fun w X g F A d ty ps after guard O I ap=>?_,sM⟩;have⟨u,ak,aw⟩:=vt O ((ap b sM).trans M) (.inl ⟨_,_,rfl⟩);have U:w.heap[u]?=some (.stringIter ⟨s.toArray⟩ pos):=aw;have dY:pos<(⟨s.toArray⟩:ByteArray).size:=by simpa[ByteArray.size]using ai
     have h2:((⟨s.toArray⟩:ByteArray)[pos]'dY)=s.getD pos 0:=by show s.toArray[pos]=_;simp[List.getD,aD ai]
     have hd:=decode_ascii (⟨s.toArray⟩:ByteArray) pos dY (by simp_all);rw[h2]at hd;have hp:=I_ (aa:=.stringIter ⟨s.toArray⟩ (pos+1)) (bw:=.sit s (pos+1)) O ak fun _=>JE U;refine dD (m:=Instr.next (A x) true ty) rfl (v:=.tuple #[.bool true,.int .i64 (pos:Int),.int .i32 ((s.getD pos 0).toNat:Int)]) (w':=j5 w u (.stringIter ⟨s.toArray⟩ (pos+1))) ?_ ⟨g,Jo .tt .int .int,hp.1,hp.2,rfl⟩;rw[o8 w X g A u I ak];simp only[Instr.next,getObj,setObj,bJ,Sem.run,U,Result.andThen,dY,dw,hd,goInt];rfl
    have ai:=FD ai;refine⟨_,_,_,o,fun w X g F A d ty ps after guard O I ap=>?_,sM⟩;have⟨u,ak,aw⟩:=vt O ((ap b sM).trans M) (.inl ⟨_,_,rfl⟩);have U:w.heap[u]?=some (.stringIter ⟨s.toArray⟩ pos):=aw;have dY:¬pos<(⟨s.toArray⟩:ByteArray).size:=by simpa[ByteArray.size]using ai
    refine dD (m:=Instr.next (A x) true ty) rfl (v:=.tuple #[.bool false]) (w':=w) ?_ ⟨g,Jn .ff,O,.refl _ _ _,rfl⟩;rw[o8 w X g A u I ak];simp only[Instr.next,getObj,bJ,Sem.run,U,Result.andThen,dY,ek,da]
  |mit mb since seen st=>
   cases str with
   |true=>simp_all
   |false=>
    cases mb with
    |none=>refine⟨_,_,_,o,fun w X g F A d ty ps after guard O I ap=>?_,sM⟩;have⟨u,ak,r,U,D⟩:=vt O ((ap b sM).trans M) (.inr ⟨_,_,_,_,rfl⟩);have D:=D;subst D;refine dD (m:=Instr.next (A x) false ty) rfl (v:=.tuple #[.bool false]) (w':=w) ?_ ⟨g,Jn .ff,O,.refl _ _ _,rfl⟩;rw[o8 w X g A u I ak];simp only[Instr.next,getObj,bJ,Sem.run,U,Result.andThen,da]
    |some mm=>
     have⟨p,es,ck,ki,o⟩:=oh o;have⟨awN,o⟩:=bL o;have facts:∀w X g F,Inv w X g F->F[b]?=h[b]?->F[mm]?=h[mm]?->
      ∃u g5 ms,g[b]?=some (.obj u)/\g[mm]?=some (.obj g5)/\w.heap[u]?=some (.mapIter (some g5) since seen.toArray st)/\w.heap[g5]?=some (.map ms ck)/\iI w (Ex X g) g es ms/\
       ((!seen.toArray.isEmpty&& !ms.isEmpty&&ms.all (fun e=>decide (e.born≥st)))=false)/\
       (leftOf es seen).length=(ms.filter fun e=> !seen.toArray.contains e.born).size/\
       ∀(i:Nat)(e:ME)(m:MapEntry),(leftOf es seen)[i]?=some e->(ms.filter fun e=> !seen.toArray.contains e.born)[i]?=some m->(af w (Ex X g) g e.1 m.key/\af w (Ex X g) g e.2.1 m.val)/\m.born=e.2.2:=fun w X g F O e1 e2=>by
      have⟨u,ak,r,U,D⟩:=vt O (e1.trans M) (.inr ⟨_,_,_,_,rfl⟩)
      have⟨g5,ms,u7,p6,hM,_⟩:=ly O (e2.trans ki)
      have o_:r=some g5:=by
       exact adn
      subst o_
      have g8:=aiX (fun n=> !seen.contains n) (fun e m=>af w (Ex X g) g e.1 m.key/\af w (Ex X g) g e.2.1 m.val) es ms.toList (by rw[hM.1];simp) (fun i e m H hm=>by
       have⟨a1,a2,a3⟩:=hM.2 i e m H (by simp_all)
       simp_all)
      have jQ:(ms.filter fun e=> !seen.toArray.contains e.born).toList=ms.toList.filter fun m=> !seen.contains m.born:=by
       rw[Array.toList_filter];simp
      refine⟨u,g5,ms,ak,u7,U,p6,hM,?_,?_,fun i e m H hm=>g8.2 i e m H ?_⟩
      ·have dl:ms.all (fun e=>decide (e.born≥st))=es.all fun e=>decide (st<=e.2.2):=by
        rw[Fz,Array.all_eq_true',ir]
        constructor
        ·intro ha e H
         have⟨i,Q⟩:=fx.1 H
         have cj:i<ms.size:=by rw[<-hM.1];exact(ao.1 Q).1
         have:=ha ms[i] sM
         rw[(hM.2 i e _ Q (c4 cj)).2.2]at this
         exact this
        ·intro ha m hm
         have⟨i,cj,Q⟩:=SI.1 hm
         have g9:i<es.length:=by rw[hM.1];exact cj
         have:=ha es[i] sM
         have h3:=(hM.2 i _ m (aD g9) (by grind)).2.2
         grind
       have avN:ms.isEmpty=es.isEmpty:=by
        have hl:=hM.1
        rw[Fz,Array.isEmpty_iff_size_eq_zero,List.isEmpty_iff_length_eq_zero,<-hl]
       grind
      ·rw[<-BI,jQ];exact g8.1
      grind
     cases uV:leftOf es seen with
     |nil=>rw[uV]at o;refine⟨_,_,_,o,fun w X g F A d ty ps after guard O I ap=>?_,sM⟩;have⟨u,g5,ms,ak,u7,U,p6,hM,ht,g8,uQ⟩:=facts w X g F O (ap b sM) (ap mm sM);have akl:=Fp (by rw[<-g8,uV];rfl);refine dD (m:=Instr.next (A x) false ty) rfl (v:=.tuple #[.bool false]) (w':=w) ?_ ⟨g,Jn .ff,O,.refl _ _ _,rfl⟩;rw[o8 w X g A u I ak];simp only[Instr.next,getObj,bJ,Sem.run,U,p6,Result.andThen,ht,dI,ek,akl,choose];simp[Question.forced,Sem.run]
     |cons e r=>
      rw[uV]at o;cases r with
      |cons _ _=>cases o
      |nil=>
       have⟨hold,o⟩:=bL o;have hold:=cZ hold;refine⟨_,_,_,o,fun w X g F A d ty ps after guard O I ap=>?_,sM⟩;have⟨u,g5,ms,ak,u7,U,p6,hM,ht,g8,uQ⟩:=facts w X g F O (ap b sM) (ap mm sM);obtain⟨m1,cX⟩:∃m1,(ms.filter fun e=> !seen.toArray.contains e.born)= #[m1]:=by
        have hs:(ms.filter fun e=> !seen.toArray.contains e.born).size=1:=by rw[<-g8,uV];rfl
        exact Array.size_eq_one_iff.1 hs
       have⟨⟨r1,r2⟩,EE⟩:=uQ 0 e m1 (by rw[uV];rfl) (by rw[cX];rfl);have hp:=I_ (aa:=.mapIter (some g5) since (seen++[e.2.2]).toArray ck) (bw:=.mit (some mm) since (seen++[e.2.2]) ck) O ak fun hS=>⟨some g5,JE U,.inl ⟨g5,u7,rfl⟩⟩;refine dD (m:=Instr.next (A x) false ty) rfl (v:=.tuple #[.bool true,m1.key,m1.val]) (w':=j5 w u (.mapIter (some g5) since (seen++[e.2.2]).toArray ck)) ?_
        ⟨g,Jo .tt (r1.step hp.2 (aC _)) (r2.step hp.2 (aC _)),hp.1,hp.2,rfl⟩
       rw[o8 w X g A u I ak];have o1:(#[m1].filter fun x=>decide (x.born<since))= #[m1]:=by simp[EE,hold]
       have o2:(#[m1].filter fun x=>decide (x.born≥since))= #[]:=by simp[EE];omega
       simp only[Instr.next,getObj,setObj,bJ,Sem.run,U,p6,Result.andThen,ht,dI,ek,cX,o1,o2,choose];simp[Question.forced,Sem.run,U,EE,j5]
  |_=>simp_all
 |_=>cases o
def UC(m4:Nat)(es:List ME)(k:ME->Prop):Prop:=List.rec False (fun e _ ih=>dy (Nat.beq e.2.2 m4) (k e) ih) es
def UD(U:dm)(it:SV)(K:bC):Prop:=match it with
 |.it b=>U b fun bw=>match bw with|.mit (some m) _ seen st=>Option.rec False (fun m4=>ij U m fun _ es ck=>bo (Nat.beq ck st) (UC m4 es fun e=>K (.tup [e.1,e.2.1]) [] [b,m])) seen.getLast?|_=>False
 |_=>False
def aio{J}{h:Hp}{x}{K}(o:az J x fun x=>UD (av h) x K):aN P J h (.entry x) K:=by
 have⟨m,o,hm⟩:=bS o;cases m with
 |it b=>
  have⟨bw,M,o⟩:=bg o;cases bw with
  |mit mb since seen st=>
   cases mb with
   |none=>cases o
   |some mm=>
    have o:Option.rec (motive:=fun _=>Prop) False (fun m4=>ij (av h) mm fun _ es ck=>bo (Nat.beq ck st) (UC m4 es fun e=>K (.tup [e.1,e.2.1]) [] [b,mm])) seen.getLast?:=o;cases oZ:seen.getLast? with
    |none=>simp_all
    |some m4=>
     rw[oZ]at o;have⟨p,es,ck,ki,Wl⟩:=oh o;have⟨Hk,xA⟩:=bL Wl;have Hk:=gS Hk;clear Wl o;have key:∃(i:Nat)(e:ME),es[i]?=some e/\K (.tup [e.1,e.2.1]) [] [b,mm]/\∀(ms:List MapEntry),es.length=ms.length->(∀(i:Nat)(e:ME)(m:MapEntry),es[i]?=some e->ms[i]?=some m->m.born=e.2.2)->
      ∀m,ms[i]?=some m->ms.find? (fun m=>m.born==m4)=some m:=by
      clear ki oZ M hm
      revert xA
      induction es with
      |nil=>intro h;cases h
      |cons e es ih=>
       intro h
       rcases gk h with⟨hq,h⟩|⟨hq,h⟩
       ·have hq:=gS hq
        refine⟨0,e,rfl,h,fun ms hl mW m hm=>?_⟩
        cases ms<;>grind
       ·obtain⟨i,e',E,F,h3⟩:=ih h
        refine⟨i+1,e',by simpa using E,F,fun ms hl mW m hm=>?_⟩
        cases ms with
        |nil=>simp at hl
        |cons m' ms=>
         have h0:=mW 0 e m' rfl rfl
         rw[Sw]
         have:(m'.born==m4)=false:=by
          rw[h0,dh]
          intro H
          rw[H]at hq
          simp at hq
         simp only[this]
         exact h3 ms (by simpa using hl) (fun i e m H hm=>mW (i+1) e m (by simpa using H) (by simpa using hm)) m (by simpa using hm)
     have⟨i,e,g9,o,on⟩:=key;refine⟨_,_,_,o,fun w X g F A d ty ps after guard O I ap=>?_,sM⟩;have⟨u,ak,r,U,D⟩:=vt O ((ap b sM).trans M) (.inr ⟨_,_,_,_,rfl⟩);have⟨g5,ms,u7,p6,hM,_⟩:=ly O ((ap mm sM).trans ki);have o_:r=some g5:=by rcases D with⟨g',h3,h4⟩|h3;grind;grind
     subst o_;have hv:A x=.pointer (some ⟨u,0,none⟩):=by have E:=hm w _ g A (I x rO);generalize aF:A x=vx at E;cases E with|it h'=>grind|ho h'=>grind
     have cj:i<ms.size:=by rw[<-hM.1];exact(ao.1 g9).1
     have⟨r1,r2,_⟩:=hM.2 i e ms[i] g9 (c4 cj);have hf:=on ms.toList (by rw[hM.1];simp) (fun i e m H hm=>(hM.2 i e m H (by grind)).2.2) ms[i] (by grind);rw[Array.find?_toList]at hf;refine dD (m:=Instr.entry (A x)) rfl (v:=.tuple #[ms[i].key,ms[i].val]) (w':=w) ?_ ⟨g,oo r1 r2,O,.refl _ _ _,rfl⟩;exact ab1
  |_=>cases o
 |_=>cases o
end
section
variable{P:Program} {T:aG}
def UH(op:BinOp)(k:Bool->Prop):Prop:=match op with|.eql=>k true|.neq=>k false|_=>False
def zk(r w:Bool):SV:=Bool.rec (Bool.rec .tt .ff w) (Bool.rec .ff .tt w) r
def YV(T:aG)(U:dm)(t:TypeId)(x y:SV)(c:Bool)(k:Bool->List Nat->Prop):Prop:=
 aX T t fun te=>match te.ti,x,y with
  |.map _ _,.nilm,.nilm=>k true []
  |.map _ _,.mp b,.nilm=>ij U b fun _ _ _=>k false [b]
  |.iface,.nili,.nili=>bo c (k true [])
  |.iface,.ifc _ _,.nili=>k false []
  |.iface,.nili,.ifc _ _=>k false []
  |.slice _,.nils,.nils=>k true []
  |.slice _,.sl b,.nils=>fJ U b fun _ _ _ es=>List.rec False (fun _ _ _=>k false [b]) es
  |.slice _,.ss b _ _,.nils=>fJ U b fun _ _ _ es=>List.rec False (fun _ _ _=>k false [b]) es
  |.slice _,.rs _ es,.nils=>List.rec False (fun _ _ _=>k false []) es
  |.ptr _,.nilp,.nilp=>k true []
  |.ptr _,.ptr _ _,.nilp=>k false []
  |.ptr e,.ptr b aa,.ptr b' o'=>aX T e fun ee=>match ee.ti with
   |.struct _=>bo (Nat.beq b b') (bo (Nat.beq aa o') (U b fun aT=>match aT with
    |.fix _ _=>k true [b]
    |_=>False))
   |_=>False
  |.ptr _,.ep _ _ _,.nilp=>k false []
  |.ptr _,.rp _ _ _ _,.nilp=>k false []
  |_,_,_=>False
def x_(x:Operand):Bool:=match x with|.const _=>true|_=>false
def tD(T:aG)(U:dm)(op:BinOp)(t:TypeId)(x y:SV)(c:Bool)(K:bC):Prop:=
 UH op fun w=>YV T U t x y c fun r aJ=>K (zk r w) [] aJ
def adb{ab:Prop}(k:ab:=by cases a<;>first|exact absurd rfl (E _ _)|exact absurd rfl (F _)|exact absurd rfl (h3 _ _)|exact absurd rfl (h4 _ _ _)|rfl):ab:=k
def L1{op}{w}(iU:(op=.eql/\w=true)\/(op=.neq/\w=false)){t:TypeId}{a b}{r}{ox oy}{wd}{L}{g} (hn:(∀q n,a≠ .int q n)/\(∀s,a≠ .string s)/\(∀k n,a≠ .float k n)/\(∀k n m,a≠ .complex k n m)) (U:(eqGuard op t ox oy a b).run P wd=.ok () wd)(H:(Op.equal t a b).run P wd=.ok r wd):∃v,((do eqGuard op t ox oy a b;binOp op t a b):Sem Value).run P wd=.ok v wd/\af wd L g (zk r w) v:=by
 have⟨E,F,h3,h4⟩:=hn;rcases iU with⟨rfl,rfl⟩|⟨rfl,rfl⟩;refine⟨.bool r,?_,by cases r<;>constructor⟩;simp only[bJ,U,cb];have:binOp .eql t a b=(do pure (.bool (<-Op.equal t a b)):Sem Value):=by exact adb
 simp_all;refine⟨.bool (!r),?_,by cases r<;>constructor⟩;simp only[bJ,U,cb];have:binOp .neq t a b=(do pure (.bool (!(<-Op.equal t a b))):Sem Value):=by exact adb
 simp_all
def asx(w){tp te:TypeId}{j:TypeInfo}(a)(hp:P.underlying tp=some (.pointer te))(d5:P.info? te=some j):(Op.equal tp (.pointer (some a)) (.pointer (some a))).run P w=.ok true w:=by
 have h:∀d:Nat,(Op.equalIn (d+1) tp (.pointer (some a)) (.pointer (some a))).run P w=.ok true w:=fun d=>by simp[Op.equalIn,en hp,sizeOf,typeInfo,d5,run_sameAddr_same]
 exact h 9999
def ac5{ab:Prop}(k:ab:=by refine fin false [] o fun wd X g F a b O ap ra rb=>?_;cases rb;cases ra<;>exact⟨by simp,tH (by simp),pn wd (some _)⟩):ab:=k
def aom(hT:bl P T){J:Fr}{h:Hp}{op:BinOp}{t ag:TypeId}{xo yo:Operand}{K:bC}(o:az J xo fun x=>az J yo fun y=>tD T (av h) op t x y (x_ yo) K):aN P J h (.binOp op t xo yo ag) K:=by
 obtain⟨x,o,hx⟩:=bS o;obtain⟨y,o,hy⟩:=bS o;obtain⟨w,iU,o⟩:∃w,((op=.eql/\w=true)\/(op=.neq/\w=false))/\YV T (av h) t x y (x_ yo) fun r aJ=>K (zk r w) [] aJ:=by cases op<;>first|exact o.elim|exact⟨_,.inl ⟨rfl,rfl⟩,o⟩|exact⟨_,.inr ⟨rfl,rfl⟩,o⟩
 replace o:=b4 hT (show aX T t _ from o);generalize ax:(bk P t).ti=ti at o;have fin:∀(r:Bool)(aJ:List Nat),K (zk r w) [] aJ->
  (∀(wd:World)(X:Nat->Prop)(g:Sg)(F:Hp)(a b:Value),Inv wd X g F->(∀i∈aJ,F[i]?=h[i]?)->af wd (Ex X g) g x a->af wd (Ex X g) g y b->
   ((∀q n,a≠ .int q n)/\(∀s,a≠ .string s)/\(∀k n,a≠ .float k n)/\(∀k n m,a≠ .complex k n m))/\
   (eqGuard op t xo yo a b).run P wd=.ok () wd/\(Op.equal t a b).run P wd=.ok r wd)->aN P J h (.binOp op t xo yo ag) K:=by
  intro r aJ o hv
  refine⟨_,_,_,o,fun wd X g F A d ty pos after guard O I ap=>?_,by simp⟩
  obtain⟨a1,a2,a3⟩:=hv wd X g F (A xo) (A yo) O ap (hx wd _ g A (I xo (by simp[Op.operands]))) (hy wd _ g A (I yo (by simp[Op.operands])))
  obtain⟨v,hv,D⟩:=L1 (L:=Ex X g) (g:=g) iU a1 a2 a3
  exact dD rfl hv ⟨g,D,O,.refl _ _ _,rfl⟩
 have tH:∀{a b:Value}{wd:World},(∀cs,a≠ .agg cs)/\a≠ .nilIface->(eqGuard op t xo yo a b).run P wd=.ok () wd:=fun h=>GK h;cases ti with
 |map kt d4=>
  have hu:=pA (bm ax (by simp)).1;cases x with
  |nilm=>cases y with|nilm=>refine fin true [] o fun wd X g F a b O ap ra rb=>?_;cases ra;cases rb;exact⟨by simp,tH (by simp),run_equal_map_nil wd t kt d4 none hu⟩|_=>exact o.elim
  |mp iM=>
   cases y with
   |nilm=>obtain⟨p,es,ck,M,o⟩:=oh (show ij (av h) iM _ from o);refine fin false [iM] o fun wd X g F a b O ap ra rb=>?_;obtain⟨u,ms,ak,_⟩:=ly O ((ap iM (by simp)).trans M);cases rb;cases ra with|mp h'=>exact⟨by simp,tH (by simp),run_equal_map_nil wd t kt d4 (some _) hu⟩|gN h'=>grind
   |_=>exact o.elim
  |_=>grind
 |iface=>
  obtain⟨ms,hu⟩:=abF (bm ax (by simp)).1;have Q:P.isIface t=true:=by simp[Program.isIface,hu]
  cases x with
  |nili=>
   cases y with
   |nili=>obtain⟨hc,o⟩:=bL (show bo (x_ yo) _ from o);refine fin true [] o fun wd X g F a b O ap ra rb=>?_;cases ra;cases rb;refine⟨by simp,?_,run_equalIn_nil_nil_at wd 9999 t Q⟩;cases yo with|const v=>cases xo<;>(rcases iU with⟨rfl,_⟩|⟨rfl,_⟩<;>rfl)|_=>simp[x_]at hc
   |ifc ag s=>refine fin false [] o fun wd X g F a b O ap ra rb=>?_;cases ra;cases rb;refine⟨by simp,by rcases iU with⟨rfl,_⟩|⟨rfl,_⟩<;>rfl,?_⟩;show(Op.equalIn (9999+1) t _ _).run P wd=_;rw[Op.equalIn];simp[en hu]
   |_=>exact o.elim
  |ifc ag s=>cases y with|nili=>refine fin false [] o fun wd X g F a b O ap ra rb=>?_;cases ra;cases rb;exact⟨by simp,tH (by simp),run_equalIn_iface_nil wd 9999 t Q _ _⟩|_=>exact o.elim
  |_=>grind
 |slice e=>
  have hu:=fi (bm ax (by simp)).1;have row:∀(b:Nat)(p:Bool)(tt:TypeId)(z:Nat)(e:List SV)(es:List (List SV)),h[b]?=some (dr p tt z (e::es))->∀(wd:World)(X:Nat->Prop)(g:Sg)(F:Hp),Inv wd X g F->F[b]?=h[b]?->∃u cap,g[b]?=some (.row u z (e::es).length cap):=by intro b p tt z e es M wd X g F O ap;rcases ot O (ap.trans M)with⟨u,cap,vs,E,_⟩|⟨_,E⟩;grind;simp at E
  cases x with
  |nils=>cases y with|nils=>refine fin true [] o fun wd X g F a b O ap ra rb=>?_;cases ra;cases rb;exact⟨by simp,tH (by simp),run_equal_slice_nil wd t e none 0 0 hu⟩|_=>exact o.elim
  |sl iM=>
   cases y with
   |nils=>obtain⟨p,tt,z,es,M,o⟩:=kz (show fJ (av h) iM _ from o);cases es with|nil=>exact o.elim|cons e0 es=>refine fin false [iM] o fun wd X g F a b O ap ra rb=>?_;obtain⟨u,cap,ak⟩:=row iM p tt z e0 es M wd X g F O (ap iM (by simp));cases rb;cases ra with|sl h'=>exact⟨by simp,tH (by simp),run_equal_slice_nil wd t e (some _) _ _ hu⟩|dE h'=>grind|c9 h'=>grind
   |_=>exact o.elim
  |ss iM lo m=>
   cases y with
   |nils=>obtain⟨p,tt,z,es,M,o⟩:=kz (show fJ (av h) iM _ from o);cases es with|nil=>exact o.elim|cons e0 es=>refine fin false [iM] o fun wd X g F a b O ap ra rb=>?_;obtain⟨u,cap,ak⟩:=row iM p tt z e0 es M wd X g F O (ap iM (by simp));cases rb;cases ra with|ss h' _ _=>exact⟨by simp,tH (by simp),run_equal_slice_nil wd t e (some _) _ _ hu⟩|eS h'=>grind|ej h'=>grind
   |_=>exact o.elim
  |rs z es=>
   cases y with
   |nils=>cases es with|nil=>exact o.elim|cons e0 es=>refine fin false [] o fun wd X g F a b O ap ra rb=>?_;cases rb;cases ra with|rs _ _ _ _ _ _ _ _=>exact⟨by simp,tH (by simp),run_equal_slice_nil wd t e (some _) _ _ hu⟩
   |_=>exact o.elim
  |_=>grind
 |ptr e=>
  have hu:=Bh (bm ax (by simp)).1;have hp:P.underlying t=some (.pointer (P.pointee t)):=by simp[Program.pointee,hu]
  have pn:∀(wd:World)(p:Option Addr),(Op.equal t (.pointer p) (.pointer none)).run P wd=.ok p.isNone wd:=fun wd p=>run_equalIn_pointer_nil wd 9999 t p hp;cases x with
  |nilp=>cases y with|nilp=>refine fin true [] o fun wd X g F a b O ap ra rb=>?_;cases ra;cases rb<;>grind|_=>exact o.elim
  |ptr iM aa=>
   cases y with
   |nilp=>exact ac5
   |ptr b' o'=>
    replace o:=b4 hT (show aX T e _ from o);generalize xV:(bk P e).ti=tj at o;cases tj with
    |struct fs=>
     obtain⟨_,j,hj,_⟩:=bm xV (by simp);obtain⟨c1,bi⟩:=bL o;obtain⟨c2,aU⟩:=bL bi;have e1:=gS c1;have e2:=gS c2;clear o bi c1 c2;subst e1;subst e2;obtain⟨aT,M,o⟩:=bg (show av h iM _ from aU);clear aU;cases aT with
     |fix t0 cs=>
      refine fin true [iM] o fun wd X g F a b O ap ra rb=>?_;obtain⟨u,vs,ak,_⟩:=sV O ((ap iM (by simp)).trans M);have SW:∀{v:Value},af wd (Ex X g) g (.ptr iM aa) v->v=.pointer (some ⟨u,aa,none⟩):=fun D=>by cases D<;>grind
      rw[SW ra,SW rb];refine⟨by simp,tH (by simp),?_⟩;exact asx wd _ hu hj
     |_=>exact o.elim
    |_=>exact o.elim
   |_=>exact o.elim
  |ep iM i f=>cases y with|nilp=>exact ac5|_=>exact o.elim
  |rp z es i f=>cases y with|nilp=>refine fin false [] o fun wd X g F a b O ap ra rb=>?_;cases rb;cases ra<;>grind|_=>exact o.elim
  |_=>grind
 |_=>grind
def Yu(T:aG)(t:TypeId)(x:SV)(K:bC):Prop:=
 aX T t fun te=>match te.ti with
  |.iface=>False
  |.other=>False
  |.none=>False
  |_=>K (.ifc t x) [] []
def Kg{ab:Prop}(k:ab:=by cases ti with|int q=>exact fin ⟨_,so (bm ax sM).1,sM⟩ o|bool=>exact fin ⟨_,JW (bm ax sM).1,sM⟩ o|str=>exact fin ⟨_,qG (bm ax sM).1,sM⟩ o|struct fs=>obtain⟨fields,hu,_⟩:=vV (bm ax sM).1;simp_all|array n e=>exact fin ⟨_,vU (bm ax sM).1,sM⟩ o|slice e=>exact fin ⟨_,fi (bm ax sM).1,sM⟩ o|ptr e=>exact fin ⟨_,Bh (bm ax sM).1,sM⟩ o|map a b=>exact fin ⟨_,pA (bm ax sM).1,sM⟩ o|_=>cases o):ab:=k
def anJ(hT:bl P T){J}{h}{t:TypeId}{x}{K}(o:az J x fun x=>Yu T t x K):aN P J h (.makeInterface t x) K:=by
 have⟨s,o,hs⟩:=bS o;replace o:=b4 hT o;generalize ax:(bk P t).ti=ti at o;have fin:(∃d,P.underlying t=some d/\∀ms,d≠ .interface ms)->K (.ifc t s) [] []->aN P J h (.makeInterface t x) K:=by rintro⟨d,hu,hd⟩ o;refine⟨_,_,_,o,fun w X g F A d' ty pos after guard O I ap=>?_,sM⟩;refine dD (m:=Instr.makeInterface t (A x)) (v:=.iface t (A x)) (w':=w) rfl ?_ ⟨g,.ifc (hs w _ g A (I x rO)),O,.refl _ _ _,rfl⟩;simp only[Instr.makeInterface,bJ,bB hu,cb];cases d<;>first|rfl|exact absurd rfl (hd _)
 exact Kg
def ak2(c ok:Bool)(s:SV)(K:bC):Prop:=Bool.rec (di c K s [] []) (K (.tup [s,.tt]) [] []) ok
def taB(T:aG)(c:Bool)(t:TypeId)(ok:Bool)(K:bC)(x:SV):Prop:=
 match x with
 |.ifc ag s=>dy (Nat.beq ag t) (ak2 c ok s K) (bo ok (k6 T t fun z=>K (.tup [z,.ff]) [] []))
 |.nili=>bo ok (k6 T t fun z=>K (.tup [z,.ff]) [] [])
 |_=>False
def taV(T:aG)(c:Bool)(t:TypeId)(x:SV)(ok:Bool)(K:bC):Prop:=
 aX T t fun te=>match te.ti with
  |.iface=>False
  |.other=>False
  |.none=>False
  |_=>taB T c t ok K x
def atU(hT:bl P T){c}{J}{h}{x}{xt t:TypeId}{ok}{K}(o:az J x fun x=>taV T c t x ok K):aN P J h (.typeAssert x xt t ok) K:=by
 have⟨s,o,hs⟩:=bS o;replace o:=b4 hT o;generalize ax:(bk P t).ti=ti at o;have fin:(∃d,P.underlying t=some d/\∀ms,d≠ .interface ms)->taB T c t ok K s->aN P J h (.typeAssert x xt t ok) K:=by
  rintro⟨d,hu,hd⟩ bi;have UT:bo ok (k6 T t fun z=>K (.tup [z,.ff]) [] [])->(∀w L g v,af w L g s v->v=.nilIface\/ ∃ag y,v=.iface ag y/\ag≠t)->aN P J h (.typeAssert x xt t ok) K:=by intro o hv;have⟨aw,aU⟩:=bL o;subst aw;have⟨z,yG,dc,hz,l8⟩:=Br hT aU;refine⟨_,_,_,dc,fun w X g F A d' ty pos after guard O I ap=>?_,sM⟩;refine dD (m:=Instr.typeAssert (A x) xt t true) (v:=.tuple #[yG,.bool false]) (w':=w) rfl ?_ ⟨g,oo (l8 _ _ _) .ff,O,.refl _ _ _,rfl⟩;rcases hv w _ g _ (hs w _ g A (I x rO))with e|⟨ag,y,e,cW⟩;simp only[Instr.typeAssert,bJ,bB hu,cb,e];simp_all;simp only[Instr.typeAssert,bJ,bB hu,cb,e];simp_all
  cases s with
  |nili=>exact UT bi fun w L g v D=>by cases D;exact .inl rfl
  |ifc ag s=>
   rcases gk bi with⟨dn,aU⟩|⟨dn,aU⟩;have M:=gS dn;subst M;have val:∀w X g A,bA w (Ex X g) g J A x->∃y,A x=.iface ag y/\af w (Ex X g) g s y:=fun w X g A I=>by have:=hs w _ g A I;generalize A x=vx at this;cases this<;>simp_all
   have run:∀w y,(Instr.typeAssert (.iface ag y) xt ag ok).run P w=.ok (if ok then .tuple #[y,.bool true]else y) w:=fun w y=>by simp only[Instr.typeAssert,bJ,bB hu,cb];simp_all
   cases ok with|true=>refine⟨_,_,_,aU,fun w X g F A d' ty pos after guard O I ap=>?_,sM⟩;have⟨y,e,D⟩:=val w X g A (I x rO);refine dD (m:=Instr.typeAssert (A x) xt ag true) (v:=.tuple #[y,.bool true]) (w':=w) rfl ?_ ⟨g,oo D .tt,O,.refl _ _ _,rfl⟩;rw[e,run];rfl|false=>refine aN.up (c:=c) ⟨_,_,_,aU,fun w X g F A d' ty pos after guard O I ap=>?_,sM⟩;have⟨y,e,D⟩:=val w X g A (I x rO);refine dD (m:=Instr.typeAssert (A x) xt ag false) (v:=y) (w':=w) rfl ?_ ⟨g,D,O,.refl _ _ _,rfl⟩;rw[e,run];rfl
   have M:ag≠t:=fun e=>by simp_all
   exact UT aU fun w L g v D=>by cases D<;>simp_all
  |_=>cases bi
 exact Kg
end
section
variable{P:Program} {T:aG}
def gQ(p:Bool)(g:Sg):Sg:=match p with|true=>g|false=>[]
def vP{p q}{w}{L}{g}{s}{v}(NM:q=false->p=false)(h:af w L (gQ p g) s v):af w L (gQ q g) s v:=by cases q with|false=>simp_all|true=>cases p with|true=>exact h|false=>exact mv h
def mF{p}{m}{w w'}{X}{g V}{s}{v}(h:af w (Ex X g) (gQ p g) s v)(k:Step m w g w' V)(hm:g.length<=m):af w' (Ex X V) (gQ p V) s v:=by cases p with|true=>exact h.step k hm|false=>exact h.hP k
def se{w}{X}{g}{h}(O:Inv w X g h){b:Nat}{p}{t:TypeId}{sz}{es}(M:h[b]?=some (dr p t sz es)):(∃u cap vs,g[b]?=some (.row u sz es.length cap)/\es.length<=cap/\cap<=maxLen/\gj w u vs t/\vs.size=cap*sz/\kF w (Ex X g) (gQ p g) sz es vs)\/(g[b]?=some .rownil/\es=[]):=by cases p with|false=>exact yu O M|true=>exact ot O M
def zn{w}{L}{g}{p}{t:TypeId}{sz n cap u}{es}(hn:n=es.length)(hc:n<=cap)(hm:cap<=maxLen){vs}(h2:gj w u vs t)(hs:vs.size=cap*sz) (hp:kF w L (gQ p g) sz es vs):aB w L g (dr p t sz es) (.row u sz n cap):=by cases p with|false=>exact⟨rfl,hn,hc,hm,vs,h2,hs,hp⟩|true=>exact⟨rfl,hn,hc,hm,vs,h2,hs,hp⟩
def YT{w}{L}{g}{p}{t:TypeId}{sz}:aB w L g (dr p t sz []) .rownil:=by cases p<;>simp[dr,aB]
def Em(p:Bool)(c:List SV):Bool:=iB p (Bool.rec true false (zh c))
def PU{p}{c}(h:Em p c=false):p=false/\∀s∈c,eK s:=by have⟨E,F⟩:=vA h;refine⟨E,Ty c ?_⟩;cases M:zh c<;>simp_all
def abj(T:aG)(U:dm)(t:TypeId)(x v:SV)(K:bC):Prop:=
 lk v fun c=>eQ T t fun n _=>bd c.length n (match x with
  |.ptr b off=>U b fun aT=>match aT with
   |.fix t cs=>tJ cs off c fun bU=>K .undef [(b,.fix t bU)] [b]
   |_=>False
  |.ep b i f=>fJ U b fun p t z es=>av es i fun e=>tJ e f c fun e'=>gg es i e' fun aS=>K .undef [(b,dr (Em p c) t z aS)] [b]
  |_=>False)
def atH(hT:bl P T){J}{h:Hp}{t:TypeId}{x y}{K}{sx sy}(hx:∀w L g A,bA w L g J A x->af w L g sx (A x)) (hy:∀w L g A,bA w L g J A y->af w L g sy (A y))(o:abj T (av h) t sx sy K):aN P J h (.store t x y) K:=by
 have⟨c,o,hc⟩:=Cc o;have⟨n,h1,o,_,hn⟩:=kY hT o;have⟨hlen,o⟩:=b2 o;have Dr:∀w L g A,(∀z∈(Op.store t x y).operands.toList,bA w L g J A z)->af w L g sx (A x):=fun w L g A I=>hx w L g A (I x rO);have Dt:∀w L g A,(∀z∈(Op.store t x y).operands.toList,bA w L g J A z)->af w L g sy (A y):=fun w L g A I=>hy w L g A (I y rO);have a7:∀(w:World)(A:Operand->Value)(u off:Nat)(vs:Array Value)(t0:TypeId),A x=.pointer (some ⟨u,off,none⟩)->c.length=(A y).cells.size->(∀v∈(A y).cells.toList,v.oneCell'=true)->
  gj w u vs t0->off+c.length<=vs.size->
  (Instr.storeAt t (A x) (A y)).run P w=.ok () (w.setRow u (vs.toList.take off++(A y).cells.toList++vs.toList.drop (off+c.length)).toArray):=by
  exact adT
 have rD:∀w L g v,af w L g sy v->c.length=v.cells.size/\(∀ag∈v.cells.toList,ag.oneCell'=true)/\∀i s ag,c[i]?=some s->v.cells[i]?=some ag->af w L g s ag/\ag.oneCell'=true:=fun w L g v D=>by
  have⟨fc,fB⟩:=hc w L g v D;refine⟨fc,fun ag hu=>?_,fB⟩;obtain⟨i,Q,rfl⟩:=Sv hu;have f_:i<v.cells.size:=by simpa using Q
  have:=fB i (c[i]'G) (v.cells[i]) (aD G) (c4 f_);grind
 cases sx with
 |ptr b off=>
  have⟨aT,M,o⟩:=bg o;cases aT with
  |fix T0 cs=>
   have⟨hle,o⟩:=EC o;refine⟨_,_,_,o,fun w X g cn A d ty pos after guard O I ap=>?_,sM⟩;have D:=Dr w _ g A I;have aP:=(ap b sM).trans M;have⟨u,vs,ak,U,hl,V2⟩:=sV O aP;have hv:A x=.pointer (some ⟨u,off,none⟩):=by generalize aF:A x=vx at D;cases D with|ptr h'=>rw[ak]at h';simp at h';rw[h']|eD h'=>rw[ak]at h';simp at h'
   have⟨fc,cX,fB⟩:=rD w _ g _ (Dt w _ g A I);have D:=a7 w A u off vs T0 hv fc cX (.of U) G;have⟨f1,f2,f3,f4,f5⟩:=qE (w:=w) (u:=u) (cs:=(vs.toList.take off++(A y).cells.toList++vs.toList.drop (off+c.length)).toArray);have hS:=pE ak rfl f1 f2 f3 f4 f5;refine AP rfl D ⟨g,.undef,?_,hS,rfl⟩;exact acI
  |_=>cases o
 |ep b i f=>
  have⟨p,T0,sz,es,M,o⟩:=kz o;have⟨e,H,o⟩:=bg o;have⟨hle,o⟩:=EC o;have⟨Nm,o⟩:=jb o;refine⟨_,_,_,o,fun w X g cn A d ty pos after guard O I ap=>?_,sM⟩;have D:=Dr w _ g A I;have aP:=(ap b sM).trans M;rcases se O aP with⟨u,cap,vs,ak,cR,d0,U,hl,cN⟩|⟨_,dA⟩;have hv:A x=.pointer (some ⟨u,i*sz+f,none⟩):=by generalize aF:A x=vx at D;cases D with|ep h'=>grind|hb h'=>grind
  have⟨nS,d2⟩:=cN i e H;have hblk:i*sz+sz<=vs.size:=by
   rw[hl];calc i*sz+sz=(i+1)*sz:=by rw[oC]
    _<=cap*sz:=e8 _ G
  have⟨fc,cX,fB⟩:=rD w _ g _ (Dt w _ g A I);have D:=a7 w A u (i*sz+f) vs T0 hv fc cX U G;have⟨f1,f2,f3,f4,f5⟩:=qE (w:=w) (u:=u) (cs:=(vs.toList.take (i*sz+f)++(A y).cells.toList++vs.toList.drop (i*sz+f+c.length)).toArray);have hS:=pE ak rfl f1 f2 f3 f4 f5;refine AP rfl D ⟨g,.undef,?_,hS,rfl⟩;rw[kC];have iO:∀k,(vs.toList.take (i*sz+f)++(A y).cells.toList++vs.toList.drop (i*sz+f+c.length)).toArray[k]?=if i*sz+f<=k/\k<i*sz+f+c.length then(A y).cells[k-(i*sz+f)]? else vs[k]?:=fun k=>by exact ab9
  have hq:Em p c=false->p=false:=fun h=>(PU h).1;refine pC O ak rfl f1 f2 f3 f4 f5 (zn sM cR d0 (U.set sO) sO fun k e' aK=>?_);rw[bu]at aK;by_cases Dg:i=k;subst Dg;rw[au rfl,au Nm]at aK;simp only[BH]at aK;subst aK;refine⟨by rw[I9 _ _ _ hle,nS],fun j s hs=>?_⟩;rw[r8 _ _ _ hle]at hs;rw[iO];split at hs;have hj:j-f<c.length:=G;rw[au G,show i*sz+j-(i*sz+f)=j-f by omega];have l_:(A y).cells[j-f]?=some ((A y).cells[j-f]'(by omega)):=c4 G;have:=fB _ s _ hs l_;refine⟨_,l_,?_,this.2⟩;cases hpc:Em p c with|true=>exact this.1.step hS (aC _)|false=>exact((PU hpc).2 s (bN hs) w _ g [] _ this.1).hP hS
  rw[ay G];have⟨v,E,F,h3⟩:=d2 j s hs;exact⟨v,E,vP hq (mF F hS (aC _)),h3⟩;rw[ay Dg]at aK;have⟨C5,MQ⟩:=cN k e' aK;refine⟨C5,fun j s hs=>?_⟩;have⟨v,E,F,h3⟩:=MQ j s hs;have hj:j<sz:=by rw[<-C5];exact(ao.1 hs).1
  refine⟨v,?_,vP hq (mF F hS (aC _)),h3⟩;exact ab3;subst dA;simp at H
 |_=>cases o
def abk(T:aG)(c:Bool)(t:TypeId)(x i:SV)(K:bC):Prop:=
 aX T t fun te=>match te.ti,x,i with
  |.str,.str s,.int _ n=>bo (decide (0<=n/\n<(s.length:Int))) (di c K (.int .u8 ((s.getD n.toNat 0).toNat:Int)) [] [])
  |_,_,_=>False
def atK(hT:bl P T){c}{J}{h}{t:TypeId}{x i}{K}(o:az J x fun x=>az J i fun i=>abk T c t x i K):aN P J h (.index t x i) K:=by
 refine aN.up (c:=c) (H_ hT (ae:=0) ?_)
 obtain⟨te,bi,cY⟩:∃te,(az J x fun x=>az J i fun i=>match te.ti,x,i with
  |.str,.str s,.int _ n=>bo (decide (0<=n/\n<(s.length:Int))) (di c K (.int .u8 ((s.getD n.toNat 0).toNat:Int)) [] [])
  |_,_,_=>False)/\∀k':TE->Prop,k' te->aX T t k':=by
  have⟨sx,o,th⟩:=jK J x _ o
  have⟨si,o,DC⟩:=jK J i _ o
  have⟨te,o,d5⟩:=gq T t _ o
  exact⟨te,th _ (DC _ o),d5⟩
 refine cY _ ?_;have⟨sx,o,th⟩:=jK J x _ bi;have⟨si,o,DC⟩:=jK J i _ o;refine th _ (DC _ ?_);generalize te.ti=ti at o;cases ti<;>first|cases o|skip
 cases sx<;>first|cases o|skip
 cases si<;>first|cases o|skip
 have⟨E,F⟩:=bL o;grind
end
section
variable{P:Program} {T:aG}
def y8(w:World)(L:Nat->Prop)(g:Sg)(sz:Nat)(es:List (List SV))(vs:List Value):Prop:=
 ∀i e,es[i]?=some e->e.length=sz/\∀j s,e[j]?=some s->∃v,vs[i*sz+j]?=some v/\af w L g s v/\v.oneCell'=true
def EX(T:aG)(c:Bool)(U:dm)(ag e:TypeId)(z:Nat)(zs:List SV)(x:SV)(k:Bool->List (List SV)->List Nat->Prop):Prop:=
 aX T ag fun tu=>match tu.ti,x with
 |.slice _,.rs q es=>bd q z (k false es [])
 |.slice _,.nils=>k false [] []
 |.slice _,.z0=>k false [] []
 |.slice _,.sl b=>fJ U b fun p _ q es=>bd q z (k p es [b])
 |.slice _,.ss b lo m=>fJ U b fun p _ q es=>bd q z (GB c es lo (lo+m) fun r=>k p r [b])
 |.str,.str s=>jv T e (bd z 1 (k false (s.map fX) []))
 |.int _,.int _ n=>bo (decide (0<=n)) (k false (List.replicate n.toNat zs) [])
 |_,_=>False
structure K3(P:Program)(w:World)(L:Nat->Prop)(τ:Sg)(z:Nat)(es:List (List SV))(x:Value)(news:List Value):Prop where
 len:news.length=es.length*z
 lenOf:∀w':World,(Builtin.lenOf x).run P w'=.ok es.length w'
 first:∀w':World,w'.heap=w.heap->(Builtin.firstCells z es.length x).run P w'=.ok news.toArray w'
 one:∀ag∈news,ag.oneCell'=true
 row:y8 w L τ z es news
def Bc{w}{L}{τ}{z}(a:Option Addr)(c):K3 P w L τ z [] (.slice a 0 c) []:=by refine⟨sM,fun w'=>by simp[Builtin.lenOf],fun w' _=>?_,sM,by intro i e H;simp at H⟩;cases a with|none=>simp[Builtin.firstCells]|some a=>exact FG w' z 0 a 0 c [] sM sM
def QP{w}{L}{τ}{z}(es)(ec)(c)(val:Nat->Nat->Value)(hl:∀(i:Nat)(e:List SV),es[i]?=some e->e.length=z) (hc:∀i e j s,es[i]?=some e->e[j]?=some s->w.cell? (ec.add (i*z+j))=some (val i j)/\(val i j).oneCell'=true/\af w L τ s (val i j)):∃news,K3 P w L τ z es (.slice (some ec) es.length c) news:=by
 have am:∀k,k<es.length*z->∃e s,es[k/z]?=some e/\e[k % z]?=some s:=by intro k o;have⟨E,F,_⟩:=U0 o;have H:=aD E;exact⟨_,_,H,aD (by grind)⟩
 have bc:∀k v,((List.range (es.length*z)).map fun k=>val (k/z) (k % z))[k]?=some v->k<es.length*z/\v=val (k/z) (k % z):=by
  intro k v hv;have ai:k<es.length*z:=by have:=(ao.1 hv).1;simpa using this
  rw[bz,Fm ai]at hv;exact⟨ai,by simp_all⟩
 refine⟨(List.range (es.length*z)).map fun k=>val (k/z) (k % z),sM,fun w'=>by simp[Builtin.lenOf],fun w' hw=>?_,fun ag hu=>?_,fun i e H=>⟨hl i e H,fun j s hs=>?_⟩⟩;refine FG w' z es.length ec es.length c _ sM fun k v hv=>?_;obtain⟨ai,rfl⟩:=bc k v hv;have⟨e,s,H,hs⟩:=am k ai;have:=(hc _ e _ s H hs).1;rw[(U0 ai).2.2]at this;rw[<-this];exact Sy (by rw[hw]);grind;have⟨_,F,h3⟩:=hc i e j s H hs;have hj:j<z:=by rw[<-hl i e H];exact(ao.1 hs).1
 exact⟨val i j,flat_get val es.length z i j (ao.1 H).1 hj,h3,F⟩
def abf(hT:bl P T){c}{h:Hp}{ag e:TypeId}{z}{zs}{x}{k}(Do:∀q,(bk P ag).ti≠ .int q)(o:EX T c (av h) ag e z zs x k):∃p es rd,k p es rd/\(∃du,P.underlying ag=some du/\((∃e',du=.slice e')\/du=.string))/\∀w X g F v,Inv w X g F->(∀i∈rd,F[i]?=h[i]?)->af w (Ex X g) g x v->∃news,K3 P w (Ex X g) (gQ p g) z es v news:=by
 have o:=b4 hT o;generalize ax:(bk P ag).ti=ti at o;cases ti with
 |slice q=>
  have hu:∃du,P.underlying ag=some du/\((∃e',du=.slice e')\/du=.string):=⟨_,fi (bm ax sM).1,.inl ⟨_,rfl⟩⟩;cases x with
  |nils=>refine⟨_,_,_,o,hu,fun w X g F v _ _ D=>?_⟩;cases D;exact⟨[],Bc _ _⟩
  |z0=>refine⟨_,_,_,o,hu,fun w X g F v _ _ D=>?_⟩;cases D;exact⟨[],Bc _ _⟩
  |rs q es=>have⟨hq,aU⟩:=b2 o;subst hq;refine⟨_,_,_,aU,hu,fun w X g F v _ _ D=>?_⟩;cases D with|hJ _=>exact⟨[],Bc _ _⟩|rs hc hm hE ai hlen d2 cX bb=>exact QP es _ _ _ hlen fun i e j s H hs=>⟨d2 i e j s H hs,cX i e j s H hs,bb i e j s H hs⟩
  |sl b=>
   have⟨p,t,q,es,M,o⟩:=kz o;have⟨hq,aU⟩:=b2 o;subst hq;refine⟨_,_,_,aU,hu,fun w X g F v O ap D=>?_⟩;rcases se O ((ap b sM).trans M)with⟨u,cap,vs,ak,cR,d0,U,hl,cN⟩|⟨ak,dA⟩;cases D with|sl h'=>rw[ak]at h';simp at h';obtain⟨rfl,rfl,rfl,rfl⟩:=h';refine QP es _ _ (fun i j=>(vs[i*q+j]?).getD Go.undef) (fun i e H=>(cN i e H).1) fun i e j s H hs=>?_;have⟨v,E,F,h3⟩:=(cN i e H).2 j s hs;have⟨fr,U,_⟩:=U;rw[oQ U,jE,E];simp_all|dE h'=>simp_all|c9 h'=>simp_all
   subst dA;cases D with|sl h'=>simp_all|dE h'=>exact⟨[],Bc _ _⟩|c9 h'=>simp_all
  |ss b lo m=>
   have⟨p,t,q,es,M,o⟩:=kz o;have⟨hq,aU⟩:=b2 o;subst hq;refine⟨_,_,_,LN (k:=fun r=>k p r [b]) aU,hu,fun w X g F v O ap D=>?_⟩;rcases se O ((ap b sM).trans M)with⟨u,cap,vs,ak,cR,d0,U,hl,cN⟩|⟨ak,dA⟩;cases D with
   | @ss _ _ g' jB n' gZ _ _ aa h' hle I=>
    rw[ak]at h';simp at h';obtain⟨rfl,rfl,rfl,rfl⟩:=h';have hlen:((es.take (lo+m)).drop lo).length=m:=sO;have bc:∀i e,((es.take (lo+m)).drop lo)[i]?=some e->es[lo+i]?=some e:=fun i e H=>by grind
    by_cases he:m=0;subst he;have:(es.take (lo+0)).drop lo=[]:=pH hlen;rw[this];exact⟨[],Bc _ _⟩;have I:=I G;subst I;have:=QP (P:=P) (w:=w) (L:=Ex X g) (τ:=gQ p g) (z:=q) ((es.take (lo+m)).drop lo) ⟨u,lo*q,none⟩ (cap-lo) (fun i j=>(vs[(lo+i)*q+j]?).getD Go.undef) (fun i e H=>(cN _ e (bc i e H)).1) fun i e j s H hs=>by have⟨v,E,F,h3⟩:=(cN _ e (bc i e H)).2 j s hs;have⟨fr,U,_⟩:=U;rw[oQ U,show lo*q+(i*q+j)=(lo+i)*q+j by grind,E];simp_all
    simp_all
   |eS h'=>simp_all
   |ej h'=>simp_all
   cases D with|ss h'=>simp_all|eS h'=>exact⟨[],Bc _ _⟩|ej h'=>simp_all
  |_=>cases o
 |str=>
  have hu:∃du,P.underlying ag=some du/\((∃e',du=.slice e')\/du=.string):=⟨_,qG (bm ax sM).1,.inr rfl⟩;cases x with
  |str s=>
   have o:=b4 hT o;split at o;have⟨hz,o⟩:=b2 o;subst hz;refine⟨_,_,_,o,hu,fun w X g F v _ _ D=>?_⟩;cases D;refine⟨s.map fun b=>.int .u8 (b.toNat:Int),by simp,fun w'=>by simp[Builtin.lenOf,ByteArray.size],fun w' _=>?_,?_,fun i e H=>?_⟩;simp only[Builtin.firstCells,da,bh];simp_all;intro v hv;obtain⟨b,_,rfl⟩:=ew.1 hv;rfl;rw[bz]at H;cases M:s[i]? with
   |none=>simp_all
   |some b=>
    rw[M]at H;simp[fX]at H;subst H;refine⟨rfl,fun j a hj=>?_⟩;have Dj:j=0:=by have:=(ao.1 hj).1;simpa using this
    subst Dj;simp at hj;subst hj;exact⟨.int .u8 (b.toNat:Int),by simp[M],.int,rfl⟩
   cases o
  |_=>cases o
 |int q=>simp_all
 |_=>simp_all
def Tp(w)(t ag ty e:TypeId)(du:TypeDesc)(i:TypeInfo)(ht:P.underlying t=some (.slice e))(hu:P.underlying ag=some du)(fC:(∃e',du=.slice e')\/du=.string) (Q:P.info? e=some i)(x)(m)(news)(hlen:∀w':World,(Builtin.lenOf x).run P w'=.ok m w')(kl:(Builtin.firstCells i.size m x).run P w=.ok news.toArray w) (u aa n cap)(w')(fd:n+m<=cap)(bQ:(storeCells ((⟨u,aa,none⟩:Addr).add (n*i.size)) news 0).run P w=.ok () w'):(Builtin.append_ #[t,ag] ty #[.slice (some ⟨u,aa,none⟩) n cap,x]).run P w=.ok (.slice (some ⟨u,aa,none⟩) (n+m) cap) w':=by rcases fC with⟨e',rfl⟩|rfl<;>simp[Builtin.append_,en ht,en hu,sizeOf,typeInfo,Q,hlen,fd,kl,bQ]
def afh(w)(t ag ty e:TypeId)(q kk)(i:TypeInfo)(z)(ht:P.underlying t=some (.slice e))(hu:P.underlying ag=some (.int q)) (Q:P.info? e=some i)(hz:i.zero=some z)(dX:i.size≠0)(m:Nat)(hw:IntKind.i64.wrap (m:Int)=m)(nX:¬(281474976710656<(m:Int)*i.bytes)) (u aa n cap)(w')(fd:n+m<=cap)(bQ:(storeCells ((⟨u,aa,none⟩:Addr).add (n*i.size)) (Builtin.zeroCells z.cells m).toList 0).run P w=.ok () w'):(Builtin.append_ #[t,ag] ty #[.slice (some ⟨u,aa,none⟩) n cap,.int kk (m:Int)]).run P w=.ok (.slice (some ⟨u,aa,none⟩) (n+m) cap) w':=by
 have h0:¬((m:Int)<0):=by omega
 by_cases hn:m=0;subst hn;have H:(Builtin.zeroCells z.cells 0).toList=[]:=by simp[Builtin.zeroCells]
 rw[H]at bQ;simp[Builtin.append_,en ht,en hu,sizeOf,typeInfo,zeroValue,Q,hz,asInt,asIntOf,show IntKind.i64.wrap 0=0 from by decide,dX,show n<=cap by omega,bQ];simp[Builtin.append_,en ht,en hu,sizeOf,typeInfo,zeroValue,Q,hz,hn,asInt,asIntOf,hw,h0,nX,fd,bQ];exact fun h=>absurd h (KG hn dX)
def ae9(w)(t ag ty e:TypeId)(du:TypeDesc)(i:TypeInfo)(z)(ht:P.underlying t=some (.slice e))(hu:P.underlying ag=some du)(fC:(∃e',du=.slice e')\/du=.string) (Q:P.info? e=some i)(hz:i.zero=some z)(x)(m)(news:List Value)(hlen:∀w':World,(Builtin.lenOf x).run P w'=.ok m w')(kl:(Builtin.firstCells i.size m x).run P w.drew=.ok news.toArray w.drew) (a)(hn:m≠0)(lV:¬(9223372036854775807<(m:Int)))(lU:¬(281474976710656<Builtin.nextslicecap m 0*i.bytes)):(Builtin.append_ #[t,ag] ty #[.slice (some a) 0 0,x]).run P w=.ok (.slice (some ⟨w.heap.size,0,none⟩) m (grownCap w m 0 e)) (w.drew.alloc (.cells (news.toArray++Builtin.zeroCells z.cells (grownCap w m 0 e-m)) e)):=by have s3:=FG (P:=P) w.drew i.size 0 a 0 0 [] sM sM;rcases fC with⟨e',rfl⟩|rfl;all_goals simp[Builtin.append_,en ht,en hu,sizeOf,typeInfo,zeroValue,Q,hz,hlen,hn,lV,lU,Question.forced,kl,s3,newRow,grownCap]
def afc(w)(t ag ty e:TypeId)(du:TypeDesc)(i:TypeInfo)(ht:P.underlying t=some (.slice e))(hu:P.underlying ag=some du)(fC:(∃e',du=.slice e')\/du=.string) (Q:P.info? e=some i)(x)(hlen:∀w':World,(Builtin.lenOf x).run P w'=.ok 0 w')(kl:(Builtin.firstCells i.size 0 x).run P w=.ok #[] w) (a):(Builtin.append_ #[t,ag] ty #[.slice (some a) 0 0,x]).run P w=.ok (.slice (some a) 0 0) w:=by rcases fC with⟨e',rfl⟩|rfl<;>simp[Builtin.append_,en ht,en hu,sizeOf,typeInfo,Q,hlen,kl,storeCells]
def abe(hT:bl P T){c}{h:Hp}{t ag e:TypeId}{x}{k}{i:TypeInfo}{zv}(lu:P.underlying t=some (.slice e))(Q:P.info? e=some i)(hz:i.zero=some zv) (cX:∀v∈zv.cells.toList,v.oneCell'=true)(n6:zv.cells.size=i.size)(dX:1<=i.size)(o:EX T c (av h) ag e i.size (zv.cells.toList.map qA) x k):∃p es rd,k p es rd/\∀w X g F v,Inv w X g F->(∀i∈rd,F[i]?=h[i]?)->af w (Ex X g) g x v->∃news:List Value,news.length=es.length*i.size/\(∀ag∈news,ag.oneCell'=true)/\y8 w (Ex X g) (gQ p g) i.size es news/\(∀ty v0 n xs,F8 w e i.size v0 n xs->n+es.length<=4611686018427387903->(n+es.length)*i.bytes<=140737488355328->∃v' w',(Builtin.append_ #[t,ag] ty #[v0,v]).run P w=.ok v' w'/\FY w e i.size v0 n es.length (xs++news) v' w')/\(∀ty u aa n cap w',n+es.length<=cap->es.length<=4611686018427387903->es.length*i.bytes<=140737488355328->(storeCells ((⟨u,aa,none⟩:Addr).add (n*i.size)) news 0).run P w=.ok () w'->(Builtin.append_ #[t,ag] ty #[.slice (some ⟨u,aa,none⟩) n cap,v]).run P w=.ok (.slice (some ⟨u,aa,none⟩) (n+es.length) cap) w')/\((∀q,(bk P ag).ti≠ .int q)->∀ty a,es.length<=4611686018427387903->es.length*i.bytes<=140737488355328->(es.length=0->(Builtin.append_ #[t,ag] ty #[.slice a 0 0,v]).run P w=.ok (.slice a 0 0) w)/\(es.length≠0->∃cap cur,(Builtin.append_ #[t,ag] ty #[.slice a 0 0,v]).run P w=.ok (.slice (some ⟨w.heap.size,0,none⟩) es.length cap) (w.drew.alloc (.cells cur e))/\es.length<=cap/\cap<=maxLen/\cur.size=cap*i.size/\cur.toList.take (es.length*i.size)=news)):=by
 by_cases hq:∃q,(bk P ag).ti=.int q;have⟨q,ax⟩:=hq;have o:=b4 hT o;rw[ax]at o;cases x with
 |int kk n=>
  have⟨h0,o⟩:=bL o;have h0:=cZ h0;obtain⟨m,rfl⟩:=oD h0;refine⟨_,_,_,o,fun w X g F v _ _ D=>?_⟩;cases D;refine⟨(Builtin.zeroCells zv.cells m).toList,by simp[BK,n6],Rt cX m,fun j a ha=>?_,fun ty v0 n xs br E F=>?_,fun ty u aa n cap w' fd E F bQ=>?_,fun Do=>absurd ax (Do q)⟩;have⟨a1,a2⟩:=Fg (w:=w) (L:=Ex X g) (n:=m) n6 cX j a ha;refine⟨a1,fun l s hs=>?_⟩;have⟨v,b1,c0,i6⟩:=a2 l s hs;refine⟨v,?_,c0,i6⟩;rw[eF,Builtin.zeroCells,n6];simp_all;simp only[FH,gh]at E F⊢;exact asv w t ag ty e q kk i zv lu (so (bm ax sM).1) Q hz G n6 cX v0 n xs br m E F;simp only[FH,gh]at fd E F⊢;have hw:IntKind.i64.wrap (m:Int)=m:=by rw[yS];omega
  have nX:¬(281474976710656<(m:Int)*i.bytes):=by
   have:((m*i.bytes:Nat):Int)=(m:Int)*i.bytes:=by push_cast;rfl
   omega
  exact afh w t ag ty e q kk i zv lu (so (bm ax sM).1) Q hz G m hw nX u aa n cap w' fd bQ
 |_=>cases o
 have⟨p,es,rd,E,⟨du,fC,ol⟩,F⟩:=abf hT (fun q h=>hq ⟨q,h⟩) o;refine⟨p,es,rd,E,fun w X g h' v O ap D=>?_⟩;have⟨news,aw⟩:=F w X g h' v O ap D
 refine⟨news,aw.len,aw.one,aw.row,fun ty v0 n xs br b1 c0=>asu w t ag ty e du i zv i.size i.bytes lu fC ol Q hz rfl rfl n6 v0 n xs br v es.length news aw.len aw.lenOf aw.first aw.one (by simp only[maxLen];omega) c0,
  fun ty u aa n cap w' fd _ _ bQ=>Tp w t ag ty e du i lu fC ol Q v es.length news aw.lenOf (aw.first w rfl) u aa n cap w' fd bQ,fun _ ty a E F=>⟨fun h0=>?_,fun h0=>?_⟩⟩
 have hn:=pH (by rw[aw.len,h0];simp);have hl:=aw.lenOf;have hf:=aw.first w rfl;rw[h0]at hl hf;rw[hn]at hf;cases a with|none=>exact Tn w t ag ty e du i lu fC ol Q v hl hf|some a=>exact afc w t ag ty e du i lu fC ol Q v hl hf a
 have lV:¬(9223372036854775807<(es.length:Int)):=by omega
 have lU:¬(281474976710656<Builtin.nextslicecap es.length 0*i.bytes):=by rw[SD G];omega
 refine⟨grownCap w es.length 0 e,news.toArray++Builtin.zeroCells zv.cells (grownCap w es.length 0 e-es.length),?_,FF w es.length 0 e,KE w es.length 0 e (by simp only[maxLen];omega),?_,?_⟩;cases a with|none=>exact Le w t ag ty e du i zv lu fC ol Q hz v es.length news aw.lenOf (aw.first w.drew rfl) h0 lV lU|some a=>exact ae9 w t ag ty e du i zv lu fC ol Q hz v es.length news aw.lenOf (aw.first w.drew rfl) a h0 lV lU
 have hk:=FF w es.length 0 e;simp only[KF,FC,BK,n6,aw.len,<-jg];simp_all;simp only[Array.toList_append];rw[<-aw.len];simp_all
end
