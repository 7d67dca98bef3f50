/- Lemmas for TopZ; tactic blocks in binders fill in some arguments. -/
import Derived.Test.YtfkepgkmobgleaaGreatDoorP08
set_option linter.all false
noncomputable section
namespace Go.Sx
section
variable{P:Program} {T:aG}
def Qw(n:Nat)(A:eV)(b3:Hp):Bool:=(List.range n).all fun i=>(A[i]?==some (some i))&&(match b3[i]? with|some (.fix _ _)=>true|_=>false)
def ar7{n A b3}(h:Qw n A b3=true):K0 n A b3:=fun i Q=>by unfold Qw at h;grind
def Zn{A I s K K'}(hm:∀x,K x->K' x)(h:lA A I s K):lA A I s K':=by
 cases s<;>first
  |exact hm _ h
  |exact h.elim
  |(obtain⟨E,F⟩:=bL h
    have⟨aT,h3,h4⟩:=bg F
    refine dt E (jY h3 ?_)
    grind)
def Zw{f:SV->(SV->Prop)->Prop}(hf:∀{s K K'},(∀x,K x->K' x)->f s K->f s K')(l):∀{K K'},(∀x,K x->K' x)->List.rec (fun K=>K []) (fun x _ ih K=>f x fun y=>ih fun r=>K (y::r)) l K->List.rec (fun K=>K []) (fun x _ ih K=>f x fun y=>ih fun r=>K (y::r)) l K':=by induction l<;>grind
def Zs{A}{I}{s}{K K'}(hm:∀x,K x->K' x)(h:mg A I s K):mg A I s K':=by
 have k2:(∃cs,s=.agg cs)\/lA A I s K:=by cases s<;>first|exact .inl ⟨_,rfl⟩|exact .inr h
 rcases k2 with⟨cs,rfl⟩|E;exact Zw (f:=lA A I) Zn cs (fun x hx=>hm _ hx) h;have:=Zn hm E;exact ach
def aoT{A}{I}{s}{K K'}(hm:∀x,K x->K' x)(h:mh A I s K):mh A I s K':=by
 have k2:(∃cs,s=.tup cs)\/mg A I s K:=by cases s<;>first|exact .inl ⟨_,rfl⟩|exact .inr h
 rcases k2 with⟨cs,rfl⟩|E;exact Zw (f:=mg A I) Zs cs (fun x hx=>hm _ hx) h;have:=Zs hm E;exact ach
def Zl{A I s K}(h:lA A I s K):∃s1,K s1/\∀K':SV->Prop,K' s1->lA A I s K':=by
 cases s<;>first
  |exact⟨_,h,fun _ h=>h⟩
  |exact h.elim
  |(obtain⟨E,F⟩:=bL h
    have⟨aT,h3,h4⟩:=bg F
    cases aT<;>first
     |exact h4.elim
     |exact⟨_,h4,fun K' o=>dt E (jY h3 o)⟩)
def Zv{f:SV->(SV->Prop)->Prop}(hf:∀{s K},f s K->∃s1,K s1/\∀K':SV->Prop,K' s1->f s K')(l):∀{K},List.rec (fun K=>K []) (fun x _ ih K=>f x fun y=>ih fun r=>K (y::r)) l K->∃l1,K l1/\∀K':List SV->Prop,K' l1->List.rec (fun K=>K []) (fun x _ ih K=>f x fun y=>ih fun r=>K (y::r)) l K':=by induction l<;>grind
def Zq{A}{I}{s}{K}(h:mg A I s K):∃s1,K s1/\∀K':SV->Prop,K' s1->mg A I s K':=by
 have k2:(∃cs,s=.agg cs)\/lA A I s K:=by cases s<;>first|exact .inl ⟨_,rfl⟩|exact .inr h
 rcases k2 with⟨cs,rfl⟩|E;have⟨l,h,hl⟩:=Zv (f:=lA A I) Zl cs h;exact⟨.agg l,h,fun K' o=>hl _ o⟩;have⟨s1,E,F⟩:=Zl E;refine⟨s1,E,fun K' o=>?_⟩;have:=F K' o;exact ach
def aoS{A}{I}{s}{K:SV->Prop}(h:mh A I s (fun x=>∃s1,x=s1/\K s1)):∃s1,mh A I s (fun x=>x=s1)/\K s1:=by
 have k2:(∃cs,s=.tup cs)\/mg A I s (fun x=>∃s1,x=s1/\K s1):=by cases s<;>first|exact .inl ⟨_,rfl⟩|exact .inr h
 rcases k2 with⟨cs,rfl⟩|E;have⟨l,⟨_,e,h⟩,hl⟩:=Zv (f:=mg A I) Zq cs h;exact⟨.tup l,hl _ rfl,e▸h⟩;have⟨s1,⟨_,e,h⟩,F⟩:=Zq E;refine⟨s1,?_,e▸h⟩;have:=F (fun x=>x=s1) rfl;exact ach
def wk0(s s':SV)(k:Prop):Prop:=match s with|.nils=>(match s' with|.rs _ es=>es=[]/\k|.nils=>k|_=>False)|s=>s=s'/\k
def JY(s s':SV)(k:Prop):Prop:=match s' with|.any=>k|s'=>wk0 s s' k
def Rm(l:List SV):List SV->Prop->Prop:=
 List.rec (fun l' k=>List.rec k (fun _ _ _=>False) l')
  (fun s _ ih l' k=>List.rec False (fun s' t' _=>JY s s' (ih t' k)) l') l
def wkK(s s':SV)(k:Prop):Prop:=match s with|.tup l=>(match s' with|.tup l'=>Rm l l' k|_=>False)|s=>JY s s' k
def auG{s s' k}(h:wk0 s s' k):k/\zc s s':=by cases s<;>first|(obtain⟨e,h⟩:=h;exact⟨h,fun _ _ _ D=>e▸D⟩)|(cases s'<;>first|exact h.elim|exact⟨h,fun _ _ _ D=>D⟩|(obtain⟨e,h⟩:=h;subst e;exact⟨h,fun _ _ _ D=>by cases D;exact .hJ (cx _)⟩))
def abR{s s' k}(h:JY s s' k):k/\zc s s':=by cases s'<;>first|exact⟨h,fun _ _ _ _=>.any⟩|exact auG h
def auH(l):∀{l' k},Rm l l' k->k/\l.length=l'.length/\∀(i:Nat)(s s':SV),l[i]?=some s->l'[i]?=some s'->zc s s':=by
 induction l with
 |nil=>intro l' k h;cases l' with|nil=>exact⟨h,rfl,sM⟩|cons _ _=>exact h.elim
 |cons x l ih=>intro l' k h;cases l' with|nil=>exact h.elim|cons y l'=>have⟨h,E⟩:=abR h;have⟨h,F,h3⟩:=ih h;grind
def abS{s s' k}(h:wkK s s' k):k/\zc s s':=by
 have key:(∃l l',s=.tup l/\s'=.tup l'/\Rm l l' k)\/JY s s' k:=by cases s<;>first|exact .inr h|(cases s'<;>first|exact h.elim|exact .inl ⟨_,_,rfl,rfl,h⟩)
 rcases key with⟨l,l',rfl,rfl,h⟩|h;have⟨h,E,F⟩:=auH l h;refine⟨h,fun w L v D=>?_⟩;cases D with
 |tup hl hc=>
  refine .tup (E▸hl) fun i s v hs hv=>?_;have Q:i<l.length:=by rw[E];exact(ao.1 hs).1
  exact F i _ s (aD Q) hs w L v (hc i _ v (aD Q) hv)
 exact abR h
def bj.of{n}{s}{I}{s'}{b3}(A)(aF:mw 0 A=true)(o:mh A I s (fun s1=>wkK s1 s' (nL A I A b3 True)))(D:Qw n A b3=true):bj n s I s' b3:=by
 have⟨s1,hw,kV,hf⟩:=PR o;have key:mh A I s (fun x=>∃s1,x=s1/\zc s1 s')/\nL A I A b3 True:=by refine⟨?_,(abS hw).1⟩;exact aoT (fun x hx=>⟨x,rfl,(abS hx).2⟩) o
 have⟨s2,jT⟩:=aoS key.1;exact⟨⟨A,s2,aF,jT.1,jT.2,key.2,ar7 D⟩⟩
structure aL(P:Program)(f:FuncId)(args:List SV)(ab:fy)(s:SV)(A':fy):Prop where
 ok:∀(h:Hp)(p:Nat),h[p]?=some (.asn ab)->aq P f args h (fun s' h'=>s'=s/\h'=h.set p (.asn A'))
 len:∀(w:World)(X:Nat->Prop)(g:Sg)(h:Hp)(p:Nat)(vs:List Value),h[p]?=some (.asn ab)->Inv w X g h->b5 w (Ex X g) g args vs->
  ea P (callFunc f vs.toArray) w X g h s [(p,.asn A')]
def aL.call{f args ab A' s}(hs:aL P f args ab s A'){h p K}(hp:h[p]?=some (.asn ab))(o:gg h p (.asn A') fun h'=>K s h'):aq P f args h K:=
 ⟨fun w X g vs O D=>((hs.ok h p hp).ok w X g vs O D).mono fun v w'⟨s',h',V,⟨e1,e2⟩,E⟩=>by
  subst e1;subst e2
  exact⟨_,_,V,(jb o).2,E⟩⟩
def aL.cA{f args ab A' s}(hs:aL P f args ab s A'){h ae p K}(hp:h[p]?=some (.asn ab))(o:K s [(p,.asn A')] [p]):oF P f args h ae K:=
 ⟨s,[(p,.asn A')],[p],o,⟨fun w X g F vs O D dz=>hs.len w X g F p vs ((dz p sM).trans hp) O D,sM⟩⟩
def aL.sub{f args bH am b3 ab gs A' s}(hA:uA ab am gs A')(bQ:∀hc,ef hc->gv (A' hc))(uX:ef am)(dW:ef b3) (ha:wL gs args bH True)(hc:aq P f args am fun s0 I=>bj gs.length s0 I s b3):aL P f bH ab s (A' b3):=by
 refine⟨fun h p hp=>.sub hp hA bQ uX ha hc fun _ _ hR=>⟨s,b3,hR,dW,rfl,rfl⟩,fun w X g h p vs hp O D=>?_⟩
 exact(E0 (K:=fun s' h'=>s'=s/\h'=h.set p (.asn (A' b3))) hp hA bQ uX O (fun X1 dU p3 pa lc=>hc.ok w X1 dU vs p3 ((Li args ha).2 w _ _ g dU vs pa lc D))
  fun _ _ hR=>⟨s,b3,hR,dW,rfl,rfl⟩).mono fun v w'⟨s',h',V,⟨e1,e2⟩,b,c,d,e⟩=>by subst e1;subst e2;exact⟨V,b,c,d,e⟩
def Pe{hs:List Hp}{i}{hc}(hn:∀hc∈hs,ef hc)(h:ef hc):∀x∈hs.set i hc,ef x:=fun x hx=>by grind
def aL.pool{α:Type}{ad}(iR:∀x,ef (ad x)){f}{args bH}{gs}{xs:List α}{i}{x x'}{s}(Q:xs[i]?=some x)(ha:wL (gs i) args bH True) (hc:aq P f args (ad x) fun s0 I=>bj (gs i).length s0 I s (ad x')):aL P f bH (aI gs (xs.map ad)) s (aI gs ((xs.set i x').map ad)):=by
 rw[iH];have hn:∀hc∈xs.map ad,ef hc:=fun hc h=>by grind
 exact .sub (.pool (by simp_all) hn) (fun hc h=>pq (Pe hn h)) (iR x) (iR x') ha hc
def mE{α:Type}(f:α->SV)(l:List (Int×α×Nat)):List IE:=l.map fun e=>(e.1,f e.2.1,e.2.2)
def vj{α:Type}(l:List (Int×α×Nat))(k:Int):Option (Int×α×Nat):=l.find? fun e=>e.1==k
def dJ{α:Type}(l:List (Int×α×Nat))(k:Int):Option α:=(vj l k).map (·.2.1)
def hC{α:Type}(l:List (Int×α×Nat))(k:Int):Bool:=l.any fun e=>e.1==k
def gb{α:Type}(l:List (Int×α×Nat))(k:Int)(a:α)(ck:Nat):List (Int×α×Nat):=if hC l k then l.map (fun e=>if e.1=k then(e.1,a,e.2.2)else e)else l++[(k,a,ck)]
def pe{α:Type}(l:List (Int×α×Nat))(k:Int)(ck:Nat):Nat:=if hC l k then ck else ck+1
def iy{α:Type}(l:List (Int×α×Nat))(k:Int):List (Int×α×Nat):=l.filter fun e=> !(e.1==k)
def O3{α:Type}(f:α->SV)(l:List (Int×α×Nat))(k):rS (mE f l) k=hC l k:=by unfold rS hC mE;rw[List.any_map];rfl
def Yg{α:Type}(f:α->SV)(l:List (Int×α×Nat))(k):Aj (mE f l) k=(dJ l k).map f:=by unfold Aj x6 dJ vj mE;rw[List.find?_map,Option.map_map,Option.map_map];rfl
def O5{α:Type}(f:α->SV)(l:List (Int×α×Nat))(k)(a)(ck):lx (mE f l) k (f a) ck=mE f (gb l k a ck):=by unfold lx gb;rw[O3];split;unfold mE;rw[pJ,pJ];apply k8;grind;unfold mE;simp_all
def qw{α:Type}(f:α->SV)(l:List (Int×α×Nat))(k)(ck):m_ (mE f l) k ck=pe l k ck:=by unfold m_ pe;rw[O3]
def O0{α:Type}(f:α->SV)(l:List (Int×α×Nat))(k):qm (mE f l) k=mE f (iy l k):=by unfold qm iy mE;rw[List.filter_map];rfl
def nG.of{α:Type}{f}{l:List (Int×α×Nat)}{es}{k}{yes}{no}(H:es=mE f l)(E:∀a,dJ l k=some a->yes (f a))(F:dJ l k=none->no):nG es k yes no:=by subst H;refine⟨fun v hv=>?_,fun hn=>F ?_⟩;rw[Yg]at hv;cases ha:dJ l k<;>simp_all;rw[Yg]at hn;simp_all
def wu.of{α:Type}{f}{l:List (Int×α×Nat)}{es}{seen}{yes}{no}(H:es=mE f l)(E:∀k a s,(k,a,s)∈l->s∉seen->yes k (f a) s) (F:(∀e∈l,e.2.2∈seen)->no):wu es seen yes no:=by subst H;refine⟨fun k v s hm hs=>?_,fun hn=>F fun e H=>hn (e.1,f e.2.1,e.2.2) (ew.2 ⟨e,H,rfl⟩)⟩;have⟨e,H,heq⟩:=ew.1 hm;grind
end
section
variable{P:Program} {T:aG}
def Shr(R:SV->Hp->Prop)(s:SV)(I:Hp):Prop:=R s I\/ ∃p i b m T0 t sz cs es,I[p]?=some (.fix T0 cs)/\cs[i]?=some (.ss b 0 m)/\I[b]?=some (.row t sz es)/\
 es≠[]/\m<=es.length/\R s (((I.set p (.fix T0 (cs.set i (.sl I.length)))).set b .dead)++[.row t sz (es.take m)])
def aa4{w X g I p i b m}{T0 t:TypeId}{sz cs es}(O:Inv w X g I)(hp:I[p]?=some (.fix T0 cs))(hc:cs[i]?=some (.ss b 0 m))(M:I[b]?=some (.row t sz es)) (cW:es≠[])(hm:m<=es.length):∃V,Inv w X V (((I.set p (.fix T0 (cs.set i (.sl I.length)))).set b .dead)++[.row t sz (es.take m)])/\∀q:Nat,Step q w g w V:=by
 have fm:b<g.length:=by rw[O.len];exact(ao.1 M).1
 have cS:=aD fm;have aw:=O.ok b _ _ M cS;generalize g[b]=pU at cS aw;cases pU<;>simp only[aB]at aw;case rownil=>simp_all
 rename_i u jB n cap;have⟨E,F,h3,h4,vs,h5,h6,h7⟩:=aw;subst E;subst F;have hnp:0<es.length:=SB.2 cW;let V:Sg:=(g.set b .dead)++[.row u jB m cap];have bc:∀j e,V[j]?=some e->(j=b/\e=.dead)\/(j≠b/\g[j]?=some e)\/(j=g.length/\e=.row u jB m cap):=fun j e H=>by grind
 have iT:V[g.length]?=some (.row u jB m cap):=by simp only[V];rw[jf sM];simp
 have ca:∀q:Nat,Step q w g w V:=fun q=>by refine⟨rfl,rfl,rfl,aC _,fun _ _ _=>rfl,fun k⟨j,e,H,o⟩_=>?_,fun j e _ H hl=>?_⟩;exact ac8;have hj:=(ao.1 H).1;by_cases mY:j=b;grind;grind
 have hS:=ca g.length;have hold:∀j bw e,I[j]?=some bw->g[j]?=some e->aB w (Ex X V) V bw e:=fun j bw e hj H=>(O.ok j bw e hj H).step hS (aC _) fun _ _=>rfl;refine⟨V,⟨by simp[V,O.len],fun j bw e hj H=>?_,fun j e k H o=>?_,fun j l e e' k hj hl o bV=>?_,fun k hx⟨j,e,H,o⟩=>?_,O.df⟩,ca⟩;rw[gr]at hj;split at hj;rename_i ai;simp only[fV]at ai;rw[bu]at hj;by_cases mY:b=j;subst mY;rw[au rfl,au (by simpa using ai)]at hj;simp at hj;subst hj;rcases bc _ e H with⟨_,rfl⟩|⟨h,_⟩|⟨h,_⟩;trivial;omega;omega;rw[ay mY]at hj;have C4:g[j]?=some e:=by rcases bc _ e H with⟨h,_⟩|⟨_,h⟩|⟨h,_⟩;omega;exact h;rw[h,O.len]at ai;omega
 rw[bu]at hj;by_cases uU:p=j;subst uU;rw[au rfl,au ai]at hj;simp at hj;subst hj;have o:=hold p _ e hp C4;cases e<;>simp only[aB]at o⊢;have⟨cP,k1,k2,k3⟩:=o;refine⟨cP,k1,by simpa using k2,fun q s v hs hv=>?_⟩;rw[bu]at hs;by_cases NN:i=q;subst NN;have cj:=(ao.1 hc).1;rw[au rfl,au cj]at hs;simp at hs;subst hs;refine⟨?_,(k3 i _ v hc hv).2⟩;have cF:=O.ok p _ _ hp C4;have⟨Bk,q1,q2,q3⟩:=cF;have:Bk=cP:=by rw[q1]at k1;simpa using k1
 subst this;have D:=(q3 i _ v hc hv).1;rw[<-O.len];cases D with|ss cY rc em=>rw[cS]at cY;simp at cY;obtain⟨rfl,rfl,rfl,rfl⟩:=cY;have:=em G;simp at this;subst this;exact .sl iT|eS cY=>simp_all|ej cY=>grind
 grind;grind;rename_i ai;simp only[fV]at hj ai;have h0:j-I.length=0:=by by_cases h0:j-I.length=0;exact h0;simp_all
 rw[h0]at hj;simp at hj;subst hj;have dq:j=g.length:=by rw[O.len];omega
 subst dq;rw[iT]at H;simp at H;subst H;refine⟨rfl,sO,by omega,h4,vs,h5,h6,fun q e' hq=>?_⟩;exact Sb;exact acY;exact By;exact acE
def aq.shrink{f args h R}(hc:aq P f args h (Shr R)):aq P f args h R:=
 ⟨fun w X g vs O D=>(hc.ok w X g vs O D).mono fun v w'⟨s,I,V,hR,hv,aE,hS⟩=>by
  rcases hR with hR|⟨p,i,b,m,T0,t,sz,cs,es,E,F,h3,h4,h5,hR⟩
  ·grind
  ·have⟨c8,be,b_⟩:=aa4 aE E F h3 h4 h5
   exact⟨s,_,c8,hR,hv.step (b_ _) (aC _),be,hS.trans (b_ _)⟩⟩
end
section
variable{P:Program} {T:aG}
def jF{α:Type}(f:(α->Prop)->Prop):Prop:=∀k,f k->∃a,k a/\∀k',k' a->f k'
def w3{α:Type}(a:α):jF fun k=>k a:=fun _ h=>⟨a,h,fun _ h=>h⟩
def Ul{α:Type}:jF (α:=α) fun _=>False:=fun _ h=>h.elim
def Um{α β:Type}{l}{i}{u:β->(α->Prop)->Prop}(U:∀b,jF (u b)):jF fun k=>av l i fun b=>u b k:=fun k h=>by obtain⟨b,M,h⟩:=bg h;obtain⟨a,ha,h'⟩:=U b k h;exact⟨a,ha,fun k' bV=>jY M (h' k' bV)⟩
def uF{α β:Type}{f}(hf:jF f)(u:α->β):jF fun k=>f fun a=>k (u a):=fun k h=>by have⟨a,ha,h'⟩:=hf _ h;grind
def Cp{α β:Type}{f:β->(α->Prop)->Prop}(hf:∀b,jF (f b))(l):jF (List.rec (fun k=>k []) (fun x _ ih k=>f x fun y=>ih fun r=>k (y::r)) l):=by induction l with|nil=>exact w3 []|cons x l ih=>intro k h;have⟨y,h,hy⟩:=hf x _ h;have⟨r,h,D⟩:=ih _ h;grind
def Ps(A)(s):jF (tA A s):=by cases s<;>first|exact Ul|exact w3 _|exact Um fun j=>w3 _
def YF(A)(l):jF (IQ A l):=Cp (Ps A) l
def YE(A)(s):jF (yf A s):=by
 have key:(∃t x,s=.ifc t x)\/(∃f cs,s=.fn f cs)\/yf A s=tA A s:=by cases s<;>first|exact .inr (.inr rfl)|simp_all|simp_all
 rcases key with⟨t,x,rfl⟩|⟨f,cs,rfl⟩|e;have key:(∃cs,x=.agg cs)\/yf A (.ifc t x)=fun k=>tA A x fun y=>k (.ifc t y):=by cases x<;>first|exact .inl ⟨_,rfl⟩|exact .inr rfl
 rcases key with⟨cs,rfl⟩|e;exact uF (YF A cs) (fun c=>SV.ifc t (.agg c));rw[e];exact uF (Ps A x) (SV.ifc t);exact uF (YF A cs) (SV.fn f);rw[e];exact Ps A s
def Pu(A)(l):jF (D7 A l):=Cp (YE A) l
def IJ(A)(s):jF (nb A s):=by
 have key:(∃cs,s=.agg cs)\/nb A s=yf A s:=by cases s<;>first|exact .inr rfl|simp_all
 rcases key with⟨cs,rfl⟩|e;exact uF (Pu A cs) SV.agg;rw[e];exact YE A s
def an2(A)(l):jF (YG A l):=Cp (IJ A) l
def IL(A)(s):jF (rZ A s):=by
 have key:(∃cs,s=.tup cs)\/rZ A s=nb A s:=by cases s<;>first|exact .inr rfl|simp_all
 rcases key with⟨cs,rfl⟩|e;exact uF (an2 A cs) SV.tup;rw[e];exact IJ A s
def an0(A)(l):jF (IP A l):=Cp (Pu A) l
def anY(A)(l:List (SV×SV×Nat)):jF (AG A l):=by induction l with|nil=>exact w3 []|cons x l ih=>intro k h;have⟨a,h,ha⟩:=IJ A x.1 _ (show nb A x.1 (fun a=>nb A x.2.1 fun b=>AG A l fun r=>k ((a,b,x.2.2)::r))from h);have⟨b,h,M⟩:=IJ A x.2.1 _ h;have⟨r,h,D⟩:=ih _ h;exact⟨_,h,fun k' bV=>show nb A x.1 (fun a=>nb A x.2.1 fun b=>AG A l fun r=>k' ((a,b,x.2.2)::r))from ha _ (M _ (D _ bV))⟩
def anW(A)(b):jF (IM A b):=by
 cases b with
 |fix t cs=>exact uF (Pu A cs) (bK.fix t)
 |prow t z es=>exact uF (an0 A es) (bK.prow t z)
 |pmap es c=>exact uF (anY A es) (fun aS=>bK.pmap aS c)
 |mit m a l c=>cases m with|none=>exact w3 (bK.mit none a l c)|some b=>exact Um (l:=A) (i:=b) fun j=>w3 (bK.mit (some j) a l c)
 |_=>first|exact Ul|exact w3 _
def IN(A)(l):jF (r3 A l):=Cp (anW A) l
def XD(l):∀{I h K},l.length<=I.length->(∀j∈l,j<h.length)->K (bF (l.zip I) h++I.drop l.length)->DT l I h K:=by induction l with|nil=>intro I h K _ _ o;exact BZ o|cons j l ih=>intro I h K hl hj o;cases I with|nil=>simp at hl|cons b I=>exact A9 (hj j sM) (ih (by simpa using hl) (fun q hq=>by simp_all) o)
def aar{n m A}(hl:A.length=n)(hn:A.Nodup)(hj:∀j∈A,j<m):vF n m A=true:=by subst hl;simp only[vF,yQ,Nat.ble_eq,aC,KJ,we,List.range_zero,List.all_nil,Bool.and_true,bR,ir,bs];simp_all
def ajV{f}{args bH}{am}{s1}{em}(hs:al P f args am fun s I=>s=s1/\I=em)(A)(hl:A.length=am.length)(hn:A.Nodup){h} (ha:u_ A args bH True)(hh:x7 A h A am True)(rc:em.length=A.length){K:SV->Hp->Prop}(o:r3 A em fun bf=>rZ A s1 fun s'=>K s' bf):∃s' bf,K s' bf/\bf.length=A.length/\∀w X g F vs,Inv w X g F->b5 w (Ex X g) g bH vs->(∀i∈A,F[i]?=h[i]?)->bO P (callFunc f vs.toArray) w fun v w'=>∃V,af w' (Ex X V) V s' v/\Inv w' X V (bF (A.zip bf) F)/\Step g.length w g w' V/\V.length=g.length:=by
 have⟨bf,o,M⟩:=IN A em _ o;obtain⟨s',o,xS⟩:=IL A s1 _ o;obtain⟨o7,e2,d3,_⟩:=Pt em (M (fun x=>x=bf) rfl);subst e2;refine⟨s',o7,o,G,fun w X g F vs O D dz=>?_⟩;obtain⟨_,At,oX⟩:=On _ hh;have dq:∀j∈A,j<F.length:=fun j hj=>by obtain⟨i,Q⟩:=fx.1 hj;have cj:=(ao.1 Q).1;obtain⟨b',aP,_⟩:=oX i j _ Q (aD (by omega));grind
 have l9:A.take am.length=A:=by rw[<-hl];exact yQ
 have hc:aq P f bH F (fun Jx ad=>Jx=s'/\ad=bF (A.zip o7) F):=hs.ok.Ql A (aar hl hn dq) ha (by simp_all)
  (fun i j b Q M=>by
   grind)
  (fun s I⟨e1,e2⟩=>by
   subst e1;subst e2
   refine kM rc (M _ (QW (by omega) ?_))
   rw[l9]
   refine XD A (by omega) dq (xS _ ⟨rfl,?_⟩)
   simp_all)
 exact J6
def Tu(h:Hp)(l:List Nat):Hp->Prop->Prop:=
 List.rec (fun I k=>List.rec k (fun _ _ _=>False) I)
  (fun j _ ih I k=>List.rec False (fun b t _=>av h j fun b'=>b=b'/\ih t k) I) l
def afq{h}(l):∀{I k},Tu h l I k->k/\∀F:Hp,(∀i∈l,F[i]?=h[i]?)->bF (l.zip I) F=F:=by
 induction l with
 |nil=>intro I k o;cases I with|nil=>exact⟨o,fun _ _=>rfl⟩|cons _ _=>exact o.elim
 |cons j l ih=>intro I k o;cases I with|nil=>exact o.elim|cons b t=>have⟨b',M,e,o⟩:=bg o;subst e;have⟨o,hu⟩:=ih o;refine⟨o,fun F ha=>?_⟩;have hj:=(ha j sM).trans M;show bF (l.zip t) (F.set j b)=F;rw[yy hj];grind
def al.lP{f}{args bH}{am}{s1}{em}(hs:al P f args am fun s I=>s=s1/\I=em)(A)(hl:A.length=am.length)(hn:A.Nodup){h}{ae}{K} (ha:u_ A args bH True)(hh:x7 A h A am True)(rc:em.length=A.length)(o:r3 A em fun bf=>Tu h A bf (rZ A s1 fun s'=>K s' [] A)):oF P f bH h ae K:=by have⟨bf,bi,M⟩:=IN A em _ o;have⟨aU,hu⟩:=afq A bi;have⟨s',dc,xS⟩:=IL A s1 _ aU;have⟨s2,o7,⟨e1,e2⟩,_,aw⟩:=ajV hs A hl hn ha hh rc (K:=fun s2 o7=>s2=s'/\o7=bf) (M _ (xS _ ⟨rfl,rfl⟩));subst e1;subst e2;refine⟨s2,[],A,dc,⟨fun w X g F vs O D dz=>?_,sM⟩⟩;have:=aw w X g F vs O D dz;rw[hu F dz]at this;exact this
end
section
variable{P:Program}
def aq.wf{f}{args}{h}{K}{b ck:Nat}{es}(M:h[b]?=some (.imap es ck))(o:gW es ck->aq P f args h K):aq P f args h K:=
 ⟨fun w X g vs O D=>by
  have hl:b<g.length:=by rw[O.len];exact(ao.1 M).1
  have I:=O.ok b _ _ M (aD hl)
  have hw:gW es ck:=by
   generalize g[b]=e at I
   cases e<;>simp only[aB]at I
   exact I.1
  exact(o hw).ok w X g vs O D⟩
def al.wf{f}{args}{h}{K}{b ck:Nat}{es}(M:h[b]?=some (.imap es ck))(o:gW es ck->al P f args h K):al P f args h K:=
 ⟨.wf M fun h=>(o h).ok⟩
end
section
variable{P:Program} {T:aG}
def as3{l:List Hp}{i}{a}(h:l[i]?=some a):l.set i a=l:=by have⟨ai,U⟩:=ao.1 h;exact acR
def AT{α:Type}{ad}(iR:∀x,oJ 1 (ad x))(xs:List α):∀hc∈xs.map ad,ef hc:=fun hc h=>by obtain⟨y,_,rfl⟩:=ew.1 h;exact(iR y).Ed
def cc.pool(hT:bl P T){α:Type}{ad}(iR:∀x,oJ 1 (ad x)){gs}{xs:List α}{i}{x}{u aa p}{t:TypeId}{h}{K}(hp:h[p]?=some (.asn (aI gs (xs.map ad))))(Q:xs[i]?=some x)(U:gs i=[u]) (o:de T false [.ptr 0 aa] (ad x) 0 (.load t (.tmp 0)) fun s ws _=>ws=[]/\mh [] [] s fun s1=>K s1 [] [p]):cc P t u aa h K:=by
 have hn:=AT iR xs;have Hw:(xs.map ad)[i]?=some (ad x):=by rw[bz,Q];rfl
 refine cc.sub hT (gs:=gs i) (j:=0) hp (.pool Hw hn) (fun hc h=>pq (Pe hn h)) (by simp_all) ?_ (by rw[U];rfl) o;rw[as3 Hw]
def gV.pool(hT:bl P T){α:Type}{ad}(iR:∀x,oJ 1 (ad x)){gs}{xs:List α}{i}{x0}(x'){u aa p}{t:TypeId}{v}{h}{K}(hp:h[p]?=some (.asn (aI gs (xs.map ad))))(Q:xs[i]?=some x0)(U:gs i=[u]) (xw:mU v True)(o:cH T [.ptr 0 aa,v] (ad x0) 0 (.store t (.tmp 0) (.tmp 1)) fun s ws _=>s=.undef/\t_ ws (ad x0) fun E=>E=ad x'/\K .undef [(p,.asn (aI gs ((xs.set i x').map ad)))] [p]):gV P t u aa v h K:=by
 have hn:=AT iR xs;have Hw:(xs.map ad)[i]?=some (ad x0):=by rw[bz,Q];rfl
 obtain⟨_,hf⟩:=xa xw;have bQ:∀hc,ef hc->gv (aI gs ((xs.map ad).set i hc)):=fun hc h=>pq (Pe hn h);obtain⟨s,ws,aJ,⟨e,o⟩,aw,_⟩:=lz hT (fun h=>by simp[qX]at h) o;subst e;obtain⟨MS,o⟩:=E6 o;have I:oJ 1 (bF ws (ad x0)):=by rw[MS];exact iR x'
 have rM:aI gs ((xs.set i x').map ad)=aI gs ((xs.map ad).set i (bF ws (ad x0))):=by rw[iH,MS]
 rw[rM]at o;refine⟨⟨.undef,_,[p],o,sM,fun w X g F A x y d ty pos after guard hv hy O ap=>?_⟩⟩;have nY:=(ap p sM).trans hp;refine Ej (p:=p) (bw:=.asn (aI gs ((xs.map ad).set i (bF ws (ad x0))))) (kC _ _ _) (E0 (R:=fun s0 h0=>s0=.undef/\h0=bF ws (ad x0)) nY (.pool Hw hn) bQ (iR x0).Ed O (fun X1 dU p3 pa lc=>?_) (fun s0 h0⟨e1,e2⟩=>?_));have:=aw w X1 dU (ad x0) (fun z=>match z with|.tmp 0=>.pointer (some ⟨u,aa,none⟩)|_=>A y) d ty pos after guard p3 (fun z hz=>?_) (fun _ _=>rfl);have e1:execOp A ⟨d,.store t x y,ty,pos,after,guard⟩=execOp (fun z=>match z with|.tmp 0=>.pointer (some ⟨u,aa,none⟩)|_=>A y) ⟨d,.store t (.tmp 0) (.tmp 1),ty,pos,after,guard⟩:=by simp only[execOp,hv]
 rw[e1];exact bO.mono this fun v w'⟨V,a1,a2,a3,_⟩=>⟨_,_,V,⟨rfl,rfl⟩,a1,a2,a3⟩;simp[Op.operands]at hz;rcases hz with rfl|rfl;intro s0 h0;simp at h0;subst h0;exact .ptr (pa 0 u (by rw[U];rfl));intro s0 h0;simp at h0;subst h0;exact(hf w _ g dU _ hy).mono dU (fun _ _ _=>rfl) (aC _) (fun u _ hn h=>hn (lc u h)) (fun i e H _=>.inl H);subst e1;subst e2;exact⟨.undef,_,.same (by rw[U];exact I) rfl,I.Ed,rfl,rfl⟩
def AJ:SV->Bool
 |.int _ _=>true|.bool _=>true|.tt=>true|.ff=>true|.str _=>true|.nilp=>true|.nils=>true|.nilm=>true|.nili=>true|.ra _ _=>true|.rl _ _ _=>true
 |.sl _=>true|.mp _=>true|.ptr _ _=>true|.any=>true|.undef=>true
 |_=>false
def AK{s}(h:AJ s=true):sF s:=fun w w' L E' g v D=>by cases s<;>first|(simp[AJ]at h;done)|(cases D<;>first|(constructor;done)|(constructor<;>assumption;done)|exact .eD ‹_›|exact .dE ‹_›|exact .c9 ‹_›|exact .gN ‹_›)
def YW(b:bK):Bool:=match b with|.fix _ cs=>cs.all AJ|.dead=>true|.asn _=>true|_=>false
def qx{b}(h:YW b=true):k_ b:=by cases b<;>first|(simp[YW]at h;done)|trivial|exact fun s hs=>AK (ir.1 h s hs)
def vr{α:Type}{T:TypeId}{z f}(hf:∀a,(f a).all AJ=true)(l:List α):k_ (.row T z (l.map f)):=fun e H s hs=>by obtain⟨a,_,rfl⟩:=ew.1 H;exact AK (ir.1 (hf a) s hs)
def aoq{α:Type}{f}(hf:∀a,AJ (f a)=true)(l:List (Int×α×Nat))(ck):k_ (.imap (mE f l) ck):=fun e H=>by obtain⟨a,_,rfl⟩:=ew.1 H;exact AK (hf a.2.1)
def nc:ef []:=fun b M=>by simp at M
def eW{b h}(E:k_ b)(F:ef h):ef (b::h):=fun x hx=>by rcases gE.1 hx with rfl|hx;exact E;exact F x hx
end
section
variable{P:Program} {T:aG}
def fW(ab aZ C:fy):Prop:=∀w O1 O2,ab w O1->aZ w O2->(∀k,O1 k->¬O2 k)->C w (fun k=>O1 k\/O2 k)
def xh(gs:Nat->List Nat)(n:Nat)(l:List Nat):Nat->List Nat:=fun i=>if i=n then l else gs i
def fW.pool{gs hs hc l}:fW (aI gs hs) (cL hc l) (aI (xh gs hs.length l) (hs++[hc])):=fun w O1 O2⟨Os,E,F,h3⟩hB hd=>by refine⟨fun i=>if i=hs.length then O2 else Os i,fun i c Q=>?_,fun i j k Q hj h4 h5=>?_,fun k=>?_⟩;rw[gr]at Q;split at Q;have cW:¬i=hs.length:=G;simp only[xh,ay cW];exact E i c Q;by_cases H:i=hs.length;subst H;simp at Q;subst Q;simpa[xh]using hB;grind;grind;simp only[c_,pI,v8];constructor;rintro(h4|h4);grind;exact⟨hs.length,G,by simpa using h4⟩;grind
def j6{g:Sg}{x}{i}{e}(h:(g++[x])[i]?=some e):g[i]?=some e\/(i=g.length/\e=x):=by grind
def as2{g:Sg}{p}{x}{i}{e}(hp:p<g.length)(h:(g.set p x)[i]?=some e):(i=p/\e=x)\/(i≠p/\g[i]?=some e):=by grind
def Ih{w X g h p ab aZ C O2}(O:Inv w X (g++[.own O2]) (h++[.asn aZ]))(hp:h[p]?=some (.asn ab))(Mz:fW ab aZ C)(xi:gv C):∃V,Inv w X V (h.set p (.asn C))/\(∀m,Step m w (g++[.own O2]) w V)/\V.length=g.length/\∀(i:Nat)(e:ba),g[i]?=some e->¬e.loose->V[i]?=some e:=by
 have hlen:g.length=h.length:=by have:=O.len;simpa using this
 have xM:=(ao.1 hp).1;have hg:p<g.length:=G;have am:∀(i:Nat)(e:ba),g[i]?=some e->(g++[.own O2])[i]?=some e:=fun i e H=>by grind
 have gm:=aD hg;have iV:(h++[.asn aZ])[p]?=some (.asn ab):=by rw[eU xM];exact hp
 have ii:=O.ok p _ _ iV (am p _ gm);generalize g[p]=ep at gm ii;cases ep<;>simp only[aB]at ii;rename_i O1;have oZ:(g++[.own O2])[g.length]?=some (.own O2):=sM;have fm:=O.ok g.length (.asn aZ) (.own O2) (by rw[hlen];simp) oZ;have akj:∀k,O1 k->¬O2 k:=fun k E F=>by have:=O.inj p g.length _ _ k (am p _ gm) oZ E F;omega
 have Vt:=Mz w O1 O2 ii.1 fm.1 akj;refine⟨g.set p (.own fun k=>O1 k\/O2 k),?_⟩;have bc:=fun i e=>as2 (g:=g) (p:=p) (x:=.own fun k=>O1 k\/O2 k) (i:=i) (e:=e) hg;have br:∀k,bM (g.set p (.own fun k=>O1 k\/O2 k)) k->bM (g++[.own O2]) k:=fun k⟨i,e,H,o⟩=>by rcases bc i e H with⟨_,rfl⟩|⟨_,H⟩;rcases o with o|o;exact⟨p,_,am p _ gm,o⟩;exact⟨_,_,oZ,o⟩;exact⟨i,e,am i e H,o⟩
 have awt:∀k,bM (g++[.own O2]) k->bM (g.set p (.own fun k=>O1 k\/O2 k)) k:=fun k⟨i,e,H,o⟩=>by
  have WG:(g.set p (.own fun k=>O1 k\/O2 k))[p]?=some (.own fun k=>O1 k\/O2 k):=by rw[bu,au rfl,au hg]
  rcases j6 H with H|⟨_,rfl⟩;by_cases Q:i=p;subst Q;rw[gm]at H;simp at H;subst H;exact⟨_,_,WG,.inl o⟩;exact⟨i,e,by grind,o⟩;exact⟨_,_,WG,.inr o⟩
 have xB:∀(i:Nat)(e:ba),g[i]?=some e->¬e.loose->(g.set p (.own fun k=>O1 k\/O2 k))[i]?=some e:=fun i e H hl=>by
  have Q:p≠i:=by rintro rfl;rw[gm]at H;simp at H;subst H;exact hl trivial
  simp_all
 have hS:∀m,Step m w (g++[.own O2]) w (g.set p (.own fun k=>O1 k\/O2 k)):=fun m=>⟨rfl,rfl,rfl,aC _,fun _ _ _=>rfl,fun k o _=>br k o,fun i e _ H hl=>by rcases j6 H with H|⟨_,rfl⟩;simp_all;simp_all⟩;refine⟨⟨by simp[hlen],fun i b e M H=>?_,fun i e k H o=>?_,fun i j e e' k Q hj o bV=>?_,fun k hx I=>O.cU k hx (br k I),O.df⟩,hS,sM,xB⟩;rcases bc i e H with⟨rfl,rfl⟩|⟨kQ,H⟩;rw[bu,au rfl,au xM]at M;simp at M;subst M;exact⟨Vt,fun w2 e2 s2=>xi w w2 _ Vt e2 s2⟩;rw[bu,ay fun h=>kQ h.symm]at M;have fm:(h++[.asn aZ])[i]?=some b:=by rw[eU (ao.1 M).1];exact M
 exact(O.ok i b e fm (am i e H)).step (hS _) (aC _) fun _ _=>rfl;have⟨j,e',aK,bV⟩:=br k ⟨i,e,H,o⟩;exact O.lt j e' k aK bV;rcases bc i e Q with⟨e1,rfl⟩|⟨kQ,Q⟩<;>rcases bc j e' hj with⟨e2,rfl⟩|⟨uU,hj⟩;rw[e1,e2];rcases o with o|o;exact absurd (O.inj p j _ _ k (am p _ gm) (am j _ hj) o bV).symm uU;have:=O.inj g.length j _ _ k oZ (am j _ hj) o bV;simp_all;rcases bV with bV|bV;exact absurd (O.inj i p _ _ k (am i _ Q) (am p _ gm) o bV) kQ;have:=O.inj i g.length _ _ k (am i _ Q) oZ o bV;simp_all;exact O.inj i j e e' k (am i _ Q) (am j _ hj) o bV
inductive BS(b:Nat):SV->(Nat->SV)->Prop where
 |ptr:BS b (.ptr b 0) (fun u=>.ra u 0)
 |pair {e:SV} (H:eK e):BS b (.tup [.ptr b 0,e]) (fun u=>.tup [.ra u 0,e])
structure S8(s:SV)(I:Hp)(s':Nat->SV)(b3:Hp):Prop where
 ok:∃(A:eV)(b:Nat)(t:TypeId)(cs:List SV),mw 0 A=true/\A[0]?=some (some b)/\b3[0]?=some (.fix t cs)/\BS b s s'/\nL A I A b3 True
def BS.cK{b s s'}(h:BS b s s'){w L E' g V u v}(hE:∀k,E' k->L k)(hp:∀v,af w L g (.ptr b 0) v->v=.pointer (some ⟨u,0,none⟩))(D:af w L g s v):af w E' V (s' u) v:=by cases h with|ptr=>rw[hp v D];exact .ra|pair H=>cases D with|tup hl hc=>refine .tup (by simpa using hl) fun i s v hs hv=>?_;match i,hs with|0,hs=>simp at hs;subst hs;rw[hp v (hc 0 _ v rfl hv)];exact .ra|1,hs=>simp at hs;subst hs;exact(H w L g [] v (hc 1 _ v rfl hv)).le hE V|i+2,hs=>simp at hs
def aob{m}{h}{R K:SV->Hp->Prop}{w}{X}{g}(O:Inv w X g h) (hc:bO P m w fun v w'=>∃s I V,R s I/\af w' (Ex (Ex X g) V) V s v/\Inv w' (Ex X g) V I/\Step 0 w [] w' V) (o:∀s I,R s I->∃s' b3,S8 s I s' b3/\ef b3/\∀u,K (s' u) (h++[.asn (cL b3 [u])])):bO P m w fun v w'=>∃s h' V,K s h'/\af w' (Ex X V) V s v/\Inv w' X V h'/\Step g.length w g w' V:=by
 have G9:∀k,Ex X g k->k<w.heap.size:=fun k o=>o.elim (O.df k) fun⟨i,e,H,I⟩=>O.lt i e k H I;refine hc.mono fun v w'⟨s,I,V,hR,bb,aE,hS⟩=>?_;have⟨s',b3,⟨A,b,t,cs,aF,rQ,hW,hv,hblk⟩,zV,hK⟩:=o s I hR;have⟨c8,be,b_,xn,Mx,Hq⟩:=A_ (m:=0) A aF hblk aE;have iT:∀k,bM c8 k->w.heap.size<=k:=fun k o=>by by_cases ai:k<w.heap.size;exact absurd (hS.gG k (b_.gG k o (by obtain⟨i,e,H,I⟩:=o;exact be.lt i e k H I)) ai) (tE k);omega
 have At:0<c8.length:=by rw[be.len];exact(ao.1 hW).1
 have uM:=aD At;have dn:=be.ok 0 _ _ hW uM;generalize c8[0]=e0 at uM dn;cases e0<;>simp only[aB]at dn;rename_i u;have tf:∀k,k<w.heap.size->w'.heap[k]?=w.heap[k]?:=fun k o=>hS.frame k o (tE k);have lr:cL b3 [u] w' (bM c8):=⟨c8,Ig be zV (fun _ _=>rfl) (aC _) (fun _ h=>h.elim) (fun _ h=>h.elim),fun i g' U=>by grind,fun _=>Iff.rfl⟩;have uN:Step g.length w g w' (g++[.own (bM c8)]):=by refine⟨hS.os,hS.tape,hS.output,hS.size,fun k o _=>tf k o,fun k⟨i,e,H,o⟩ai=>?_,fun i e Q H hl=>?_⟩;rcases j6 H with H|⟨_,rfl⟩;exact⟨i,e,H,o⟩;have:=iT k o;omega;grind
 refine⟨s' u,h++[.asn (cL b3 [u])],g++[.own (bM c8)],hK u,?_,?_,uN⟩;refine hv.cK (L:=Ex (Ex X g) V) (fun k o=>?_) (fun v D=>?_) bb;rcases o with hx|⟨i,e,H,o⟩;exact .inl (.inl hx);rcases j6 H with H|⟨_,rfl⟩;exact .inl (.inr ⟨i,e,H,o⟩);exact Mx k (.inr o);cases D with
 |ptr M=>rcases xn.ref 0 b _ rQ M sM with E|E;simp_all;simp_all
 |eD M=>rcases xn.ref 0 b _ rQ M sM with E|E<;>rw[uM]at E<;>simp at E
 have hl:=O.len;refine⟨by simp[hl],fun i bw e M H=>?_,fun i e k H o=>?_,fun i j e e' k Q hj o bV=>?_,fun k hx⟨i,e,H,o⟩=>?_,fun k hx=>fj (O.df k hx) hS.size⟩;rcases j6 H with H|⟨e1,rfl⟩;have cj:=(ao.1 H).1;rw[eU (by omega)]at M;exact(O.ok i bw e M H).step uN (aC _) fun k o=>tf k (O.lt i e k H o)
 rw[e1,hl]at M;simp at M;subst M;exact⟨lr,fun w2 e2 s2=>om zV [u] w' w2 _ lr e2 s2⟩;rcases j6 H with H|⟨_,rfl⟩;exact fj (O.lt i e k H o) hS.size;have⟨j,e',aK,bV⟩:=o;exact be.lt j e' k aK bV;rcases j6 Q with Q|⟨e1,rfl⟩<;>rcases j6 hj with hj|⟨e2,rfl⟩;exact O.inj i j e e' k Q hj o bV;have:=O.lt i e k Q o;have:=iT k bV;omega;have:=O.lt j e' k hj bV;have:=iT k o;omega;omega;rcases j6 H with H|⟨_,rfl⟩;exact O.cU k hx ⟨i,e,H,o⟩;have:=O.df k hx;have:=iT k o;omega
structure mM(P:Program)(f:FuncId)(args:List SV)(s:Nat->SV)(ad:Hp):Prop where
 ok:∀(h:Hp),aq P f args h fun s' h'=>∃u,s'=s u/\h'=h++[.asn (cL ad [u])]
 vn:ef ad
def mM.of{f}{args}{s}{ad}(ha:xb args True)(hn:ef ad)(hc:aq P f args [] fun s0 I=>S8 s0 I s ad):mM P f args s ad:=by refine⟨fun h=>⟨fun w X g vs O D=>?_⟩,hn⟩;have Ho:=(U8 ha).2;have hex:∀u,Ex (Ex X g) [] u↔Ex X g u:=fun u=>L4;have kh:Inv w (Ex X g) [] []:=⟨rfl,sM,sM,sM,fun u _=>tE u,fun u U=>by rcases U with U|⟨i,e,H,U⟩;exact O.df u U;exact O.lt i e u H U⟩;have hW:b5 w (Ex (Ex X g) []) [] args vs:=⟨D.1,fun i s v hs hv=>(Ho s (bN hs) w _ g [] v (D.2 i s v hs hv)).mono [] (fun _ _ _=>rfl) (aC _) (fun u _ hn h=>hn ((hex u).1 h)) sM⟩;exact aob O (hc.ok w (Ex X g) [] vs kh hW) fun s0 I hN=>⟨s,ad,hN,hn,fun u=>⟨u,rfl,rfl⟩⟩
def mM.join{f}{args}{s}{ad}(hs:mM P f args s ad){h:Hp}{p}{ab}{C:Nat->fy}{K}(hp:h[p]?=some (.asn ab))(Mz:∀u,fW ab (cL ad [u]) (C u))(xi:∀u,gv (C u)) (o:∀u,gg h p (.asn (C u)) fun h'=>K (s u) h'):aq P f args h K:=
 ⟨fun w X g vs O D=>((hs.ok h).ok w X g vs O D).mono fun v w'⟨s',h',V,⟨u,e1,e2⟩,bb,aE,hS⟩=>by
  subst e1;subst e2
  have hl:V.length=h.length+1:=by have:=aE.len;simpa using this
  obtain⟨b0,x,rfl⟩:∃b0 x,V=b0++[x]:=⟨V.dropLast,V.getLast (by rintro rfl;simp at hl),(List.dropLast_concat_getLast _).symm⟩
  have At:b0.length=h.length:=by simpa using hl
  have hx:=aE.ok h.length (.asn (cL ad [u])) x (by simp) (by rw[<-At];simp)
  cases x<;>simp only[aB]at hx
  have⟨c8,be,b_,_,_⟩:=Ih aE hp (Mz u) (xi u)
  exact⟨_,_,c8,(jb (o u)).2,bb.step (b_ _) (aC _),be,hS.trans (b_ _)⟩⟩
def nO{α:Type}(aV:α->Prop)(ab:α->fy):fy:=fun w ci=>∃x,aV x/\ab x w ci
def L3{α:Type}{aV}{ab:α->fy}(h:∀x,aV x->gv (ab x)):gv (nO aV ab):=fun w w' ci⟨x,hq,ha⟩U hs=>⟨x,hq,h x hq w w' ci ha U hs⟩
def aq.aoI{α:Type}{aV}{ab:α->fy}{f}{args}{h}{p}{K}(hp:h[p]?=some (.asn (nO aV ab)))(bQ:∀x,aV x->gv (ab x)) (o:∀x,aV x->aq P f args (h.set p (.asn (ab x))) K):aq P f args h K:=
 ⟨fun w X g vs O D=>by
  have hl:p<g.length:=by rw[O.len];exact(ao.1 hp).1
  have H:=aD hl
  have I:=O.ok p _ _ hp H
  generalize g[p]=e at H I
  cases e<;>simp only[aB]at I
  rename_i ci
  have⟨⟨x,hq,ha⟩,_⟩:=I
  refine(o x hq).ok w X g vs (O.conv hp fun e' aK _=>?_) D
  rw[H]at aK;simp at aK;subst aK
  exact⟨ha,fun w' U hs=>bQ x hq w w' ci ha U hs⟩⟩
structure k9(P:Program)(f:FuncId)(args:List SV)(ab:fy)(R:SV->fy->Prop):Prop where
 ok:∀(h:Hp)(p:Nat),h[p]?=some (.asn ab)->aq P f args h fun s h'=>∃A',R s A'/\h'=h.set p (.asn A')
def k9.call{f args ab R}(hs:k9 P f args ab R){h p K}(hp:h[p]?=some (.asn ab))(o:∀s A',R s A'->gg h p (.asn A') fun h'=>K s h'):aq P f args h K:=
 ⟨fun w X g vs O D=>((hs.ok h p hp).ok w X g vs O D).mono fun v w'⟨s',h',V,⟨A',h0,e2⟩,E⟩=>by
  subst e2
  exact⟨_,_,V,(jb (o s' A' h0)).2,E⟩⟩
def k9.of{α:Type}{ad:α->Hp}(hn:∀x,ef (ad x)){u}{f}{args bH}{aV}{R:SV->(α->Prop)->Prop}(ha:wL [u] args bH True) (hc:∀x,aV x->aq P f args (ad x) fun s0 I=>∃s Q' x',R s Q'/\Q' x'/\bj 1 s0 I s (ad x')):k9 P f bH (nO aV fun x=>cL (ad x) [u]) fun s A'=>∃Q',R s Q'/\A'=nO Q' fun x=>cL (ad x) [u]:=by
 refine⟨fun h p hp=>.aoI hp (fun x _=>om (hn x) [u]) fun x hx=>?_⟩;have hg:=(ao.1 hp).1;have nY:(h.set p (.asn (cL (ad x) [u])))[p]?=some (.asn (cL (ad x) [u])):=by rw[bu,au rfl,au hg]
 have co:aq P f bH (h.set p (.asn (cL (ad x) [u]))) fun s h'=>∃Q' x',R s Q'/\Q' x'/\h'=h.set p (.asn (cL (ad x') [u])):=
  .sub nY (.pack (ad x) [u]) (fun _ h=>om h [u]) (hn x) ha (hc x hx) fun s0 I⟨s,Q',x',E,F,h3⟩=>⟨s,ad x',h3,hn x',Q',x',E,F,by rw[qL]⟩
 refine⟨fun w X g vs O D=>(co.ok w X g vs O D).mono fun v w'⟨s,h',V,⟨Q',x',E,F,e⟩,bb,aE,hS⟩=>?_⟩;subst e;have NH:(h.set p (.asn (cL (ad x') [u])))[p]?=some (.asn (cL (ad x') [u])):=by rw[bu,au rfl,au hg]
 refine⟨s,_,V,⟨_,⟨Q',E,rfl⟩,rfl⟩,bb,?_,hS⟩;have:=aE.conv (y:=.asn (nO Q' fun x=>cL (ad x) [u])) NH fun e H I=>by cases e<;>simp only[aB]at I⊢;exact⟨⟨x',F,I.1⟩,fun w2 U hs=>⟨x',F,om (hn x') [u] w' w2 _ I.1 U hs⟩⟩
 simp_all
def kA(b u:Nat)(s:SV):SV:=match s with|.ptr b' aa=>(match Nat.beq b' b with|true=>.ra u aa|false=>.ptr b' aa)|s=>s
def QS{w L E' g V b u s v}(M:g[b]?=some (.fix u))(hE:∀k,E' k->L k)(ak:∀(i:Nat)(e:ba),g[i]?=some e->¬e.loose->V[i]?=some e\/V[i]?=some .dead)(h:af w L g s v):af w E' V (kA b u s) v:=by
 have go:∀s,af w L g s v->af w E' V s v:=fun s h=>h.mono V (fun _ _ _=>rfl) (aC _) (fun k _ hn o=>hn (hE k o)) ak;cases s with
 |ptr b' aa=>
  unfold kA;simp only;split;rename_i hq;have zL:=gS hq;subst zL;cases h with|ptr E=>rw[M]at E;simp at E;subst E;exact .ra|eD E=>simp_all
  exact go _ h
 |_=>exact go _ h
structure uw(b u:Nat)(bw bl':bK):Prop where
 ok:∀(w:World)(L E':Nat->Prop)(g V:Sg)(e:ba),g[b]?=some (.fix u)->(∀k,E' k->L k)->(∀(i:Nat)(e:ba),g[i]?=some e->¬e.loose->V[i]?=some e\/V[i]?=some .dead)->aB w L g bw e->aB w E' V bl' e
def uw.fix{b u}{t:TypeId}{cs}:uw b u (.fix t cs) (.fix t (cs.map (kA b u))):=⟨fun w L E' g V e M hE ak h=>by cases e<;>simp only[aB]at h⊢;have⟨vs,E,F,h3⟩:=h;refine⟨vs,E,by simpa using F,fun i s v hs hv=>?_⟩;rw[bz]at hs;cases hc:cs[i]? with|none=>simp_all|some c=>rw[hc]at hs;simp at hs;subst hs;exact⟨QS M hE ak (h3 i c v hc hv).1,(h3 i c v hc hv).2⟩⟩
def qP(es:List (List SV)):Prop:=∀e∈es,∀s∈e,eK s
def adR{ab:Prop}(k:ab:=by
 subst Q;simp at H;subst H;have⟨k1,k2⟩:=h7 es.length [.ptr b 0] sM;refine⟨rfl,fun j s hs=>?_⟩;cases j with
 |zero=>simp at hs;subst hs;have⟨v,a,b',c⟩:=k2 0 _ rfl;refine⟨v,a,?_,c⟩;cases b' with|ptr q=>rw[M]at q;simp at q;subst q;exact .ra|eD q=>rw[M]at q;simp at q
 |succ j=>simp at hs):ab:=k
def uw.row{b u}{t:TypeId}{es}(hn:qP es):uw b u (.prow t 1 (es++[[.ptr b 0]])) (.row t 1 (es++[[.ra u 0]])):=⟨fun w L E' g V e M hE ak h=>by
 cases e<;>simp only[aB]at h⊢;case rownil=>simp at h
 have⟨E,F,h3,h4,vs,h5,h6,h7⟩:=h;refine⟨E,by simpa using F,h3,h4,vs,h5,h6,fun i e H=>?_⟩;rw[gr]at H;split at H;have⟨k1,k2⟩:=h7 i e (by grind);refine⟨k1,fun j s hs=>?_⟩;have⟨v,a,b',c⟩:=k2 j s hs;exact⟨v,a,((hn e (bN H) s (bN hs)) w L g [] v b').le hE [],c⟩;by_cases Q:i=es.length;exact adR;grind⟩
def uw.tail{b u}{t:TypeId}{es}(hn:qP es):uw b u (.tail t 1 (es++[[.ptr b 0]])) (.tail t 1 (es++[[.ra u 0]])):=⟨fun w L E' g V e M hE ak h=>by cases e<;>simp only[aB]at h⊢;have⟨E,F,h3,h4,vs,h5,h6,h7,h8⟩:=h;have hl:(es++[[SV.ra u 0]]).length=(es++[[SV.ptr b 0]]).length:=sM;refine⟨E,by rw[hl];exact F,h3,h4,vs,h5,h6,fun i e H=>?_,by rw[hl];exact h8⟩;rw[hl];rw[gr]at H;split at H;have⟨k1,k2⟩:=h7 i e (by grind);refine⟨k1,fun j s hs=>?_⟩;have⟨v,a,b',c⟩:=k2 j s hs;exact⟨v,a,((hn e (bN H) s (bN hs)) w L g [] v b').le hE V,c⟩;by_cases Q:i=es.length;exact adR;grind⟩
def FM(s:SV):Prop:=sF s/\eK s
def GW:SV->Bool
 |.int _ _=>true|.bool _=>true|.tt=>true|.ff=>true|.str _=>true|.nilp=>true|.nils=>true|.nilm=>true|.nili=>true|.ra _ _=>true|.rl _ _ _=>true|.any=>true|.undef=>true
 |_=>false
def jL{s}(h:GW s=true):FM s:=by cases s<;>first|(simp[GW]at h;done)|exact⟨fun w w' L E' g v D=>by cases D<;>constructor,fun w L g V v D=>by cases D<;>constructor⟩
def w_{cs:List SV}(h:cs.all GW=true):∀s∈cs,FM s:=fun s hs=>jL (ir.1 h s hs)
structure mO(b u:Nat)(h h':Hp):Prop where
 len:h'.length=h.length
 dead:h'[b]?=some .dead
 same:∀(i:Nat)(x y:bK),i≠b->h[i]?=some x->h'[i]?=some y->y=x\/uw b u x y
def mO.of{b u h}(M:b<h.length):mO b u h (h.set b .dead):=⟨sM,by simp_all,fun i x y Q hx hy=>by grind⟩
def mO.set{b u q h h' x y}(hp:mO b u h h')(hq:q≠b)(hx:h[q]?=some x)(hxy:uw b u x y):mO b u h (h'.set q y):=by refine⟨by simp[hp.len],by rw[bu,ay hq];exact hp.dead,fun i a c Q ha hc=>?_⟩;rw[bu]at hc;by_cases H:q=i;simp_all;rw[ay H]at hc;exact hp.same i a c Q ha hc
def ZC{w X g h b}{t:TypeId}{cs}(O:Inv w X g h)(M:h[b]?=some (.fix t cs))(hn:∀s∈cs,FM s):∃u,g[b]?=some (.fix u)/\(∀h':Hp,mO b u h h'->Inv w X (g.set b .dead++[.own fun k=>u=k]) (h'++[.asn (cL [.fix t cs] [u])]))/\(∀m,Step m w g w (g.set b .dead++[.own fun k=>u=k]))/\(∀k,Ex X (g.set b .dead++[.own fun k=>u=k]) k->Ex X g k)/\∀(i:Nat)(e:ba),g[i]?=some e->¬e.loose->(g.set b .dead++[.own fun k=>u=k])[i]?=some e\/(g.set b .dead++[.own fun k=>u=k])[i]?=some .dead:=by
 have fm:b<g.length:=by rw[O.len];exact(ao.1 M).1
 have cS:=aD fm;have xL:=O.ok b _ _ M cS;generalize g[b]=pU at cS xL;cases pU<;>simp only[aB]at xL;rename_i u;obtain⟨vs,q1,q2,q3⟩:=xL;have lr:cL [.fix t cs] [u] w (fun k=>u=k):=by
  refine⟨[.fix u],⟨rfl,fun i bw e fm H=>?_,fun i e k H o=>?_,fun i j e e' k Q hj _ _=>?_,fun _ h=>h.elim,fun _ h=>h.elim⟩,fun i g' U=>?_,fun k=>⟨fun h=>⟨0,_,rfl,h⟩,fun⟨i,e,H,o⟩=>?_⟩⟩;match i,fm,H with|0,fm,H=>simp at fm H;subst fm;subst H;refine⟨vs,q1,q2,fun i s v hs hv=>⟨?_,(q3 i s v hs hv).2⟩⟩;obtain⟨n1,tB⟩:=hn s (bN hs);exact tB w _ g _ v (n1 w w _ _ g v (q3 i s v hs hv).1)|i+1,_,H=>simp at H
  match i,H with|0,H=>simp at H;subst H;exact O.lt b _ k cS o|i+1,H=>simp at H
  grind;grind;match i,H with|0,H=>simp at H;subst H;exact o|i+1,H=>simp at H
 refine⟨u,cS,?_⟩;generalize H0:g.set b .dead++[.own fun k=>u=k]=c7;have bc:∀i e,c7[i]?=some e->(i=b/\e=.dead)\/(i≠b/\g[i]?=some e)\/(i=g.length/\e=.own fun k=>u=k):=fun i e H=>by grind
 have hold:∀i e,i≠b->g[i]?=some e->c7[i]?=some e:=fun i e Q H=>by grind
 have br:∀k,bM c7 k->bM g k:=fun k⟨i,e,H,o⟩=>by exact ac7
 have p4:∀(i:Nat)(e:ba),g[i]?=some e->¬e.loose->c7[i]?=some e\/c7[i]?=some .dead:=fun i e H _=>by grind
 have hS:∀m,Step m w g w c7:=fun m=>⟨rfl,rfl,rfl,aC _,fun _ _ _=>rfl,fun k o _=>br k o,fun i e _ H hl=>p4 i e H hl⟩;have hE:∀k,Ex X c7 k->Ex X g k:=fun k o=>o.elim .inl fun h=>.inr (br k h);refine⟨fun h' hh=>⟨by rw[<-H0];simp[hh.len,O.len],fun i bw e kO H=>?_,fun i e k H o=>?_,fun i j e e' k Q hj o bV=>?_,fun k hx I=>O.cU k hx (br k I),O.df⟩,hS,hE,p4⟩;rcases bc i e H with⟨rfl,rfl⟩|⟨nU,H⟩|⟨rfl,rfl⟩;rw[eU (by rw[hh.len,<-O.len];exact fm),hh.dead]at kO;simp at kO;subst kO;trivial;have cj:=(ao.1 H).1;rw[eU (by rw[hh.len,<-O.len];exact cj)]at kO;have hx:h[i]?=some (h[i]'(by rw[<-O.len];exact cj)):=aD _;have o:=O.ok i _ e hx H;rcases hh.same i _ bw nU hx kO with E|E;rw[E];exact o.step (hS _) (aC _) fun _ _=>rfl
 exact E.ok w _ _ g c7 e cS hE p4 o;rw[jf (by rw[hh.len,O.len];exact aC _),hh.len,O.len]at kO;simp at kO;subst kO;refine⟨lr,fun w2 e2 s2=>om (fun bw VR=>?_) [u] w w2 _ lr e2 s2⟩;simp at VR;subst VR;exact fun s hs=>(hn s hs).1;exact acW;exact RX
def FX(R:SV->Hp->Prop)(s:SV)(I:Hp):Prop:=∃(b p:Nat)(t:TypeId)(cs:List SV)(ab:fy)(C:Nat->fy)(h':Nat->Hp),I[b]?=some (.fix t cs)/\(∀s∈cs,FM s)/\(∀u,(h' u)[p]?=some (.asn ab))/\
 (∀u,fW ab (cL [.fix t cs] [u]) (C u))/\(∀u,gv (C u))/\(∀u,mO b u I (h' u))/\∀u,R (kA b u s) ((h' u).set p (.asn (C u)))
def aq.fold{f args h R}(hc:aq P f args h (FX R)):aq P f args h R:=
 ⟨fun w X g vs O D=>(hc.ok w X g vs O D).mono fun v w'⟨s,I,V,⟨b,p,t,cs,ab,C,h',E,F,h3,h4,h5,h6,hR⟩,hv,aE,hS⟩=>by
  have⟨u,U,Q,i8,G8,p4⟩:=ZC aE E F
  have ct:=Q (h' u) (h6 u)
  have⟨c8,be,b_,d3,xB⟩:=Ih ct (h3 u) (h4 u) (h5 u)
  refine⟨_,_,c8,hR u,?_,be,hS.trans ((i8 _).trans (b_ _))⟩
  refine(QS U G8 p4 hv).mono c8 (fun _ _ _=>rfl) (aC _) (fun k o hn hx=>hn ?_) fun i e H hl=>(b_ (i+1)).g_ i e G H hl
  rcases hx with hx|hx
  ·exact .inl hx
  ·exact .inr ((b_ 0).gG k hx o)⟩
def cf.fold{m id ops J h K}(hd:cf P m id ops J h fun F' I=>∃(b p:Nat)(t:TypeId)(cs:List SV)(ab:fy)(C:Nat->fy)(h':Nat->Hp),I[b]?=some (.fix t cs)/\(∀s∈cs,FM s)/\(∀u,(h' u)[p]?=some (.asn ab))/\(∀u,fW ab (cL [.fix t cs] [u]) (C u))/\(∀u,gv (C u))/\(∀u,mO b u I (h' u))/\∀u,K (F'.map (kA b u)) ((h' u).set p (.asn (C u)))):cf P m id ops J h K:=
 ⟨fun w X g tmps O hF=>j8 (hd.ok w X g tmps O hF) fun e a w'⟨C1,x,F',I,V,hx,⟨hn,b,p,t,cs,ab,C,h',E,F,h3,h4,h5,h6,hR⟩,aE,cB,hS⟩=>by
  have⟨u,U,Q,i8,G8,p4⟩:=ZC aE E F
  have ct:=Q (h' u) (h6 u)
  have⟨c8,be,b_,d3,xB⟩:=Ih ct (h3 u) (h4 u) (h5 u)
  refine⟨C1,x,_,_,c8,hx,⟨hn,hR u⟩,be,⟨by simpa using cB.1,fun i s v hs hv=>?_⟩,hS.trans ((i8 _).trans (b_ _))⟩
  rw[bz]at hs
  cases hq:F'[i]? with
  |none=>simp_all
  |some s0=>
   rw[hq]at hs;simp at hs;subst hs
   refine(QS U G8 p4 (cB.2 i s0 v hq hv)).mono c8 (fun _ _ _=>rfl) (aC _) (fun k o hn hx=>hn ?_) fun i e H hl=>(b_ (i+1)).g_ i e G H hl
   rcases hx with hx|hx
   ·exact .inl hx
   ·exact .inr ((b_ 0).gG k hx o)⟩
def as7{w X g I p i b lo m}{T0 t:TypeId}{sz cs es}(O:Inv w X g I)(hp:I[p]?=some (.fix T0 cs))(hc:cs[i]?=some (.ss b lo m))(M:I[b]?=some (.row t sz es)) (cW:es≠[])(hm:lo+m<=es.length):∃V,Inv w X V (((I.set p (.fix T0 (cs.set i (.tl I.length m)))).set b .dead)++[.row t sz (es.take (lo+m))])/\∀q:Nat,Step q w g w V:=by
 have fm:b<g.length:=by rw[O.len];exact(ao.1 M).1
 have cS:=aD fm;have aw:=O.ok b _ _ M cS;generalize g[b]=pU at cS aw;cases pU<;>simp only[aB]at aw;case rownil=>exact absurd aw cW
 rename_i u jB n cap;have⟨E,F,h3,h4,vs,h5,h6,h7⟩:=aw;subst E;subst F;let V:Sg:=(g.set b .dead)++[.row u jB (lo+m) cap];have bc:∀j e,V[j]?=some e->(j=b/\e=.dead)\/(j≠b/\g[j]?=some e)\/(j=g.length/\e=.row u jB (lo+m) cap):=fun j e H=>by grind
 have iT:V[g.length]?=some (.row u jB (lo+m) cap):=by simp only[V];rw[jf sM];simp
 have ca:∀q:Nat,Step q w g w V:=fun q=>by refine⟨rfl,rfl,rfl,aC _,fun _ _ _=>rfl,fun k⟨j,e,H,o⟩_=>?_,fun j e _ H hl=>?_⟩;exact ac8;grind
 have hS:=ca g.length;have hold:∀j bw e,I[j]?=some bw->g[j]?=some e->aB w (Ex X V) V bw e:=fun j bw e hj H=>(O.ok j bw e hj H).step hS (aC _) fun _ _=>rfl;refine⟨V,⟨by simp[V,O.len],fun j bw e hj H=>?_,fun j e k H o=>?_,fun j l e e' k hj hl o bV=>?_,fun k hx⟨j,e,H,o⟩=>?_,O.df⟩,ca⟩;rw[gr]at hj;split at hj;rename_i ai;simp only[fV]at ai;rw[bu]at hj;by_cases mY:b=j;subst mY;rw[au rfl,au (by simpa using ai)]at hj;simp at hj;subst hj;rcases bc _ e H with⟨_,rfl⟩|⟨h,_⟩|⟨h,_⟩;trivial;exact absurd rfl h;omega;rw[ay mY]at hj;have C4:g[j]?=some e:=by rcases bc _ e H with⟨h,_⟩|⟨_,h⟩|⟨h,_⟩;exact absurd h.symm mY;exact h;rw[h,O.len]at ai;omega
 rw[bu]at hj;by_cases uU:p=j;subst uU;rw[au rfl,au ai]at hj;simp at hj;subst hj;have o:=hold p _ e hp C4;cases e<;>simp only[aB]at o⊢;have⟨cP,k1,k2,k3⟩:=o;refine⟨cP,k1,by simpa using k2,fun q s v hs hv=>?_⟩;rw[bu]at hs;by_cases NN:i=q;subst NN;have cj:=(ao.1 hc).1;rw[au rfl,au cj]at hs;simp at hs;subst hs;refine⟨?_,(k3 i _ v hc hv).2⟩;have cF:=O.ok p _ _ hp C4;have⟨Bk,q1,q2,q3⟩:=cF;have:Bk=cP:=by rw[q1]at k1;simpa using k1
 subst this;have D:=(q3 i _ v hc hv).1;rw[<-O.len];cases D with|ss cY rc em=>rw[cS]at cY;simp at cY;obtain⟨rfl,rfl,rfl,rfl⟩:=cY;have e3:cap-lo=cap-(lo+m-m):=G;rw[e3];exact .tl iT G (fun ai=>by simp_all)|eS cY=>simp_all|ej cY=>simp_all
 grind;grind;rename_i ai;simp only[fV]at hj ai;have h0:j-I.length=0:=by by_cases h0:j-I.length=0;exact h0;simp_all
 rw[h0]at hj;simp at hj;subst hj;have dq:j=g.length:=by rw[O.len];omega
 subst dq;rw[iT]at H;simp at H;subst H;refine⟨rfl,sO,G,h4,vs,h5,h6,fun q e' hq=>?_⟩;exact Sb;exact acY;exact By;exact acE
def aev(R:SV->Hp->Prop)(s:SV)(I:Hp):Prop:=R s I\/ ∃p i b lo m T0 t sz cs es,I[p]?=some (.fix T0 cs)/\cs[i]?=some (.ss b lo m)/\I[b]?=some (.row t sz es)/\
 es≠[]/\lo+m<=es.length/\R s (((I.set p (.fix T0 (cs.set i (.tl I.length m)))).set b .dead)++[.row t sz (es.take (lo+m))])
def aq.as8{f args h R}(hc:aq P f args h (aev R)):aq P f args h R:=
 ⟨fun w X g vs O D=>(hc.ok w X g vs O D).mono fun v w'⟨s,I,V,hR,hv,aE,hS⟩=>by
  rcases hR with hR|⟨p,i,b,lo,m,T0,t,sz,cs,es,E,F,h3,h4,h5,hR⟩
  ·grind
  ·have⟨c8,be,b_⟩:=as7 aE E F h3 h4 h5
   exact⟨s,_,c8,hR,hv.step (b_ _) (aC _),be,hS.trans (b_ _)⟩⟩
def cG(k:Nat):List (List SV):=List.replicate k [.any]
def Y0{w X g h b}{t:TypeId}{es}(O:Inv w X g h)(M:h[b]?=some (.tail t 1 es))(hn:qP es):∃k,Inv w X g (h.set b (.row t 1 (cG k++es))):=by
 have hl:b<g.length:=by rw[O.len];exact(ao.1 M).1
 have H:=aD hl;have I:=O.ok b _ _ M H;generalize g[b]=e at H I;cases e<;>simp only[aB]at I;rename_i u jB n cap;have⟨E,F,h3,h4,vs,h5,h6,h7,h8⟩:=I;refine⟨n-es.length,O.conv M fun e aK _=>?_⟩;rw[H]at aK;simp at aK;subst aK;refine⟨E,by simp[cG];omega,h3,h4,vs,h5,h6,fun i e Q=>?_⟩;rw[gr]at Q;split at Q;rename_i ai;simp only[cG,FH]at ai;simp only[cG,List.getElem?_replicate,ai,dw]at Q;simp at Q;subst Q;refine⟨rfl,fun j s hs=>?_⟩;cases j with|zero=>simp at hs;subst hs;have⟨v,a,c⟩:=h8 (i*1+0) G;exact⟨v,a,.any,c⟩|succ j=>simp at hs
 rename_i ai;simp only[cG,FH]at ai Q;have⟨k1,k2⟩:=h7 _ e Q;refine⟨k1,fun j s hs=>?_⟩;have⟨v,a,b',c⟩:=k2 j s hs;rw[show n-es.length+(i-(n-es.length))=i by omega]at a;exact⟨v,a,(hn e (bN Q) s (bN hs)) w _ g [] v b',c⟩
def S_(R:SV->Hp->Prop)(s:SV)(I:Hp):Prop:=∃b t es,I[b]?=some (.tail t 1 es)/\qP es/\∀k,R s (I.set b (.row t 1 (cG k++es)))
def aq.norm{f args h R}(hc:aq P f args h (S_ R)):aq P f args h R:=
 ⟨fun w X g vs O D=>(hc.ok w X g vs O D).mono fun v w'⟨s,I,V,⟨b,t,es,E,F,hR⟩,hv,aE,hS⟩=>by
  have⟨k,o⟩:=Y0 aE E F
  grind⟩
def cf.norm{m id ops J h K}(hd:cf P m id ops J h fun F' I=>∃b t es,I[b]?=some (.tail t 1 es)/\qP es/\∀k,K F' (I.set b (.row t 1 (cG k++es)))):cf P m id ops J h K:=
 ⟨fun w X g tmps O hF=>j8 (hd.ok w X g tmps O hF) fun e a w'⟨C1,x,F',I,V,hx,⟨hn,b,t,es,E,F,hR⟩,aE,cB,hS⟩=>by
  have⟨k,o⟩:=Y0 aE E F
  exact⟨C1,x,F',_,V,hx,⟨hn,hR k⟩,o,cB,hS⟩⟩
def aq.abz{f l b m}(lo){h}{t:TypeId}{z es K}(M:h[b]?=some (.row t z es))(fo:lo+m=es.length)(hc:aq P f (.ss b lo m::l) h K):aq P f (.tl b m::l) h K:=
 ⟨fun w X g vs O D=>hc.ok w X g vs O ⟨D.1,fun i s v hs hv=>by
  cases i with
  |succ i=>exact D.2 (i+1) s v (by simpa using hs) hv
  |zero=>
   simp at hs;subst hs
   have h0:=D.2 0 _ v rfl hv
   have hl:b<g.length:=by rw[O.len];exact(ao.1 M).1
   have H:=aD hl
   have I:=O.ok b _ _ M H
   generalize g[b]=e at H I
   cases h0 with
   |tl E F h3=>
    rw[H]at E;simp at E;subst E
    have⟨_,q2,_⟩:=I
    rw[q2,show es.length-m=lo by omega]at h3⊢
    exact .ss H G h3
   |fM E=>
    rw[H]at E;simp at E;subst E
    subst I
    simp at fo
    rw[fo]
    exact .eS H
   |eY E=>
    rw[H]at E;simp at E;subst E
    exact I.elim⟩⟩
def LS(b:Option bK):Bool:=match b with|some .dead=>true|_=>false
def LU(m:Nat)(A:eV)(h:Hp):Bool:=(List.range m).all fun i=>A[i]?==some (some i)||LS h[i]?
def y3.cm{m n J h sp h'}(A)(aF:mw 0 A=true)(hd:LU m A h'=true)(o:GZ n sp fun F'=>QC A J h F' h'):y3 m J h n sp h':=by have⟨o,hlen,WU⟩:=JI J (Mj o);refine⟨⟨fun w X g tmps O hF=>?_⟩⟩;have⟨V,aE,hS,qj,hE,_⟩:=A_ (m:=0) A aF o O;refine⟨V,aE,⟨hlen▸hF.1,fun i s v hs hv=>?_⟩,⟨hS.os,hS.tape,hS.output,hS.size,hS.frame,hS.gG,fun i e Q H hl=>?_⟩⟩;exact Bu;exact adw
def aL.tF{α:Type}{ad:α->Hp}(hn:∀x,ef (ad x)){u}{f}{args bH}{aV Q'}{s}(ha:wL [u] args bH True) (hc:∀x,aV x->aq P f args (ad x) fun s0 I=>∃x',Q' x'/\bj 1 s0 I s (ad x')):aL P f bH (nO aV fun x=>cL (ad x) [u]) s (nO Q' fun x=>cL (ad x) [u]):=by
 have core:∀w X g h p vs,h[p]?=some (.asn (nO aV fun x=>cL (ad x) [u]))->Inv w X g h->b5 w (Ex X g) g bH vs->
  bO P (callFunc f vs.toArray) w fun v w'=>∃s' h' V,(s'=s/\h'=h.set p (.asn (nO Q' fun x=>cL (ad x) [u])))/\af w' (Ex X V) V s' v/\Inv w' X V h'/\Step g.length w g w' V/\V.length=g.length:=by
  intro w X g h p vs hp O D
  have hl:p<g.length:=by rw[O.len];exact(ao.1 hp).1
  have hg:=(ao.1 hp).1
  have H:=aD hl
  have I:=O.ok p _ _ hp H
  generalize g[p]=e at H I
  cases e<;>simp only[aB]at I
  rename_i ci
  obtain⟨⟨x,hq,hx⟩,_⟩:=I
  have ct:Inv w X g (h.set p (.asn (cL (ad x) [u]))):=O.conv hp fun e' aK _=>by
   rw[H]at aK;simp at aK;subst aK
   exact⟨hx,fun w' U hs=>om (hn x) [u] w w' ci hx U hs⟩
  have NG:(h.set p (.asn (cL (ad x) [u])))[p]?=some (.asn (cL (ad x) [u])):=by rw[bu,au rfl,au hg]
  refine(E0 (K:=fun s' h'=>∃x',Q' x'/\s'=s/\h'=h.set p (.asn (cL (ad x') [u]))) NG (.pack (ad x) [u]) (fun _ h=>om h [u]) (hn x) ct
   (fun X1 dU p3 pa lc=>(hc x hq).ok w X1 dU vs p3 ((Li args ha).2 w _ _ g dU vs pa lc D)) fun s0 I⟨x',E,F⟩=>⟨s,ad x',F,hn x',x',E,rfl,by rw[qL]⟩).mono fun v w'⟨s',h',V,⟨x',E,e1,e2⟩,b,c,d,e⟩=>?_
  subst e1;subst e2
  have NH:(h.set p (.asn (cL (ad x') [u])))[p]?=some (.asn (cL (ad x') [u])):=by rw[bu,au rfl,au hg]
  refine⟨_,_,V,⟨rfl,rfl⟩,b,?_,d,e⟩
  have:=c.conv (y:=.asn (nO Q' fun x=>cL (ad x) [u])) NH fun e H I=>by
   cases e<;>simp only[aB]at I⊢
   exact⟨⟨x',E,I.1⟩,fun w2 U hs=>⟨x',E,om (hn x') [u] w' w2 _ I.1 U hs⟩⟩
  rwa[qL]at this
 refine⟨fun h p hp=>⟨fun w X g vs O D=>(core w X g h p vs hp O D).mono fun v w'⟨s',h',V,a,b,c,d,_⟩=>⟨s',h',V,a,b,c,d⟩⟩,fun w X g h p vs hp O D=>?_⟩;exact(core w X g h p vs hp O D).mono fun v w'⟨s',h',V,⟨e1,e2⟩,b,c,d,e⟩=>by subst e1;subst e2;exact⟨V,b,c,d,e⟩
structure wv(P:Program)(f:FuncId)(args:List SV)(s:Nat->SV)(ab:Nat->fy):Prop where
 ok:∀(h:Hp),aq P f args h fun s' h'=>∃u,s'=s u/\h'=h++[.asn (ab u)]
def mM.gR{f args s ad}(hs:mM P f args s ad){ab}(hw:∀u w ci,cL ad [u] w ci->ab u w ci)(hA:∀u,gv (ab u)):wv P f args s ab:=
 ⟨fun h=>⟨fun w X g vs O D=>((hs.ok h).ok w X g vs O D).mono fun v w'⟨s',h',V,⟨u,e1,e2⟩,bb,aE,hS⟩=>by
  subst e1;subst e2
  have hp:(h++[bK.asn (cL ad [u])])[h.length]?=some (.asn (cL ad [u])):=sM
  refine⟨_,_,V,⟨u,rfl,rfl⟩,bb,?_,hS⟩
  have:=aE.conv (y:=.asn (ab u)) hp fun e H I=>by
   cases e<;>simp only[aB]at I⊢
   grind
  simp_all⟩⟩
def wv.call{f args s ab}(hs:wv P f args s ab){h K}(o:∀u,fA h [.asn (ab u)] fun h'=>K (s u) h'):aq P f args h K:=
 ⟨fun w X g vs O D=>((hs.ok h).ok w X g vs O D).mono fun v w'⟨s',h',V,⟨u,e1,e2⟩,E⟩=>by
  subst e1;subst e2
  exact⟨_,_,V,iL (o u),E⟩⟩
def ZE{ad}{u}{gs}{w}{ci}(hn:ef ad)(h:cL ad [u] w ci):cL (ad++[.asn (aI gs [])]) [u] w ci:=by
 have⟨g,O,D,hO⟩:=h;have br:∀k,bM (g++[.own fun _=>False]) k↔bM g k:=fun k=>by constructor;rintro⟨i,e,H,o⟩;rcases j6 H with H|⟨_,rfl⟩;exact⟨i,e,H,o⟩;cases o;rintro⟨i,e,H,o⟩;exact⟨i,e,by grind,o⟩
 have hS:∀m,Step m w g w (g++[.own fun _=>False]):=fun m=>⟨rfl,rfl,rfl,aC _,fun _ _ _=>rfl,fun k o _=>(br k).1 o,fun i e _ H _=>.inl (by grind)⟩;have zX:aI gs [] w (fun _=>False):=⟨fun _ _=>False,fun i hc Q=>by simp at Q,fun i j k Q=>by simp at Q,fun k=>⟨fun h=>h.elim,fun⟨i,Q,_⟩=>by simp at Q⟩⟩;refine⟨g++[.own fun _=>False],⟨by simp[O.len],fun i b e M H=>?_,fun i e k H o=>?_,fun i j e e' k Q hj o bV=>?_,fun _ h=>h.elim,fun _ h=>h.elim⟩,fun i g' U=>?_,fun k=>by rw[hO k,br k]⟩;rcases j6 H with H|⟨e1,rfl⟩;have cj:=(ao.1 H).1;rw[eU (by rw[<-O.len];exact cj)]at M;exact(O.ok i b e M H).step (hS _) (aC _) fun _ _=>rfl
 rw[e1,O.len]at M;simp at M;subst M;exact⟨zX,fun w2 e2 s2=>pq sM w w2 _ zX e2 s2⟩;rcases j6 H with H|⟨_,rfl⟩;exact O.lt i e k H o;cases o;rcases j6 Q with Q|⟨_,rfl⟩<;>rcases j6 hj with hj|⟨_,rfl⟩;exact O.inj i j e e' k Q hj o bV;cases bV;cases o;cases o;grind
def YY(b m):sF (.tl b m):=fun w w' L E' g v D=>by cases D with|tl a b c=>exact .tl a b c|eY a=>exact .eY a|fM a=>exact .fM a
def aq.mono{f args h R R'}(hc:aq P f args h R)(hm:∀s h',R s h'->R' s h'):aq P f args h R':=
 ⟨fun w X g vs O D=>(hc.ok w X g vs O D).mono fun v w'⟨s,h',V,a,b⟩=>⟨s,h',V,hm s h' a,b⟩⟩
def bj.any{n s s' I b3}(h:bj n s I s' b3):bj n s I .any b3:=by have⟨A,s1,E,F,_,h4,h5⟩:=h.ok;exact⟨⟨A,s1,E,F,fun _ _ _ _=>.any,h4,h5⟩⟩
inductive S9(b:Nat):SV->SV->Prop where
 |ptr:S9 b (.ptr 0 0) (.ptr b 0)
 |pair {e:SV} (H:eK e):S9 b (.tup [.ptr 0 0,e]) (.tup [.ptr b 0,e])
end
section
variable{P:Program} {T:aG}
abbrev Td:=Nat×Nat×List (List SV)
def qO(es:List (List SV)):Prop:=∀e∈es,∀s∈e,FM s
def im(t:TypeId)(z:Nat)(rs:List Td):fy:=fun w ci=>(rs.map (·.1)).Nodup/\∀r∈rs,ci r.1/\qO r.2.2/\aB w (fun _=>False) [] (.row t z r.2.2) (.row r.1 z r.2.2.length r.2.1)
def qO.vn{t:TypeId}{z es}(h:qO es):k_ (.row t z es):=fun e H s hs=>(h e H s hs).1
def Jt(t:TypeId)(z)(rs):gv (im t z rs):=fun w w' ci⟨E,F⟩U hs=>
 ⟨E,fun r D=>by
  have⟨a,b,c⟩:=F r D
  exact⟨a,b,k_.fe b.vn c (fun u bP=>by have:r.1=u:=bP;simp_all) hs⟩⟩
def fW.rows{t:TypeId}{z rs r}:fW (im t z rs) (im t z [r]) (im t z (rs++[r])):=fun w O1 O2⟨a1,a2⟩⟨b1,c0⟩hd=>by have D:=c0 r sM;refine⟨?_,fun x hx=>?_⟩;grind;grind
def asb{w X g h b}{t:TypeId}{z es}(O:Inv w X g h)(M:h[b]?=some (.row t z es))(hn:qO es)(cW:es≠[]):∃u cap,g[b]?=some (.row u z es.length cap)/\es.length<=cap/\Inv w X (g.set b .dead++[.own fun k=>u=k]) (h.set b .dead++[.asn (im t z [(u,cap,es)])])/\(∀m,Step m w g w (g.set b .dead++[.own fun k=>u=k]))/\(∀k,Ex X (g.set b .dead++[.own fun k=>u=k]) k->Ex X g k)/\∀(i:Nat)(e:ba),g[i]?=some e->¬e.loose->(g.set b .dead++[.own fun k=>u=k])[i]?=some e\/(g.set b .dead++[.own fun k=>u=k])[i]?=some .dead:=by
 have fm:b<g.length:=by rw[O.len];exact(ao.1 M).1
 have VQ:b<h.length:=by rw[<-O.len];exact fm
 have cS:=aD fm;have xL:=O.ok b _ _ M cS;generalize g[b]=pU at cS xL;have key:∃u cap,pU=.row u z es.length cap/\es.length<=cap:=by cases pU<;>simp only[aB]at xL;grind;simp_all
 obtain⟨u,cap,rfl,cR⟩:=key;have cN:aB w (fun _=>False) [] (.row t z es) (.row u z es.length cap):=by have h0:aB w (fun _=>False) g (.row t z es) (.row u z es.length cap):=k_.fe hn.vn xL (fun _ _=>rfl) (aC _);exact h0
 have lr:im t z [(u,cap,es)] w (fun k=>u=k):=⟨sM,fun r D=>by simp_all⟩;refine⟨u,cap,cS,cR,?_⟩;generalize H0:g.set b .dead++[.own fun k=>u=k]=c7;have bc:∀i e,c7[i]?=some e->(i=b/\e=.dead)\/(i≠b/\g[i]?=some e)\/(i=g.length/\e=.own fun k=>u=k):=fun i e H=>by grind
 have hold:∀i e,i≠b->g[i]?=some e->c7[i]?=some e:=fun i e Q H=>by grind
 have avJ:c7[b]?=some .dead:=by rw[<-H0,eU (by simpa using fm),bu,au rfl,au fm]
 have br:∀k,bM c7 k->bM g k:=fun k⟨i,e,H,o⟩=>by exact ac7
 have p4:∀(i:Nat)(e:ba),g[i]?=some e->¬e.loose->c7[i]?=some e\/c7[i]?=some .dead:=fun i e H _=>by grind
 have hS:∀m,Step m w g w c7:=fun m=>⟨rfl,rfl,rfl,aC _,fun _ _ _=>rfl,fun k o _=>br k o,fun i e _ H hl=>p4 i e H hl⟩;have hE:∀k,Ex X c7 k->Ex X g k:=fun k o=>o.elim .inl fun h=>.inr (br k h);refine⟨⟨by rw[<-H0];simp[O.len],fun i bw e kO H=>?_,fun i e k H o=>?_,fun i j e e' k Q hj o bV=>?_,fun k hx I=>O.cU k hx (br k I),O.df⟩,hS,hE,p4⟩;rcases bc i e H with⟨rfl,rfl⟩|⟨nU,H⟩|⟨rfl,rfl⟩;rw[eU (by simpa using VQ),bu,au rfl,au VQ]at kO;simp at kO;subst kO;trivial;have cj:=(ao.1 H).1;rw[eU (by rw[fV,<-O.len];exact cj),bu,ay fun h=>nU h.symm]at kO;exact(O.ok i _ e kO H).step (hS _) (aC _) fun _ _=>rfl
 rw[jf (by rw[fV,O.len];omega),fV,O.len]at kO;simp at kO;subst kO;exact⟨lr,fun w2 e2 s2=>Jt t z _ w w2 _ lr e2 s2⟩;exact acW;exact RX
def aeg(R:SV->Hp->Prop)(s:SV)(I:Hp):Prop:=∃b p m t z es rs,s=.ss b 0 m/\b≠p/\I[b]?=some (.row t z es)/\qO es/\1<=m/\m<=es.length/\
 I[p]?=some (.asn (im t z rs))/\∀u cap,m<=cap->R (.rl u m cap) ((I.set b .dead).set p (.asn (im t z (rs++[(u,cap,es)]))))
def aaI{m F p k u cap}{t:TypeId}{z rs es aS s s1}(hp:F[p]?=some (.asn (im t z rs)))(o:rs[k]?=some (u,cap,es))(tc:qO es->qO aS) (kV:∀w X g E' v,Inv w X g [.row t z aS]->(∀u,E' u->Ex X g u)->af w (Ex X g) g s v->af w E' [] s1 v)(dp:eK s1){w X g}(O:Inv w X g F) (hc:∀X1,Inv w X1 [.row u z es.length cap] [.row t z es]->(∀j,X1 j->Ex X g j)->bO P m w fun v w'=>∃V,af w' (Ex X1 V) V s v/\Inv w' X1 V [.row t z aS]/\Step 1 w [.row u z es.length cap] w' V):bO P m w fun v w'=>∃s' h' V,(s'=s1/\h'=F.set p (.asn (im t z (rs.set k (u,cap,aS)))))/\af w' (Ex X V) V s' v/\Inv w' X V h'/\Step g.length w g w' V/\V.length=g.length:=by
 have xM:=(ao.1 hp).1;have hg:p<g.length:=by rw[O.len];exact xM
 have gm:=aD hg;have ii:=O.ok p _ _ hp gm;generalize g[p]=ep at gm ii;cases ep<;>simp only[aB]at ii;rename_i ci;obtain⟨⟨Dn,dl⟩,_⟩:=ii;obtain⟨G_,uQ,cN⟩:=dl _ (bN o);simp only at G_ uQ cN;have sX:∀j,ci j->bM g j:=fun j hj=>⟨p,_,gm,hj⟩;have avQ:u<w.heap.size:=O.lt p _ u gm G_;have G9:∀j,Ex X g j->j<w.heap.size:=fun j hj=>hj.elim (O.df j) fun⟨i,e,H,I⟩=>O.lt i e j H I;let X1:Nat->Prop:=fun j=>Ex X g j/\j≠u;have PP:∀{c n j},bM [.row u z n c] j↔j=u:=fun{c n j}=>⟨fun⟨i,e,H,hj⟩=>by match i,H with|0,H=>simp at H;subst H;exact hj.symm|i+1,H=>simp at H,fun h=>⟨0,_,rfl,h.symm⟩⟩;have ct:Inv w X1 [.row u z es.length cap] [.row t z es]:=by
  refine⟨rfl,fun i b e M H=>?_,fun i e j H hj=>?_,fun i j e e' q Q hj _ _=>?_,fun j hx I=>hx.2 (PP.1 I),fun j hx=>G9 j hx.1⟩;match i,M,H with|0,M,H=>simp at M H;subst M;subst H;have h0:aB w (Ex X1 [.row u z es.length cap]) [] (.row t z es) (.row u z es.length cap):=k_.fe uQ.vn cN (fun _ _=>rfl) (aC _);exact h0|i+1,_,H=>simp at H
  match i,H with|0,H=>simp at H;subst H;have:u=j:=hj;omega|i+1,H=>simp at H
  grind
 refine(hc X1 ct fun j hj=>hj.1).mono fun v w'⟨V,bb,aE,hS⟩=>?_;have alJ:V=[.row u z es.length cap]:=by have hl:=aE.len;match V,hl with|[e],_=>rcases hS.g_ 0 _ G rfl sM with E|E;simp_all;simp at E;subst E;have:=aE.ok 0 _ _ rfl rfl;simp[aB]at this
 subst alJ;have NQ:=aE.ok 0 _ _ rfl rfl;have hlen:es.length=aS.length:=by simp only[aB]at NQ;exact NQ.2.1
 have awD:aB w' (fun _=>False) [] (.row t z aS) (.row u z aS.length cap):=by have h0:aB w' (fun _=>False) [.row u z es.length cap] (.row t z aS) (.row u z es.length cap):=k_.fe (tc uQ).vn NQ (fun _ _=>rfl) (aC _);rw[<-hlen];exact h0
 have Nj:∀j,j<w.heap.size->j≠u->w'.heap[j]?=w.heap[j]?:=fun j hj U=>hS.frame j hj fun I=>U (PP.1 I);have uN:Step g.length w g w' g:=⟨hS.os,hS.tape,hS.output,hS.size,fun j hj I=>Nj j hj fun e=>I (e▸sX u G_),fun j hj _=>hj,fun i e _ H _=>.inl H⟩;have hA:im t z (rs.set k (u,cap,aS)) w' ci:=by
  have km:=(ao.1 o).1;have l5:(rs.set k (u,cap,aS)).map (·.1)=rs.map (·.1):=by
   rw[iH];have:(rs.map (·.1))[k]?=some u:=by rw[bz,o];rfl
   have⟨ai,U⟩:=ao.1 this;show(rs.map (·.1)).set k u=_;exact acR
  refine⟨by simp_all,fun r D=>?_⟩;have⟨j,hj⟩:=List.getElem?_of_mem D;rw[bu]at hj;by_cases Wi:k=j;grind;rw[ay Wi]at hj;have⟨a,b,c⟩:=dl r (bN hj);have cW:r.1≠u:=fun e=>Wi ((ue (by simpa using km) Dn).1 (by simp_all));exact⟨a,b,k_.fe b.vn c (fun q hq=>by have:r.1=q:=hq;rw[<-this];exact Nj _ (O.lt p _ _ gm a) cW) hS.size⟩
 refine⟨s1,_,g,⟨rfl,rfl⟩,?_,⟨by simp[O.len],fun i b e M H=>?_,fun i e j H hj=>fj (O.lt i e j H hj) hS.size,O.inj,O.cU,fun j hx=>fj (O.df j hx) hS.size⟩,uN,rfl⟩;refine dp w' _ [] g v (kV w' X1 _ (Ex X g) v aE (fun j hj=>?_) bb);by_cases Wh:j=u;exact .inr (PP.2 Wh);exact .inl ⟨hj,Wh⟩;rw[bu]at M;by_cases kQ:p=i;subst kQ;rw[au rfl,au xM]at M;rw[gm]at H;simp at M H;subst M;subst H;exact⟨hA,fun w2 e2 s2=>Jt t z _ w' w2 _ hA e2 s2⟩;rw[ay kQ]at M;exact(O.ok i b e M H).step uN (aC _) fun q hq=>Nj q (O.lt i e q H hq) fun e'=>kQ (O.inj p i _ e q gm H (e'▸G_) hq)
def cc.rows(hT:bl P T){t0:TypeId}{t:TypeId}{z}{rs}{k u cap i f aa p:Nat}{es}{h:Hp}{K}(hp:h[p]?=some (.asn (im t z rs)))(o:rs[k]?=some (u,cap,es))(I:aa=i*z+f) (iU:de T false [.ep 0 i f] [.row t z es] 0 (.load t0 (.tmp 0)) fun s ws _=>ws=[]/\mh [] [] s fun s1=>K s1 [] [p]):cc P t0 u aa h K:=by
 obtain⟨s,ws,aJ,⟨e,hq⟩,aw,_⟩:=yk hT (fun h=>by simp[jX,qX]at h) iU;subst e;obtain⟨s1,hq,cY⟩:=Zx hq;refine⟨⟨s1,[],[p],hq,sM,fun w X g F A x d ty pos after guard hv O ap=>?_⟩⟩;have nY:=(ap p sM).trans hp;have rM:rs.set k (u,cap,es)=rs:=by obtain⟨ai,U⟩:=ao.1 o;exact acR
 obtain⟨_,e1,kV,dp⟩:=PR (cY [some 0] [.row t z es] _ rfl);subst e1;refine Ej (p:=p) (bw:=.asn (im t z rs)) (yy nY).symm ?_;have:=aaI (P:=P) (m:=execOp A ⟨d,.load t0 x,ty,pos,after,guard⟩) (s:=s) nY o (fun h=>h) (fun w X g E' v O hE D=>kV w X g E' v O hE (fun i e u Q H bf U=>?_) D) dp O fun X1 ct MI=>?_;grind;match i,Q,H with|0,Q,_=>simp at Q|i+1,_,H=>have:=O.len;grind
 have:=aw w X1 _ [.row t z es] (fun _=>.pointer (some ⟨u,aa,none⟩)) d ty pos after guard ct (fun y hy=>?_) (fun _ _=>rfl);have e1:execOp A ⟨d,.load t0 x,ty,pos,after,guard⟩=execOp (fun _=>.pointer (some ⟨u,aa,none⟩)) ⟨d,.load t0 (.tmp 0),ty,pos,after,guard⟩:=by simp only[execOp,hv]
 rw[e1];exact bO.mono this fun v w'⟨V,a1,a2,a3,_⟩=>⟨V,a1,a2,a3⟩;simp[Op.operands]at hy;subst hy;intro s0 h0;simp at h0;subst h0;rw[I];exact .ep rfl
def gV.rows(hT:bl P T){t0:TypeId}{t:TypeId}{z rs k u cap i f aa p v es}(aS){h K}(hp:h[p]?=some (.asn (im t z rs)))(o:rs[k]?=some (u,cap,es))(I:aa=i*z+f) (tc:qO es->qO aS)(xw:mU v True)(iU:cH T [.ep 0 i f,v] [.row t z es] 0 (.store t0 (.tmp 0) (.tmp 1)) fun s ws _=>s=.undef/\t_ ws [.row t z es] fun E=>E=[.row t z aS]/\K .undef [(p,.asn (im t z (rs.set k (u,cap,aS))))] [p]):gV P t0 u aa v h K:=by
 obtain⟨_,hf⟩:=xa xw;obtain⟨s,ws,aJ,⟨e,hq⟩,aw,_⟩:=lz hT (fun h=>by simp[qX]at h) iU;subst e;obtain⟨MS,hq⟩:=E6 hq;refine⟨⟨.undef,_,[p],hq,sM,fun w X g F A x y d ty pos after guard hv hy O ap=>?_⟩⟩;have nY:=(ap p sM).trans hp;refine Ej (p:=p) (bw:=.asn (im t z (rs.set k (u,cap,aS)))) (kC _ _ _) (aaI (P:=P) (s:=.undef) nY o tc (fun w X g E' v O hE D=>?_) (fun w L g V v D=>by cases D;exact .undef) O fun X1 ct MI=>?_);cases D;exact .undef;have:=aw w X1 _ [.row t z es] (fun z=>match z with|.tmp 0=>.pointer (some ⟨u,aa,none⟩)|_=>A y) d ty pos after guard ct (fun z hz=>?_) (fun _ _=>rfl);have e1:execOp A ⟨d,.store t0 x y,ty,pos,after,guard⟩=execOp (fun z=>match z with|.tmp 0=>.pointer (some ⟨u,aa,none⟩)|_=>A y) ⟨d,.store t0 (.tmp 0) (.tmp 1),ty,pos,after,guard⟩:=by simp only[execOp,hv]
 rw[e1];exact bO.mono this fun v w'⟨V,a1,a2,a3,_⟩=>⟨V,a1,by grind,a3⟩;simp[Op.operands]at hz;rcases hz with rfl|rfl;intro s0 h0;simp at h0;subst h0;rw[I];exact .ep rfl;intro s0 h0;simp at h0;subst h0;refine(hf w _ g _ _ hy).mono _ (fun _ _ _=>rfl) (aC _) (fun j _ hn h=>hn ?_) (fun i e H _=>.inl H);rcases h with h|⟨i,e,H,hj⟩;exact MI j h;match i,H with
 |0,H=>
  simp at H;subst H;have hj:u=j:=hj;have xM:=(ao.1 nY).1;have hg:p<g.length:=by rw[O.len];exact xM
  have gm:=aD hg;have ii:=O.ok p _ _ nY gm;generalize g[p]=ep at gm ii;cases ep<;>simp only[aB]at ii;exact .inr ⟨p,_,gm,hj▸(ii.1.2 _ (bN o)).1⟩
 |i+1,H=>simp at H
end
section
variable{P:Program}
def aq.aug{f args am R}(hc:aq P f args am R):aq P f args (am++[.fresh]) R:=
 ⟨fun w X g vs O D=>by
  have hlen:=O.len
  simp at hlen
  have dp:g[am.length]?=some .fresh:=lR O (by simp)
  have ak:g=g.take am.length++[ba.fresh]:=by
   conv=>lhs;rw[<-List.take_append_drop am.length g]
   congr 1
   have hl:(g.drop am.length).length=1:=sO
   match hd:g.drop am.length,hl with
   |[e],_=>
    have:(g.drop am.length)[0]?=some .fresh:=by rw[uj];exact dp
    simp_all
  generalize alM:g.take am.length=kw at ak
  have Wy:kw.length=am.length:=by rw[<-alM];simp;omega
  subst ak
  have qk:∀i e,kw[i]?=some e->(kw++[ba.fresh])[i]?=some e:=fun i e H=>by rw[eU (ao.1 H).1];exact H
  have zM:∀(i:Nat)(e:ba),(kw++[ba.fresh])[i]?=some e->¬e.loose->kw[i]?=some e\/kw[i]?=some .dead:=fun i e H hl=>by
   rcases j6 H with H|⟨_,rfl⟩
   ·exact .inl H
   ·exact absurd trivial hl
  have br:∀u,bM (kw++[ba.fresh]) u↔bM kw u:=fun u=>⟨fun⟨i,e,H,U⟩=>by
   rcases j6 H with H|⟨_,rfl⟩
   ·exact⟨i,e,H,U⟩
   ·exact U.elim,fun⟨i,e,H,U⟩=>⟨i,e,qk i e H,U⟩⟩
  have lc:∀u,Ex X kw u↔Ex X (kw++[ba.fresh]) u:=fun u=>⟨fun h=>h.imp id (br u).2,fun h=>h.imp id (br u).1⟩
  have hSd:Step (kw++[ba.fresh]).length w (kw++[ba.fresh]) w kw:=⟨rfl,rfl,rfl,aC _,fun _ _ _=>rfl,fun u U _=>(br u).2 U,fun i e _ H hl=>zM i e H hl⟩
  have ct:Inv w X kw am:=⟨Wy,fun i b e M H=>(O.ok i b e (by grind) (qk i e H)).step hSd (aC _) fun _ _=>rfl,
   fun i e u H U=>O.lt i e u (qk i e H) U,fun i j e e' u Q hj=>O.inj i j e e' u (qk i e Q) (qk j e' hj),fun u hx I=>O.cU u hx ((br u).2 I),O.df⟩
  have l7:b5 w (Ex X kw) kw args vs:=⟨D.1,fun i s v hs hv=>(D.2 i s v hs hv).mono kw (fun _ _ _=>rfl) (aC _) (fun u _ hn h=>hn ((lc u).1 h)) zM⟩
  refine(hc.ok w X kw vs ct l7).mono fun v w'⟨s,h',V,E,F,h3,h4⟩=>⟨s,h',V,E,F,h3,h4.os,h4.tape,h4.output,h4.size,fun u U I=>h4.frame u U fun h=>I ((br u).2 h),fun u U ai=>(br u).2 (h4.gG u U ai),fun i e Q H hl=>?_⟩
  rcases j6 H with H|⟨_,rfl⟩
  ·exact h4.g_ i e (ao.1 H).1 H hl
  simp_all⟩
def al.Gn{f args bH am s1 em}(hs:al P f args am fun s I=>s=s1/\I=em)(A)(hl:A.length=am.length){h ae K}(hn:(A++[ae]).Nodup)(hf:h[ae]?=some .fresh) (ha:u_ (A++[ae]) args bH True)(hh:x7 (A++[ae]) h A am True)(rc:em.length=A.length+1)(o:r3 (A++[ae]) em fun bf=>rZ (A++[ae]) s1 fun s'=>K s' ((A++[ae]).zip bf) (A++[ae])):oF P f bH h ae K:=by
 obtain⟨bf,o,M⟩:=IN (A++[ae]) em _ o;obtain⟨s',o,xS⟩:=IL (A++[ae]) s1 _ o;obtain⟨o7,e2,d3,_⟩:=Pt em (M (fun x=>x=bf) rfl);subst e2;refine⟨s',_,A++[ae],o,⟨fun w X g F vs O D dz=>?_,fun p hp=>(List.of_mem_zip hp).1⟩⟩;obtain⟨_,At,oX⟩:=On _ hh;have hL:(A++[ae]).length=(am++[bK.fresh]).length:=by simp[hl]
 have zN:=(dz ae sM).trans hf;have dq:∀j∈A++[ae],j<F.length:=fun j hj=>by rcases eJ.1 hj with p9|p9;obtain⟨i,Q⟩:=fx.1 p9;have cj:=(ao.1 Q).1;obtain⟨b',aP,_⟩:=oX i j _ Q (aD G);grind;grind
 have l9:(A++[ae]).take (am++[bK.fresh]).length=A++[ae]:=by rw[<-hL];exact yQ
 have hc:aq P f bH F (fun Jx ad=>Jx=s'/\ad=bF ((A++[ae]).zip o7) F):=(hs.ok.aug).Ql (A++[ae]) (aar hL hn dq) ha (by simp_all)
  (fun i j b Q M=>by
   rw[l9]at Q
   by_cases cj:i<A.length
   ·rw[eU cj]at Q
    rw[eU G]at M
    have⟨b',aP,h3⟩:=oX i j b Q M
    grind
   ·rw[jf G]at Q M
    have dn:=(ao.1 M).1
    simp at dn
    have:i-am.length=0:=G
    rw[this]at M
    rw[show i-A.length=0 by omega]at Q
    simp at Q M
    subst Q;subst M
    exact⟨.fresh,zN,fun w L E' g dU e _ _ h=>by cases e<;>simp only[aB]at h⊢⟩)
  (fun s I⟨e1,e2⟩=>by
   subst e1;subst e2
   refine kM (by simp;omega) (M _ (QW (by omega) ?_))
   rw[l9]
   refine XD (A++[ae]) (by simp;omega) dq (xS _ ⟨rfl,?_⟩)
   simp_all)
 exact J6
end
def a6.cm{m s h R}(A)(s')(h')(aF:mw 0 A=true)(hd:LU m A h'=true)(hR:R s' h')(o:QK A s s' (nL A h A h' True)):a6 m s h R:=by have⟨o,hs⟩:=aba o;refine⟨s',h',hR,fun w X g v O D=>?_⟩;have⟨V,aE,hS,qj,hE,_⟩:=A_ (m:=0) A aF o O;refine⟨V,aE,hs w _ _ g V v qj hE D,⟨hS.os,hS.tape,hS.output,hS.size,hS.frame,hS.gG,fun i e Q H hl=>?_⟩⟩;exact adw
section
variable{P:Program}
def aq.as9{f args h K p i b m}{T0 t:TypeId}{sz cs es}(E:h[p]?=some (.fix T0 cs))(F:cs[i]?=some (.ss b 0 m))(h3:h[b]?=some (.row t sz es))(h4:es≠[])(h5:m<=es.length) (hc:aq P f args (((h.set p (.fix T0 (cs.set i (.sl h.length)))).set b .dead)++[.row t sz (es.take m)]) K):aq P f args h K:=
 ⟨fun w X g vs O D=>by
  obtain⟨c8,be,b_⟩:=aa4 O E F h3 h4 h5
  have hl:g.length<=c8.length:=by rw[be.len,O.len];simp
  exact(hc.ok w X c8 vs be ⟨D.1,fun i s v hs hv=>(D.2 i s v hs hv).step (b_ _) (aC _)⟩).mono fun v w'⟨s,I,V,hK,hv,aE,hS⟩=>⟨s,I,V,hK,hv,aE,(b_ _).trans (hS.le hl)⟩⟩
end
section
variable{P:Program} {T:aG}
def yg(ops:List Oper)(j:Nat):Nat->Nat->Bool|0,_=>false|fuel+1,i=>match ops[i]? with|none=>false|some aa=>(hI aa).any fun p=>p==j||yg ops j fuel p
def an6{ops j aQ}(hL:nF ops aQ):∀fuel i aa,ops[i]?=some aa->(∀p∈hI aa,aQ p=true)->yg ops j fuel i=true->aQ j=true:=by
 intro fuel;induction fuel with
 |zero=>intro i aa _ _ h;simp[yg]at h
 |succ fuel ih=>
  intro i aa I hp h;unfold yg at h;rw[I]at h;have⟨p,fD,h⟩:=sv.1 h;rw[uf]at h;rcases h with h|h;simp_all;cases iU:ops[p]? with
  |none=>cases fuel with|zero=>simp[yg]at h|succ f=>unfold yg at h;simp_all
  |some op=>exact ih p op iU (hL p op iU (hp p fD)) h
def XF(ops:List Oper)(n:Nat):Bool:=(List.range n).all fun j=>yg ops j (n+1) n
def XH(l:List Oper)(k:Oper->Prop):Prop:=List.rec False (fun aa t ih=>List.rec (k aa) (fun _ _ _=>ih) t) l
def amB(l):∀{k},XH l k->∃aa,l=l.dropLast++[aa]/\k aa:=by induction l with|nil=>intro k h;cases h|cons aa t ih=>intro k h;cases t with|nil=>exact⟨aa,rfl,h⟩|cons o' t'=>have⟨x,hx,o⟩:=ih h;grind
def ah5(P:Program)(T:aG)(ops:Array Oper)(J:Fr)(h:Hp)(K:Fr->Hp->Prop):Prop:=
 vJ T ops.toList.dropLast h fun ids h'=>Cr P T ops.toList ops.toList.dropLast 0 ids J h' fun rs F' bx=>O_ (rs++[⟨.undef,[],[]⟩]) fun ms=>x8 ops ms=true/\XF ops.toList ops.toList.dropLast.length=true/\
  XH ops.toList fun aa=>aa.guard=none/\AN P T F' bx aa.op fun s ad=>kr F' aa.dst s fun yW=>K yW ad
def iJ.lh{ops recs F0 h0}(l):∀{rs k F' h'},(∀i,i<l.length->l[i]?=ops.toList[k+i]?)->(∀i,i<l.length->rs[i]?=recs[k+i]?)->iJ P ops (FL ops.toList recs F0 (fun _=>true) k) (HL recs h0 (fun _=>true) k) l rs F' h'->rs.length=l.length/\(∀i aa r,l[i]?=some aa->rs[i]?=some r->Good P ops (FL ops.toList recs F0 (fun _=>true) (k+i)) (HL recs h0 (fun _=>true) (k+i)) aa r)/\F'=FL ops.toList recs F0 (fun _=>true) (k+l.length)/\h'=HL recs h0 (fun _=>true) (k+l.length):=by
 induction l with
 |nil=>intro rs k F' h' _ _ D;cases D<;>simp_all
 |cons aa l ih=>
  intro rs k F' h' I gK D;cases D with
  | @cons _ _ _ _ _ _ r rs U D=>
   have e1:kc ops.toList k=aa.dst:=by have:=I 0 sM;simp only[mL,sA]at this;simp[kc,<-this]
   have e2:recAt recs k=r:=by have:=gK 0 sM;simp only[mL,sA]at this;simp[recAt,List.getD,<-this]
   have ds:iJ P ops (FL ops.toList recs F0 (fun _=>true) (k+1)) (HL recs h0 (fun _=>true) (k+1)) l rs F' h':=by simp only[FL,HL,dw,e1,e2];exact D
   obtain⟨i0,rR,i2,i3⟩:=ih (fun i Q=>by have:=I (i+1) sO;grind)
    (fun i Q=>by have:=gK (i+1) sO;grind) ds
   refine⟨by simp[i0],fun i o' r' E F=>?_,by grind,by grind⟩;cases i<;>grind
variable{ops:Array Oper} {recs:List Rec} {F0:Fr} {h0:Hp}
def wpAny_done{aV listed}(hs:listed.size=ops.size)(dl:∀i,i<ops.size->cO listed i=true){a w}(xl:aV .normal a w)(fuel):wpAny P .any ops aV fuel listed a w:=by
 have dW:∀i,i∉Region.ready .any ops listed:=fun i Q=>by exact ab7
 cases fuel with|zero=>exact⟨ad9.2 dW,xl⟩|succ fuel=>exact⟨fun _=>xl,fun i Q=>absurd Q (dW i)⟩
def ah7(hp:Plan P ops recs F0 h0){n}{o1}(hn:ops.size=n+1)(em:ops[n]?=some o1)(zR:o1.guard=none) (zS:∀i aa r,i<n->ops[i]?=some aa->recs[i]?=some r->Good P ops (FL ops.toList recs F0 (fun _=>true) i) (HL recs h0 (fun _=>true) i) aa r) (dl:∀aQ:Nat->Bool,nF ops.toList aQ->(∀p∈hI o1,aQ p=true)->∀j,j<n->aQ j=true) {m}{X}{w0}{b0}{K:Fr->Hp->Prop} (oZ:∀(w:World)(g:Sg)(a:Act),Inv w X g (HL recs h0 (fun j=>decide (j<n)) ops.size)->cC w (Ex X g) g (FL ops.toList recs F0 (fun j=>decide (j<n)) ops.size) a.tmps->bO P (execOp a.eval o1) w fun v w'=>∃F2 ad V,K F2 ad/\cC w' (Ex X V) V F2 (a.put o1.dst v).tmps/\Inv w' X V ad/\Step g.length w g w' V):∀(fuel:Nat)(listed:Array Bool)(iK:List Nat)(a:Act)(w:World)(g:Sg),listed.size=ops.size->nF ops.toList (cO listed)->cO listed n=false->iK.length<=fuel->(∀i,i<ops.size->cO listed i=false->i∈iK)->a.defers=[]->Inv w X g (HL recs h0 (cO listed) ops.size)->cC w (Ex X g) g (FL ops.toList recs F0 (cO listed) ops.size) a.tmps->Step m w0 b0 w g->m<=g.length->wpAny P .any ops (jm m X w0 b0 fun x J h=>x=.normal/\K J h) fuel listed a w:=by
 intro fuel;induction fuel with
 |zero=>grind
 |succ fuel ih=>
  intro listed iK a w g hs hL hH Hc HP hd O hF hS HC;refine⟨fun D=>?_,fun i Q=>?_⟩;have:=Tm hp hs D n G;rw[hH]at this;simp at this;rw[mem_ready]at Q;have⟨E,aa,I,m0⟩:=Q;have ai:=(iF.1 I).1;have io:cO listed i=false:=by simp[cO,ui,show i<listed.size by omega]at E⊢;exact E
  have zZ:∀p∈hI aa,cO listed p=true:=fun p fD=>by have⟨e,H,M,Hn⟩:=ZQ fD;rw[<-Hn];exact m0 e H M
  have bW:(listed.setIfInBounds i true).size=ops.size:=by simp[hs]
  have CR:nF ops.toList (cO (listed.setIfInBounds i true)):=by rw[qt G];intro j oj jt ip p fD;simp only[add,uf,c6]at ip⊢;rcases ip with ip|ip;exact .inl (hL j oj jt ip p fD);grind
  unfold wpOp;rw[I];simp only[];by_cases am:i=n;subst am;rw[em]at I;simp at I;subst I;have avB:=dl _ hL zZ;have Ux:∀j,j<ops.size->cO listed j=decide (j<i):=fun j hj=>by grind
  have e1:FL ops.toList recs F0 (cO listed) ops.size=FL ops.toList recs F0 (fun j=>decide (j<i)) ops.size:=by apply jh;intro t;exact yX ops.size fun j hj _=>Ux j hj
  have e2:HL recs h0 (cO listed) ops.size=HL recs h0 (fun j=>decide (j<i)) ops.size:=by apply jh;intro t;exact yY ops.size fun j hj _=>Ux j hj
  rw[e1]at hF;rw[e2]at O;rw[au (by unfold Region.wanted;rw[zR])];refine .inl (E_ (oZ w g a O hF) fun v w'⟨F2,ad,V,hK,lW,be,b_⟩=>wpAny_done bW (fun j hj=>?_) ?_ _);rw[qt G];simp only[add,uf,c6];grind;refine⟨?_,.normal,F2,ad,V,rfl,⟨rfl,hK⟩,be,lW,hS.trans (b_.le HC)⟩;cases avM:o1.dst with|none=>exact hd|some d=>exact hd
  have M4:=zS i aa _ G I (hp.AX I);have Nu:∀t∈aa.looksAt ops,∀s,(FL ops.toList recs F0 (fun _=>true) i)[t]?=some s->∃v,a.tmps[t]?=some v/\af w (Ex X g) g s v:=fun t ht s DE=>by rw[<-hp.slot hL I zZ io ht]at DE;exact hF.get DE
  have d2:∀r∈(recAt recs i).aJ,(HL recs h0 (cO listed) ops.size)[r]?=(HL recs h0 (fun _=>true) i)[r]?:=fun r D=>hp.cell hL I zZ io D;have Nx:i∈iK:=HP i ai io;have CU:(iK.erase i).length<=fuel:=by rw[List.length_erase_of_mem Nx];omega
  have DG:∀j,j<ops.size->cO (listed.setIfInBounds i true) j=false->j∈iK.erase i:=fun j hj ip=>by rw[qt G]at ip;simp only[add,Sc,dh]at ip;grind
  have WD:cO (listed.setIfInBounds i true) n=false:=by rw[qt G];simp only[add,Sc,dh];exact⟨hH,fun h=>am h.symm⟩
  have xO:∀v w' V,cC w' (Ex X V) V (FL ops.toList recs F0 (cO listed) ops.size) a.tmps->af w' (Ex X V) V (recAt recs i).s v->
   cC w' (Ex X V) V (FL ops.toList recs F0 (cO (listed.setIfInBounds i true)) ops.size) (a.put aa.dst v).tmps/\(a.put aa.dst v).defers=[]:=by
   exact acQ
  rcases M4.go w X g _ a O (by rw[uq,uq]) Nu d2 with⟨hw,iU⟩|⟨hw,NW,N8⟩;rw[au hw];refine .inl (E_ iU fun v w'⟨V,D,aE,ca,dg⟩=>?_);have⟨h3,h4⟩:=xO v w' V (hF.step ca (aC _)) D;refine ih _ _ _ w' V bW CR WD CU DG h4 ?_ h3 (hS.trans ca.any) G;rw[qt G,hp.Gb hL I io];exact aE;rw[ay (by rw[hw];simp)];have⟨h3,h4⟩:=xO Go.undef w g hF (by rw[NW];exact .undef);refine ih _ _ _ w g bW CR WD CU DG h4 ?_ h3 hS HC;rw[qt G,hp.Gb hL I io,N8];exact O
def iJ.len{J F' h h' l rs}(D:iJ P ops J h l rs F' h'):rs.length=l.length:=by induction D<;>simp_all
def arL(l):∀{h k},vJ T l h k->∃ns h',k ns h'/\h.length<=h'.length/\∀w X g,Inv w X g h->∃V,Inv w X V h'/\Step g.length w g w V:=by induction l with|nil=>intro h k o;exact⟨[],h,o,aC _,fun w X g O=>⟨g,O,.refl _ _ _⟩⟩|cons aa l ih=>intro h k o;have o:(match D_ T aa.op with|true=>DL h yA fun n=>fA h [.fresh] fun h'=>vJ T l h' fun ns bx=>k (n::ns) bx|false=>vJ T l h fun ns bx=>k (0::ns) bx):=o;cases hn:D_ T aa.op with|true=>rw[hn]at o;have⟨n,_,o⟩:=Of o;have o:=iL o;have⟨ns,h',o,hl,hs⟩:=ih o;refine⟨_,h',o,by simp at hl;omega,fun w X g O=>?_⟩;exact ab6|false=>grind
def cf.last(hm:P.follows .mixedOrders=true)(hT:bl P T){m id J h K}(hmh:m<=h.length)(o:ah5 P T ops J h K):cf P m id ops J h K:=by
 refine⟨fun w X g tmps O hF=>wp_region_any hm ?_⟩;have⟨ids,h',o,awc,qf⟩:=arL ops.toList.dropLast o;have⟨rs,F',bx,o,a7⟩:=Ur hT (ops:=ops) ops.toList.dropLast o;have⟨xz,zU,o⟩:=Yk o;obtain⟨o1,pb,zR,o⟩:=amB _ o;generalize dp:ops.toList.dropLast=front at*;have dY:ops.size=front.length+1:=by rw[<-BI,pb];simp
 generalize ali:rs++[(⟨.undef,[],[]⟩:Rec)]=recs at*;have HE:∀i,i<front.length->front[i]?=ops.toList[i]?:=fun i Q=>by grind
 have em:ops[front.length]?=some o1:=by rw[<-eF,pb,jf (aC _)];simp
 have alj:=a7.len;have HK:∀i,i<front.length->rs[i]?=recs[i]?:=fun i Q=>by grind
 have hW:iJ P ops (FL ops.toList recs J (fun _=>true) 0) (HL recs h' (fun _=>true) 0) front rs F' bx:=a7;obtain⟨_,a2,a3,a4⟩:=hW.lh (ops:=ops) (recs:=recs) front (fun i Q=>by simp_all) (fun i Q=>by simp_all);rw[jE]at a3 a4;have zS:∀i aa r,i<front.length->ops[i]?=some aa->recs[i]?=some r->Good P ops (FL ops.toList recs J (fun _=>true) i) (HL recs h' (fun _=>true) i) aa r:=fun i aa r Q I D=>by grind
 have hlen:recs.length=ops.size:=by rw[<-ali,dY];simp[alj]
 have hp:Plan P ops recs J h':=by
  refine⟨hlen,fun i aa r I qe=>?_,fun i aa r I qe=>?_⟩;by_cases Q:i<front.length;exact(zS i aa r Q I qe).sub;have cj:=(ao.1 qe).1;have:i=front.length:=by omega
  subst this;grind;·unfold x8 at xz;rw[bR]at xz;have:=Xg (ops:=ops) (ops.toList.zip (recs.map ik)) (done:=[]) (cl:=[]) rfl sM xz.2 i (aa,ik r) (cx _) (by rw[SC,ug];grind);simpa using this
 have dl:∀aQ:Nat->Bool,nF ops.toList aQ->(∀p∈hI o1,aQ p=true)->∀j,j<front.length->aQ j=true:=fun aQ hL m0 j hj=>by unfold XF at zU;have:=ir.1 zU j (pG.2 hj);exact an6 hL _ _ o1 (by grind) m0 this
 have⟨c7,ct,i8⟩:=qf w X g O;have CP:=hF.step i8 (aC _);have b_:Step c7.length w c7 {w with drawn:=w.drawn+1} c7:=⟨rfl,rfl,rfl,aC _,fun _ _ _=>rfl,fun _ h _=>h,fun _ _ _ h _=>.inl h⟩;have lW:=CP.step b_ (aC _);have be:Inv {w with drawn:=w.drawn+1} X c7 h':=ct.heap rfl;have Hh:∀i,cO (Array.replicate ops.size false) i=false:=fun i=>by exact adC
 have MA:∀k,FL ops.toList recs J (cO (Array.replicate ops.size false)) k=J:=by intro k;induction k with|zero=>rfl|succ k ih=>simp only[FL];grind
 have My:∀k,HL recs h' (cO (Array.replicate ops.size false)) k=h':=by intro k;induction k with|zero=>rfl|succ k ih=>simp only[HL];grind
 have us:FL ops.toList recs J (fun j=>decide (j<front.length)) ops.size=F':=by rw[a3,dY];simp only[FL];rw[ay sM];apply jh;intro t;exact yX _ fun j hj _=>by simp[hj]
 have lQ:HL recs h' (fun j=>decide (j<front.length)) ops.size=bx:=by rw[a4,dY];simp only[HL];rw[ay sM];apply jh;intro t;exact yY _ fun j hj _=>by simp[hj]
 have Wy:c7.length=h'.length:=ct.len;have HC:m<=c7.length:=by omega
 refine ah7 hp dY em zR zS dl (fun w2 c8 a2' aE cB=>?_) ops.size _ (List.range ops.size) ⟨tmps,[]⟩ _ c7 sM (fun i aa _ Q=>by grind) (Hh _) sM (fun i Q _=>pG.2 Q) rfl ?_ ?_ (i8.any.trans b_.any) HC;rw[lQ]at aE;rw[us]at cB;have⟨d,op,ty,pos,after,guard⟩:=o1;refine(Zj hT o aE cB d ty pos after guard).mono fun v w'⟨s,ad,V,hK,D,p1,lX⟩=>?_;have hK:=P7 hK;refine⟨_,ad,V,hK,?_,p1,lX⟩;cases d with|none=>exact cB.step lX (aC _)|some d=>exact(cB.step lX (aC _)).set D
 grind;grind
end
