/- Lemmas for TopZ; tactic blocks in binders fill in some arguments. -/
import Derived.Test.YtfkepgkmobgleaaGreatDoorP11
set_option linter.all false
noncomputable section
set_option maxRecDepth 100000
set_option maxHeartbeats 0
namespace Go.Proofs.YtfkepgkmobgleaaGreatDoor
open Go.Sx Go.Air Tryz
def gD(u:Nat->Nat)(i:Nat):List SV:=[.ra (u i) 0]
def sdC(u:Nat->Nat)(aa:Option Nat):SV:=match aa with|some i=>.ra (u i) 0|none=>.nilp
def amk{α:Type}{f}{ls:List α}{j i}{k}(Q:i<ls.length)(h:∀x,ls[i]?=some x->k (f x)):BP (cG j++ls.map f) (j+i) k:=
 ⟨f ls[i],by rw[jf (by simp[cG])];simp[cG,Q],h _ (aD Q)⟩
def aml{j}{l}:(cG j++l).length=j+l.length:=by simp[cG]
def alO(u:Nat->Nat)(xs)(l)(j)(x)(hx:∀i∈l,i<xs.length)(hl:l.length<=1000000):al prog 321 [.ss 0 j l.length,.fn 322 [.ptr 1 0]] [.row 182 1 (cG j++l.map (gD u)),.fix 3 [.int .i64 x],.asn (aI (fun i=>[u i]) (xs.map HD))] (fun s I=>s=.int .i64 (idxOf (fun i=>decide ((bp xs i).id=x)) l)/\I=[.row 182 1 (cG j++l.map (gD u)),.fix 3 [.int .i64 x],.asn (aI (fun i=>[u i]) (xs.map HD))]):=by refine al.ar aj func321 Y rfl (B ?_);refine b6.cq aj 19 (fun i:{i:Nat//i<=l.length/\lK (fun i=>decide ((bp xs i).id=x)) l i}=>[(0,.ss 0 j l.length),(1,.fn 322 [.ptr 1 0]),(7,.int .i64 (l.length:Int)),(8,.int .i64 (i.1:Int))]) (fun _=>[.row 182 1 (cG j++l.map (gD u)),.fix 3 [.int .i64 x],.asn (aI (fun i=>[u i]) (xs.map HD))]) (fun i=>l.length-i.1) ⟨0,cx _,by intro j hj;omega⟩ (.of aea Y wt) ?_;intro i;have U:=i.2.2;refine B ?_;refine dT (fun _=>B ?_) fun _=>B ?_;refine dt sO (B ?_);refine amk G fun x1 d7=>B ?_;refine(amd _ _ _ _ (by exact GC (hx _ (bN ‹_›))) _).call [1,2] Y Y1 Y2 (rj (B ?_));refine dT (fun _=>B ?_) fun _=>B ?_;refine .same (B ?_);rw[Ah U ‹_› (by simp[*])];exact ad0;refine⟨⟨i.1+1,G,U.step ‹_› (by simp[*])⟩,by show l.length-(i.1+1)<l.length-i.1;omega,.of aea Y (B ?_)⟩;exact acx;refine .same (B ?_);rw[Ai U G];exact ad0
def gU(u:Nat->Nat)(k:Nat)(r:Rd):Hp:=[.fix 184 [.int .i64 r.fH,.tl 1 r.order.length,sdC u r.sending],.row 182 1 (cG k++r.order.map (gD u)),.asn (aI (fun i=>[u i]) (r.pool.map HD))]
def RH{ab:Prop}(k:ab:=by refine B ?_;refine aq.abz k rfl (by simp[cG]) ?_;refine(alO _ _ _ _ _ G G).call [1,3,2] Y Y2 Y3 (rj (B ?_));exact ad0):ab:=k
def ru(u:Nat->Nat)(k)(r)(D:sG r)(id):al prog 260 [.ptr 0 0,.int .i64 id] (gU u k r) fun v I=>v=.int .i64 (r.find id)/\I=gU u k r:=by refine al.ar aj func260 Y rfl ?_;have I:=D.ord;have hl:=D.len;have⟨q,p,aa,sd⟩:=r;rcases sd with _|sd;exact RH;exact RH
def atZ{lo m}{es}(h:m=0->lo<es.length):sh lo m es=false:=by cases M:sh lo m es with|false=>rfl|true=>obtain⟨E,F,_⟩:=abr M;omega
def ar6{es}{n}(h0:0<es.length)(h:n<=es.length):A5 es n=true:=by cases es with|nil=>simp at h0|cons e es=>exact Fk h
def ahD(aQ)(z)(k i n:Nat)(hL:aQ.length=k+n)(Q:(i:Int)<(n:Int))(ab aZ C:List (List SV))(m r)(hA:ab=List.take (k+((0:Nat):Int).toNat+((i:Int)-((0:Nat):Int)).toNat) aQ) (hB:aZ=List.drop (k+((i:Int)+1).toNat) (List.take (k+((i:Int)+1).toNat+((n:Int)-((i:Int)+1)).toNat) aQ))(xi:C=List.drop (k+((0:Nat):Int).toNat+((i:Int)-((0:Nat):Int)).toNat+aZ.length) aQ) (hm:m=k+((0:Nat):Int).toNat+((((i:Int)-((0:Nat):Int)).toNat+aZ.length:Nat):Int).toNat)(D:r=((n:Int)-((((i:Int)-((0:Nat):Int)).toNat+aZ.length:Nat):Int)).toNat):List.take m (ab++(aZ++C))++(List.replicate r z++List.drop (m+r) (ab++(aZ++C)))=aQ.eraseIdx (k+i)++[z]:=by
 have F:((i:Int)+1).toNat=i+1:=by omega
 have h3:((i:Int)-((0:Nat):Int)).toNat=i:=by omega
 have h4:((n:Int)-((i:Int)+1)).toNat=n-(i+1):=by omega
 have h0:((0:Nat):Int).toNat=0:=rfl;rw[j9 (l:=aQ) G]at hB;have XA:ab.length=k+i:=by subst hA;simp;omega
 have Ar:aZ.length=n-(i+1):=by subst hB;simp;omega
 have XB:C.length=1:=by subst xi;rw[Fu,Ar];omega
 have l7:r=1:=by subst D;rw[Ar];omega
 have e1:List.take m (ab++(aZ++C))=ab++aZ:=by rw[<-sw,Fv (by grind),j9 (by grind)]
 have e2:List.drop (m+r) (ab++(aZ++C))=[]:=List.drop_eq_nil_of_le (by simp[XA,Ar,XB];omega);rw[e1,e2,l7,v_,hA,hB];simp[sB]
def aoV{t:TypeId}{z k m m'}{es aS}{b}(hm:m=m')(H:es=aS):a6 1 (.ss 0 k m) [.row t z es,b] (fun s I=>s=.ss 0 k m'/\I=[.row t z aS]):=by subst hm;subst H;refine a6.of [some 0] _ _ Y ⟨rfl,rfl⟩ ?_;show k=k/\m=m/\bd t t (bd z z (es=es/\True));exact⟨rfl,rfl,kM rfl (kM rfl ⟨rfl,trivial⟩)⟩
def air{k i}{es}{z}:(cG k++es).eraseIdx (k+i)++[z]=cG k++(es.eraseIdx i++[z]):=by rw[List.eraseIdx_append_of_length_le (by simp[cG])];simp[cG]
def ahv(k n)(es:List (List SV))(hn:es.length=n)(i j:Int)(hj:j=i+1)(h0:0<=i)(Q:i<n)(hl:es.length<=1000000):al prog 491 [.ss 0 k n,.int .i64 i,.int .i64 j] [.row 182 1 (cG k++es)] (fun s I=>s=.ss 0 k (n-1)/\I=[.row 182 1 (cG k++(es.eraseIdx i.toNat++[[.nilp]]))]):=by subst hj;obtain⟨i,rfl⟩:=oD h0;refine al.ar aj func491 Y rfl (B ?_);refine dt sO (B ?_);refine dt (by simp[cG]at*;omega) (B ?_);refine dt (by simp[cG]at*;omega) (B ?_);refine B2 (by exact atZ (by simp[cG]at*;omega)) (B ?_);refine dt (by simp[jr];omega) (B ?_);refine B3 (by exact ar6 (by grind) (by simp[cG]at*;omega)) (B ?_);refine dt (by simp[cG]at*;omega) (B ?_);refine dt (by simp[cG]at*;omega) (B ?_);exact aoV (by simp[cG]at*;omega) ((ahD _ _ k i n (aml.trans G) Q _ _ _ _ _ rfl rfl rfl rfl rfl).trans air)
def Bw{ab:Prop}(k:ab:=by simp only[Rd.uD, *,dw,ek,iG,dI,ny,nz,nA,iE,nB,dx];refine bj.of aea Y ?_ Y;refine B ?_;exact lF):ab:=k
def agD(u:Nat->Nat)(k)(r)(D:sG r)(t):aq prog 191 [.ptr 0 0,.int .i64 t] (gU u k r) fun v I=>bj 1 v I (.int .i64 (r.uD t).1) (gU u k (r.uD t).2):=by
 refine aq.ar aj func191 Y rfl ?_;have hs:=D.snd;obtain⟨q,p,aa,sd⟩:=r;rcases sd with _|sd;refine B ?_;refine dT (fun _=>B ?_) fun _=>B ?_;exact Bw;refine dT (fun _=>B ?_) fun _=>B ?_;exact Bw;exact Bw
 have hd:=GC (hs sd rfl);refine B ?_;refine dT (fun _=>B ?_) fun _=>B ?_;exact Bw;refine dT (fun _=>B ?_) fun _=>B ?_;exact Bw;refine cc.pool aj il (p:=2) rfl hd rfl (B ?_);refine gV.pool aj il {bp p sd with def_:=W ((bp p sd).def_-t)} (p:=2) rfl hd rfl trivial (B ?_);exact Bw
def UL{k i}{α:Type}{f}{l:List α}{z}(Q:i<l.length):(cG k++((l.map f).eraseIdx i++[z])).take (k+(l.length-1))=cG k++(l.eraseIdx i).map f:=by
 rw[List.take_append,j9 (by simp[cG])];congr 1;have e:(l.map f).eraseIdx i=(l.eraseIdx i).map f:=by rw[v_,v_,dx,wa,Sd]
 rw[e,Fv (by simp[cG,qJ,Q]),j9 (by simp[cG,qJ,Q])]
def adc{ab:Prop}(k:ab:=by refine aq.abz k rfl (by simp[cG]) ?_;refine(ahv _ _ _ G _ _ (by exact a_ _ G G) G G G).call [1] Y Y4 Y1 (rj (B ?_));(refine .inr ⟨0,1,1,k,_,_,_,_,_,_,rfl,rfl,rfl,sM,by simp[cG,qJ];split<;>omega,B ?_⟩);rw[hm];refine bj.of (lS [1,4,3]) Y ?_ Y;refine B ?_;(repeat(first|exact trivial|rfl|(refine⟨rfl,?_⟩;(conv=>whnf))));(repeat(first|exact trivial|rfl|(refine⟨rfl,?_⟩;(conv=>whnf))|(refine⟨by first|exact bh _|exact a_ _ G G|(simp;omega)|(simp[qJ,Q];done)|(rw[e,gh];exact UL Q)|omega|simp,?_⟩;(conv=>whnf))|(first|exact bh _|exact a_ _ G G|(simp;omega)|(simp[qJ,Q];done)|(rw[e,gh];exact UL Q)|(simp;done))))):ab:=k
def amF(u:Nat->Nat)(k)(r)(D:sG r)(id):aq prog 490 [.ptr 0 0,.int .i64 id] (gU u k r) fun v I=>bj 1 v I (.int .i64 (r.leave id).1) (gU u k (r.leave id).2):=by
 refine aq.as8 (aq.ar aj func490 Y rfl ?_);have hl:=D.len;have hL:(r.order.map (gD u)).length=r.order.length:=bh _;obtain⟨e,_⟩|⟨i,p,e,M,hx,hp⟩:=Ag (fun i=>decide ((bp r.pool i).id=id)) r.order;have e:r.find id= -1:=e;have hm:r.leave id=(6,r):=by unfold Rd.leave;rw[au G]
 obtain⟨q,pl,aa,sd⟩:=r;rcases sd with _|sd;refine B ?_;refine(ru _ _ _ G _).call [0,1,2] Y Y1 Y4 (rj (B ?_));refine .inl (B ?_);rw[hm];exact v6;refine B ?_;refine(ru _ _ _ G _).call [0,1,2] Y Y1 Y5 (rj (B ?_));refine .inl (B ?_);rw[hm];exact v6;have e:r.find id=(i:Int):=e;have Q:=(ao.1 hx).1;have hm:r.leave id=(0,{r with order:=r.order.eraseIdx i,sending:=none}):=by unfold Rd.leave;rw[ay G,e,gh]
 obtain⟨q,pl,aa,sd⟩:=r;rcases sd with _|sd;refine B ?_;refine(ru _ _ _ G _).call [0,1,2] Y Y1 Y4 (rj (B ?_));exact adc;refine B ?_;refine(ru _ _ _ G _).call [0,1,2] Y Y1 Y5 (rj (B ?_));exact adc
def ln(u:Nat->Nat)(n a:Nat):Nat->Nat:=fun i=>if i=n then a else u i
def Vm{u}{n a}:xh (fun i=>[u i]) n [a]=fun i=>[ln u n a i]:=by funext i;unfold xh ln;split<;>rfl
def arc{u}{n a}{aa}(h:∀i∈aa,i<n):aa.map (gD u)++[[.ra a 0]]=(aa++[n]).map (gD (ln u n a)):=by rw[dx];congr 1;apply k8;intro i Q;have:=h i Q;unfold gD ln;rw[ay G];unfold gD ln;simp
def Qd(u:Nat->Nat)(aa:List Nat):qP (aa.map (gD u)):=fun e H s hs=>by obtain⟨i,_,rfl⟩:=ew.1 H;unfold gD at hs;simp at hs;subst hs;exact(jL Y).2
def amn{u}{n}{p}{aa}{d}{s}{t T0 T1:TypeId}{gc c1}{Fa}{GE}{R}(hp:∀b a,kA b a s=s)(I:∀i∈aa,i<p.length)(ht:t=419)(hd:GE=aa.map (gD u)) (hR:∀g' k',R s [.fix T0 [gc,.tl 5 n,c1],.dead,.asn (aI (fun i=>[g' i]) ((p++[d]).map HD)),.dead,Fa,.row T1 1 (cG k'++(aa++[p.length]).map (gD g'))]):FX (S_ R) s [.fix T0 [gc,.tl 5 n,c1],.dead,.asn (aI (fun i=>[u i]) (p.map HD)),.fix t [.int .i64 d.id,.int .i64 d.w,.int .i64 d.def_,.int .i64 d.turns],Fa,.tail T1 1 (GE++[[.ptr 3 0]])]:=by subst ht;subst hd;refine⟨3,2,_,_,_,fun a=>aI (fun i=>[ln u p.length a i]) ((p++[d]).map HD),fun a=>[.fix T0 [gc,.tl 5 n,c1],.dead,.asn (aI (fun i=>[u i]) (p.map HD)),.dead,Fa,.tail T1 1 (aa.map (gD u)++[[.ra a 0]])],rfl,w_ Y,fun _=>rfl,fun a=>?_,fun a=>?_,fun a=>?_,fun a=>?_⟩;have:=fW.pool (gs:=fun i=>[u i]) (hs:=p.map HD) (hc:=HD d) (l:=[a]);rw[bh,Vm]at this;rw[dx];exact this;exact pq (AT il _);exact(mO.of sM).set (q:=5) dC rfl (.tail (Qd u aa));refine⟨5,T1,(aa++[p.length]).map (gD (ln u p.length a)),?_,Qd _ _,fun k'=>?_⟩;rw[<-arc I];rfl;simp_all
def aib{k n}{l}(h:l.length=n):(cG k++l).drop ((cG k++l).length-n)=l:=by simp_all
def amp{q id w}{p}{aa}{sd}{Fa}(hl:aa.length<=100000)(h0:0<=id)(E:id<16)(w0:1<=w)(w1:w<=16)(hf:(Rd.mk q p aa sd).find id<0)(g':Nat->Nat)(k'):(fun v I=>∃g' k',bj 1 v I (.int .i64 ((Rd.mk q p aa sd).join id w).1) (gU g' k' ((Rd.mk q p aa sd).join id w).2)) (.int .i64 0) [.fix 184 [.int .i64 q,.tl 5 (aa.length+1),.nilp],.dead,.asn (aI (fun i=>[g' i]) ((p++[(⟨id,w,W (q*w),0⟩:Ds)]).map HD)),.dead,Fa,.row 182 1 (cG k'++(aa++[p.length]).map (gD g'))]:=by
 have hm:(Rd.mk q p aa sd).join id w=(0,⟨q,p++[⟨id,w,W (q*w),0⟩],aa++[p.length],none⟩):=by unfold Rd.join;rw[ay G,ay G]
 refine⟨g',k',?_⟩;rw[hm];refine B ?_;refine bj.of (lS [1,6,3]) Y ?_ Y;refine B ?_;(repeat(first|exact trivial|rfl|(refine⟨rfl,?_⟩;(conv=>whnf))));(repeat(first|exact trivial|rfl|(refine⟨rfl,?_⟩;(conv=>whnf))|(refine⟨by first|(simp;done)|omega|simp,?_⟩;(conv=>whnf))|(first|(simp;done)|(simp;done))))
def RA{ab:Prop}(k:ab:=by refine dt sM (B ?_);refine dt (by simp[jr];omega) (B ?_);(exact amn (d:=⟨id,w,W (q*w),0⟩) (fun _ _=>rfl) D.ord rfl (aib (bh _)) (amp hl h0 E w0 w1 hf))):ab:=k
def amm(u:Nat->Nat)(k)(r)(D:sG r)(id w)(h0:0<=id)(E:id<16)(w0:1<=w)(w1:w<=16)(hf:r.find id<0):aq prog 489 [.ptr 0 0,.int .i64 id,.int .i64 w] (gU u k r) fun v I=>∃g' k',bj 1 v I (.int .i64 (r.join id w).1) (gU g' k' (r.join id w).2):=by refine aq.norm (aq.fold (aq.ar aj func489 Y rfl ?_));have⟨q,p,aa,sd⟩:=r;have hl:aa.length<=100000:=D.len;rcases sd with _|sd;refine B ?_;refine(ru _ _ _ G _).call [0,1,2] Y Y1 Y4 (rj (B ?_));exact RA;refine B ?_;refine(ru _ _ _ G _).call [0,1,2] Y Y1 Y5 (rj (B ?_));exact RA
def Xj(l)(x)(hl:l.length<=1000000):al prog 154 [.sl 0,.int .i64 x] [.row 3 1 (l.map ic)] (fun s I=>s=.int .i64 (idxOf (fun y=>decide (x=y)) l)/\I=[.row 3 1 (l.map ic)]):=by refine al.ar aj func154 Y rfl (B ?_);refine b6.cq aj 19 (fun i:{i:Nat//i<=l.length/\lK (fun y=>decide (x=y)) l i}=>[(0,.sl 0),(1,.int .i64 x),(7,.int .i64 ((l.map ic).length:Int)),(8,.int .i64 (i.1:Int))]) (fun _=>[.row 3 1 (l.map ic)]) (fun i=>l.length-i.1) ⟨0,cx _,by intro j hj;omega⟩ (.of [some 0] Y wt) ?_;intro i;have U:=i.2.2;have hm:(l.map ic).length=l.length:=bh _;refine B ?_;refine dT (fun _=>B ?_) fun _=>B ?_;refine kd G fun x1 d7=>?_;refine B ?_;refine dT (fun _=>B ?_) fun _=>B ?_;refine .same (B ?_);rw[Ah U ‹_› (by simp[*])];exact adz;(refine⟨⟨i.1+1,G,U.step ‹_› (by simp[*])⟩,by show l.length-(i.1+1)<l.length-i.1;omega,.of [some 0] Y ?_⟩);refine B ?_;exact acx;refine .same (B ?_);rw[Ai U G];exact adz
def GA(l)(x)(hl:l.length<=1000000):al prog 93 [.sl 0,.int .i64 x] [.row 3 1 (l.map ic)] (fun s I=>s=.bool (decide (0<=idxOf (fun y=>decide (x=y)) l))/\I=[.row 3 1 (l.map ic)]):=by refine al.ar aj func93 Y rfl (B ?_);refine(Xj _ _ G).call [0] Y Y1 Y1 (rj (B ?_));exact adz
end Go.Proofs.YtfkepgkmobgleaaGreatDoor
namespace Go.Air
open Go.Sx
structure kG(N:Nat)(r:Rd):Prop where
 ok:sG r
 n:r.order.length<=N
 tB:N<=100000
 q:256<=r.fH/\r.fH<=1048576
 w:∀i,i<r.pool.length->1<=(bp r.pool i).w/\(bp r.pool i).w<=16/\ -4194304<=(bp r.pool i).def_/\(bp r.pool i).def_<=33554432
 s:∀i,r.sending=some i->0<(bp r.pool i).def_
def Co{p}{h i}{d}(hh:h<p.length):bp (p.set h d) i=if i=h then d else bp p i:=by unfold bp;grind
def ahr{p}{d}{i}(Q:i<p.length+1):bp (p++[d]) i=if i=p.length then d else bp p i:=by unfold bp;grind
def aad{q w:Int}(q1:256<=q)(q2:q<=1048576)(w1:1<=w)(w2:w<=16):256<=q*w/\q*w<=16777216:=by constructor;have:256*1<=q*w:=Int.mul_le_mul q1 w1 G G;omega;have:q*w<=1048576*16:=Int.mul_le_mul q2 w2 G G;omega
def kG.leave{N}{r}(h:kG N r)(id):kG N (r.leave id).2:=by
 unfold Rd.leave;split;exact h;have hl:(r.order.eraseIdx (r.find id).toNat).length<=r.order.length:=by rw[qJ];split<;>omega
 exact⟨⟨fun i Q=>h.ok.ord i (List.mem_of_mem_eraseIdx Q),dF hl h.ok.len,sM⟩,dF hl h.n,h.tB,h.q,h.w,sM⟩
def kG.uD{N}{r}(h:kG N r)(t):kG N (r.uD t).2:=by unfold Rd.uD;split;exact h;cases hs:r.sending with|none=>omega|some i=>have Q:=h.ok.snd i hs;have hp:=h.s i hs;obtain⟨w1,w2,sR,ahq⟩:=h.w i Q;have xp:W ((bp r.pool i).def_-t)=(bp r.pool i).def_-t:=BX G G;refine⟨⟨fun j hj=>by simpa using h.ok.ord j hj,h.ok.len,sM⟩,h.n,h.tB,h.q,fun j hj=>?_,sM⟩;simp only[fV]at hj;rw[Co Q];split;grind;exact h.w j hj
def kG.join{N}{r}(h:kG N r)(hN:N+1<=100000)(id w):kG (N+1) (r.join id w).2:=by have up:kG (N+1) r:=⟨h.ok,Fw h.n,hN,h.q,h.w,h.s⟩;unfold Rd.join;split;exact up;split;exact up;obtain⟨q1,q2⟩:=aad (q:=r.fH) (w:=w) h.q.1 h.q.2 G G;have xp:W (r.fH*w)=r.fH*w:=BX G G;have hn:=h.n;refine⟨⟨fun j hj=>?_,sO,sM⟩,sO,hN,h.q,fun j hj=>?_,sM⟩;simp only[c_,pI,v8];rcases eJ.1 hj with hj|hj;have:=h.ok.ord j hj;omega;simp_all;simp only[c_,pI,v8]at hj;rw[ahr hj];split;grind;exact h.w j G
def Rd.vS(r:Rd):Rd:=match r.order with|[]=>r|h::l=>if(bp r.pool h).def_<=0 then{r with pool:=r.pool.set h {bp r.pool h with def_:=W ((bp r.pool h).def_+W (r.fH*(bp r.pool h).w)),turns:=W ((bp r.pool h).turns+1)},order:=l++[h]}else{r with order:=l++[h]}
def kk(d:Int):Nat:=if 0<d then 0 else(1-d).toNat
def ph(i:Nat)(r:Rd):Nat:=r.order.findIdx (· ==i)+r.order.length*kk (bp r.pool i).def_
structure jl(N:Nat)(l:List Int)(i:Nat)(r:Rd):Prop where
 inv:kG N {r with sending:=none}
 mem:i∈r.order
 id:(bp r.pool i).id∈l
def jl.vS{N}{l}{i}{r}(h:jl N l i r)(hd:∀a t,r.order=a::t->¬(0<(bp r.pool a).def_/\(bp r.pool a).id∈l)):jl N l i r.vS/\ph i r.vS<ph i r:=by
 cases I:r.order with
 |nil=>have:=h.mem;simp_all
 |cons a t=>
  have ha:=h.inv.ok.ord a (by rw[I];simp);have hwa:=h.inv.w a ha;obtain⟨w1,w2,sR,ahq⟩:=hwa;have hqa:256<=r.fH*(bp r.pool a).w/\r.fH*(bp r.pool a).w<=16777216:=aad h.inv.q.1 h.inv.q.2 w1 w2;obtain⟨q1,q2⟩:=hqa;have xp:W (r.fH*(bp r.pool a).w)=r.fH*(bp r.pool a).w:=BX (by simp at*;omega) (by simp at*;omega);have hlen:(t++[a]).length=r.order.length:=by rw[I];simp
  have dd:i∈t++[a]:=by have:=h.mem;rw[I]at this;simp at this⊢;exact this.symm
  have Dn:=hd a t I;have ak5:∀j∈t++[a],j<r.pool.length:=fun j hj=>h.inv.ok.ord j (by grind);have hn:=h.inv.n;have tc:=h.inv.ok.len;have dX:∀x y:Nat,(i=a->y<x)->(i≠a->y=x)->(t++[a]).findIdx (· ==i)+r.order.length*y<(a::t).findIdx (· ==i)+r.order.length*x:=by intro x y E F;by_cases hia:i=a;have hy:=E hia;have ai:(t++[a]).findIdx (· ==i)<(t++[a]).length:=ad7 ⟨i,dd,sM⟩;rw[hlen]at ai;have:r.order.length*(y+1)<=r.order.length*x:=Nat.mul_le_mul_left _ hy;grind;grind
  unfold Rd.vS;rw[I];simp only;split;have VH:W ((bp r.pool a).def_+W (r.fH*(bp r.pool a).w))=(bp r.pool a).def_+r.fH*(bp r.pool a).w:=by rw[xp];exact BX (by simp at*;omega) (by simp at*;omega)
  refine⟨⟨⟨⟨fun j hj=>by simp_all,by simp_all,sM⟩,by simp_all,h.inv.tB,h.inv.q,fun j hj=>?_,sM⟩,dd,?_⟩,?_⟩;simp only[fV]at hj;show 1<=(bp (r.pool.set a _) j).w/\_;rw[Co ha];split;simp only[VH];simp at*;omega;exact h.inv.w j hj;show(bp (r.pool.set a _) i).id∈l;rw[Co ha];have:=h.id;split<;>grind;show(t++[a]).findIdx (· ==i)+(t++[a]).length*kk (bp (r.pool.set a _) i).def_<ph i r;unfold ph;rw[hlen,I];rw[<-I];conv=>rhs;rw[I]
  refine fj (dX (kk (bp r.pool i).def_) _ (fun e=>?_) (fun e=>?_)) (by simp_all);subst e;rw[Co ha,au rfl];simp only[VH];unfold kk;split<;>split<;>omega;rw[Co ha,ay e];refine⟨⟨⟨⟨fun j hj=>ak5 j hj,by simp_all,sM⟩,by simp_all,h.inv.tB,h.inv.q,h.inv.w,sM⟩,dd,h.id⟩,?_⟩;show(t++[a]).findIdx (· ==i)+(t++[a]).length*kk (bp r.pool i).def_<ph i r;unfold ph;rw[hlen];conv=>rhs;rw[I]
  refine fj (dX (kk (bp r.pool i).def_) _ (fun e=>?_) (fun e=>rfl)) (by simp_all);subst e;exact absurd ⟨G,h.id⟩ Dn
def jl.found{N}{l}{i a}{aab}{p}{t}{s}(h:jl N l i ⟨aab,p,a::t,s⟩)(hd:0<(bp p a).def_):kG N ⟨aab,p,a::t,some a⟩:=
 ⟨⟨h.inv.ok.ord,h.inv.ok.len,fun j hj=>by simp at hj;subst hj;exact h.inv.ok.ord _ sM⟩,h.inv.n,h.inv.tB,h.inv.q,h.inv.w,fun j hj=>by simp_all⟩
def jl.no{N}{l}{i a}{q}{p}{t}{s}(h:jl N l i ⟨q,p,a::t,s⟩)(hn:¬(0<(bp p a).def_/\(bp p a).id∈l))(hd:¬(bp p a).def_<=0):jl N l i ⟨q,p,t++[a],s⟩/\ph i ⟨q,p,t++[a],s⟩<ph i ⟨q,p,a::t,s⟩:=by
 have:=h.vS fun b ag e=>by simp_all
 unfold Rd.vS at this;grind
def jl.yes{N}{l}{i a}{q}{p}{t}{s}(h:jl N l i ⟨q,p,a::t,s⟩)(hn:¬(0<(bp p a).def_/\(bp p a).id∈l))(hd:(bp p a).def_<=0):jl N l i ⟨q,p.set a ⟨(bp p a).id,(bp p a).w,W ((bp p a).def_+W (q*(bp p a).w)),W ((bp p a).turns+1)⟩,t++[a],s⟩/\ph i ⟨q,p.set a ⟨(bp p a).id,(bp p a).w,W ((bp p a).def_+W (q*(bp p a).w)),W ((bp p a).turns+1)⟩,t++[a],s⟩<ph i ⟨q,p,a::t,s⟩:=by
 have:=h.vS fun b ag e=>by simp_all
 unfold Rd.vS at this;simp_all
end Go.Air
namespace Go.Proofs.YtfkepgkmobgleaaGreatDoor
open Go.Sx Go.Air Tryz
def ur(u:Nat->Nat)(k:Nat)(r:Rd):Hp:=[.fix 127 [.ptr 1 0],.fix 184 [.int .i64 r.fH,.tl 2 r.order.length,sdC u r.sending],.row 182 1 (cG k++r.order.map (gD u)),.asn (aI (fun i=>[u i]) (r.pool.map HD))]
def Xq(u:Nat->Nat)(k)(r)(D:sG r)(id):al prog 259 [.int .i64 id,.ptr 0 0] (ur u k r) fun v I=>v=.bool (decide (0<=r.find id))/\I=ur u k r:=by refine al.ar aj func259 Y rfl ?_;have⟨q,p,aa,sd⟩:=r;rcases sd with _|sd;refine B ?_;refine(ru _ _ _ G _).call [1,2,3] Y Y1 Y4 (rj (B ?_));exact RS;refine B ?_;refine(ru _ _ _ G _).call [1,2,3] Y Y1 Y5 (rj (B ?_));exact RS
def Xa(u:Nat->Nat)(k)(r)(D:sG r)(l)(hl:l.length<=1000000):al prog 320 [.rs 1 (l.map ic),.fn 259 [.ptr 0 0]] (ur u k r) fun v I=>v=.int .i64 (idxOf (fun id=>decide (0<=r.find id)) l)/\I=ur u k r:=by
 refine al.ar aj func320 Y rfl ?_;have⟨q,p,aa,sd⟩:=r;rcases sd with _|sd;refine B ?_;refine b6.cq aj 19 (fun i:{i:Nat//i<=l.length/\lK (fun id=>decide (0<=(Rd.mk q p aa none).find id)) l i}=>[(0,.rs 1 (l.map ic)),(1,.fn 259 [.ptr 0 0]),(7,.int .i64 ((l.map ic).length:Int)),(8,.int .i64 (i.1:Int))]) (fun _=>ur u k ⟨q,p,aa,none⟩) (fun i=>l.length-i.1) ⟨0,cx _,by intro j hj;omega⟩ (.of jx Y wt) ?_;intro i;have Q:=i.2.1;have U:=i.2.2;have hm:(l.map ic).length=l.length:=bh _;refine B ?_;refine dT (fun _=>B ?_) fun _=>B ?_;refine kd G fun x1 d7=>B ?_;refine(Xq _ _ _ G _).call [0,1,2,3] Y Y1 Y4 (rj (B ?_));refine dT (fun _=>B ?_) fun _=>B ?_;exact RI;refine⟨⟨i.1+1,G,U.step ‹_› (by simp[*])⟩,by show l.length-(i.1+1)<l.length-i.1;omega,.of jx Y (B ?_)⟩;exact acx;exact aw9
 refine B ?_;refine b6.cq aj 19 (fun i:{i:Nat//i<=l.length/\lK (fun id=>decide (0<=(Rd.mk q p aa (some sd)).find id)) l i}=>[(0,.rs 1 (l.map ic)),(1,.fn 259 [.ptr 0 0]),(7,.int .i64 ((l.map ic).length:Int)),(8,.int .i64 (i.1:Int))]) (fun _=>ur u k ⟨q,p,aa,some sd⟩) (fun i=>l.length-i.1) ⟨0,cx _,by intro j hj;omega⟩ (.of jx Y wt) ?_;intro i;have U:=i.2.2;have hm:(l.map ic).length=l.length:=bh _;refine B ?_;refine dT (fun _=>B ?_) fun _=>B ?_;refine kd G fun x1 d7=>?_;refine B ?_;refine(Xq _ _ _ G _).call [0,1,2,3] Y Y1 Y5 (rj (B ?_));refine dT (fun _=>B ?_) fun _=>B ?_;exact RI;exact acN;exact aw9
def Gy(u:Nat->Nat)(k)(r)(D:sG r)(l)(hl:l.length<=1000000):al prog 258 [.rs 1 (l.map ic),.fn 259 [.ptr 0 0]] (ur u k r) fun v I=>v=.bool (decide (0<=idxOf (fun id=>decide (0<=r.find id)) l))/\I=ur u k r:=by refine al.ar aj func258 Y rfl ?_;have⟨q,p,aa,sd⟩:=r;rcases sd with _|sd;refine B ?_;refine(Xa _ _ _ G _ G).call [0,1,2,3] Y Y1 Y4 (rj (B ?_));exact RS;refine B ?_;refine(Xa _ _ _ G _ G).call [0,1,2,3] Y Y1 Y5 (rj (B ?_));exact RS
def alZ(l)(x)(hl:l.length<=1000000):al prog 154 [.rs 1 (l.map ic),.int .i64 x] [] (fun s I=>s=.int .i64 (idxOf (fun y=>decide (x=y)) l)/\I=[]):=by refine al.ar aj func154 Y rfl (B ?_);refine b6.cq aj 19 (fun i:{i:Nat//i<=l.length/\lK (fun y=>decide (x=y)) l i}=>[(0,.rs 1 (l.map ic)),(1,.int .i64 x),(7,.int .i64 ((l.map ic).length:Int)),(8,.int .i64 (i.1:Int))]) (fun _=>[]) (fun i=>l.length-i.1) ⟨0,cx _,by intro j hj;omega⟩ (.of [] Y wt) ?_;intro i;have U:=i.2.2;have hm:(l.map ic).length=l.length:=bh _;refine B ?_;refine dT (fun _=>B ?_) fun _=>B ?_;refine kd G fun x1 d7=>B ?_;refine dT (fun _=>B ?_) fun _=>B ?_;refine .same (B ?_);rw[Ah U ‹_› (by simp[*])];exact a6.of [] _ _ Y ⟨rfl,rfl⟩ (B lF);refine⟨⟨i.1+1,G,U.step ‹_› (by simp[*])⟩,by grind,.of [] Y (B ?_)⟩;exact acx;refine .same (B ?_);rw[Ai U G];exact a6.of [] _ _ Y ⟨rfl,rfl⟩ (B lF)
def Ud(l)(x)(hl:l.length<=1000000):al prog 93 [.rs 1 (l.map ic),.int .i64 x] [] (fun s I=>s=.bool (decide (0<=idxOf (fun y=>decide (x=y)) l))/\I=[]):=by refine al.ar aj func93 Y rfl (B ?_);refine(alZ _ _ G).call [] Y Y2 trivial (rj (B ?_));refine a6.of [] _ _ Y ⟨rfl,rfl⟩ (B ?_);exact lF
def Oh{α:Type}{p}{l:List α}:0<=idxOf p l↔ ∃x∈l,p x=true:=by unfold idxOf;grind
def n_{l}{x:Int}:0<=idxOf (fun y=>decide (x=y)) l↔x∈l:=by rw[Oh];simp_all
def jl.cons{N}{l}{i}{r}(h:jl N l i r):∃a t,r.order=a::t:=by have:=h.mem;cases I:r.order<;>simp_all
def Xx{α:Type}{f}{a}{t:List α}{j i}{k}(Q:i=j)(h:k (f a)):BP (cG j++(a::t).map f) i k:=
 ⟨f a,by subst Q;rw[jf (by simp[cG])];simp[cG],h⟩
def GX{n k x}{u}{aa:List Nat}:qP (List.drop n (cG k++aa.map (gD u))++[[.ra x 0]]):=fun e H s hs=>by rcases eJ.1 H with H|H;rcases eJ.1 (List.mem_of_mem_drop H)with H|H;simp[cG]at H;obtain⟨_,rfl⟩:=H;simp at hs;subst hs;exact(jL Y).2;exact Qd u aa e H s hs;simp at H;subst H;simp at hs;subst hs;exact(jL Y).2
def aox{n k a}{u}{t}(hn:n=k+1):List.drop n (cG k++(a::t).map (gD u))++[[.ra (u a) 0]]=(t++[a]).map (gD u):=by subst hn;have e:cG k++(a::t).map (gD u)=(cG k++[gD u a])++t.map (gD u):=sM;rw[e,List.drop_left' (by simp[cG]),dx];rfl
def Rx{ab:Prop}(k:ab:=by refine B ?_;refine kd G fun x1 d7=>B ?_;refine dT (fun _=>?_) fun _=>?_;refine B ?_;refine .same (B ?_);refine⟨k,_,0,1,h,G,B ?_⟩;refine bj.of aea Y ?_ Y;refine B ?_;exact lF;refine B ?_;refine dT (fun _=>?_) fun _=>?_;refine B ?_;refine .same (B ?_);refine⟨k,_,0,1,h,G,B ?_⟩;refine bj.of aea Y ?_ Y;refine B ?_;exact lF;refine B ?_;refine⟨⟨(x.1.1+1,x1),G⟩,by grind,.of jx Y (B ?_)⟩;exact⟨by exact(a_ _ G G).trans sM,wt⟩):ab:=k
def R5{ab:Prop}(k:ab:=by
 conv=>whnf
 refine⟨by(show _=_;rw[aox (by simp[cG];omega)]),?_⟩;conv=>whnf
 exact trivial):ab:=k
def Sa{ab:Prop}(k:ab:=by refine B ?_;refine cc.pool aj il (p:=2) rfl kj rfl (B ?_);refine .same (B ?_);refine⟨k2,⟨q2,p2,a::t,some a⟩,(bp p2 a).id,0,hy.found aM,fun _=>n_.1 aM,B ?_⟩;refine bj.of OX Y ?_ Y;refine B ?_;exact lF):ab:=k
def aoi(u:Nat->Nat)(k){N}{r}(h:kG N r)(l:List Int)(hl:l.length<=1000000):aq prog 190 [.ptr 0 0,.rs 1 (l.map ic)] (gU u k r) fun v I=>∃k' r' a e,kG N r'/\(e=0->a∈l)/\bj 1 v I (.tup [.int .i64 a,.int .i64 e]) (gU u k' r'):=by
 refine aq.ar aj func190 Y rfl ?_;have hm:(l.map ic).length=l.length:=bh _;by_cases hc:0<=idxOf (fun id=>decide (0<=r.find id)) l;have⟨id,hid,hp⟩:=Oh.1 hc;have⟨i0,uT,zX⟩:=Oh.1 (cZ hp);have O:jl N l i0 r:=⟨⟨⟨h.ok.ord,h.ok.len,sM⟩,h.n,h.tB,h.q,h.w,sM⟩,uT,by simp_all⟩;have aw:=h.ok;have⟨q,p,aa,sd⟩:=r;rcases sd with _|sd;refine B ?_;refine b6.cq aj 95 (fun x:{x:Nat×Int//x.1<=l.length}=>[(1,.rs 1 (l.map ic)),(2,.ptr 3 0),(6,.int .i64 x.1.2),(10,.rs 1 (l.map ic)),(11,.int .i64 ((l.map ic).length:Int)),(12,.int .i64 (x.1.1:Int))]) (fun _=>gU u k ⟨q,p,aa,none⟩++[.fix 127 [.ptr 0 0]]) (fun x=>l.length-x.1.1) ⟨(0,-1),cx _⟩ (.of jx Y wt) ?_;intro x;have Q:=x.2;refine B ?_;refine dT (fun _=>?_) fun _=>?_;refine B ?_;refine kd G fun x1 d7=>B (dT (fun _=>?_) fun _=>?_);refine B ?_;refine .same (B ?_);refine⟨k,_,0,1,h,G,B ?_⟩;exact v6;refine B ?_;refine dT (fun _=>?_) fun _=>?_;refine B ?_;refine .same (B ?_);refine⟨k,_,0,1,h,G,B ?_⟩;exact v6;refine B ?_;refine⟨⟨(x.1.1+1,x1),G⟩,by grind,.of jx Y (B ?_)⟩;exact acx;refine B ?_;refine .same (B ?_);refine(Gy _ _ _ G _ G).call [3,0,1,2] Y Y1 Y4 (rj ?_);conv=>whnf
 refine dV sO (B ?_);refine b6.cq aj 95 (fun y:{y:Nat×Rd//jl N l i0 y.2}=>[(1,.rs 1 (l.map ic)),(2,.ptr 3 0)]) (fun y=>[.fix 184 [.int .i64 y.1.2.fH,.tl 4 y.1.2.order.length,.nilp],.dead,.asn (aI (fun i=>[u i]) (y.1.2.pool.map HD)),.fix 127 [.ptr 0 0],.row 182 1 (cG y.1.1++y.1.2.order.map (gD u))]) (fun y=>ph i0 y.1.2) ⟨(k,⟨q,p,aa,none⟩),(fun _:x.1.1<=l.length=>O) Q⟩ (.cm (lS [1,0,3,4,2]) Y Y wt) ?_;rintro⟨⟨k2,q2,p2,o2,s2⟩,hy⟩;replace hy:jl N l i0 ⟨q2,p2,o2,s2⟩:=hy;obtain⟨a,t,rfl⟩:∃a t,o2=a::t:=jl.cons hy;have nR:a<p2.length:=hy.inv.ok.ord a sM;have kj:=GC nR;refine B ?_;refine dt sM (B ?_);refine Xx (by simp[cG]) (B ?_);refine cc.pool aj il (p:=2) rfl kj rfl (B ?_);refine dT (fun _=>?_) fun _=>?_;refine B ?_;refine cc.pool aj il (p:=2) rfl kj rfl (B ?_);refine(Ud _ _ G).call [] Y Y2 trivial (rj (B ?_));refine dT (fun _=>?_) fun _=>?_;exact Sa;refine B ?_;refine cc.pool aj il (p:=2) rfl kj rfl ?_;conv=>whnf
 refine⟨Y,?_⟩;conv=>whnf
 refine dV sO ?_;conv=>whnf
 refine cf.norm (cf.fQ mixed aj (B ?_));refine dt sO (B ?_);refine dt sO (B ?_);refine dt (by(have:=hy.inv.ok.len;simp[jr]at*;omega)) ?_;conv=>whnf
 refine⟨by kernel_rfl,?_⟩;conv=>whnf
 refine⟨6,_,_,rfl,GX,fun k3=>B ?_⟩;(refine⟨⟨(k3,⟨q2,p2,t++[a],s2⟩),(hy.no (by rintro⟨_,nW⟩;have:=n_.2 nW;omega) G).1⟩,(hy.no (by rintro⟨_,nW⟩;have:=n_.2 nW;omega) G).2,.cm Ix Y Y ?_⟩);conv=>whnf
 refine⟨Y,?_⟩;conv=>whnf
 refine⟨Y,?_⟩;conv=>whnf
 refine⟨sM,?_⟩;conv=>whnf
 refine⟨Y,?_⟩;exact R5;refine B ?_;refine cc.pool aj il (p:=2) rfl kj rfl ?_;conv=>whnf
 refine⟨Y,?_⟩;conv=>whnf
 refine gX sO ?_;conv=>whnf
 refine cf.fQ mixed aj (B ?_);refine cc.pool aj il (p:=2) rfl kj rfl (B ?_);refine cc.pool aj il (p:=2) rfl kj rfl (B ?_);refine gV.pool aj il ⟨(bp p2 a).id,(bp p2 a).w,W ((bp p2 a).def_+W (q2*(bp p2 a).w)),(bp p2 a).turns⟩ (p:=2) rfl kj rfl trivial (B ?_);refine cc.pool aj il (p:=2) rfl (qK nR) rfl ?_;refine B ?_;refine gV.pool aj il ⟨(bp p2 a).id,(bp p2 a).w,W ((bp p2 a).def_+W (q2*(bp p2 a).w)),W ((bp p2 a).turns+1)⟩ (p:=2) rfl (qK nR) rfl trivial ?_;conv=>whnf
 refine⟨Y,?_⟩;conv=>whnf
 refine⟨Y,?_⟩;conv=>whnf
 refine cf.norm (cf.fQ mixed aj ?_);conv=>whnf
 refine dt sO (B ?_);refine dt sO (B ?_);refine dt (by(have:=hy.inv.ok.len;simp[jr]at*;omega)) (B ?_);refine⟨6,_,_,rfl,GX,fun k3=>B ?_⟩;(refine⟨⟨(k3,⟨q2,p2.set a ⟨(bp p2 a).id,(bp p2 a).w,W ((bp p2 a).def_+W (q2*(bp p2 a).w)),W ((bp p2 a).turns+1)⟩,t++[a],s2⟩),(hy.yes G G).1⟩,(hy.yes G G).2,.cm Ix Y Y ?_⟩);conv=>whnf
 refine⟨Y,?_⟩;conv=>whnf
 refine⟨Y,?_⟩;conv=>whnf
 refine⟨sM,?_⟩;conv=>whnf
 refine⟨sM,?_⟩;exact R5;refine B ?_;refine b6.cq aj 95 (fun x:{x:Nat×Int//x.1<=l.length}=>[(1,.rs 1 (l.map ic)),(2,.ptr 3 0),(6,.int .i64 x.1.2),(10,.rs 1 (l.map ic)),(11,.int .i64 ((l.map ic).length:Int)),(12,.int .i64 (x.1.1:Int))]) (fun _=>gU u k ⟨q,p,aa,some sd⟩++[.fix 127 [.ptr 0 0]]) (fun x=>l.length-x.1.1) ⟨(0,-1),cx _⟩ (.of jx Y ?_) ?_;skip;exact wt;skip;intro x;have Q:=x.2;refine B ?_;refine dT (fun _=>?_) fun _=>?_;exact Rx;refine B ?_;refine .same (B ?_);refine(Gy _ _ _ G _ G).call [3,0,1,2] Y Y1 Y5 (rj ?_);conv=>whnf
 refine dV sO ?_;conv=>whnf
 refine b6.cq aj 95 (fun y:{y:Nat×Rd//jl N l i0 y.2}=>[(1,.rs 1 (l.map ic)),(2,.ptr 3 0)]) (fun y=>[.fix 184 [.int .i64 y.1.2.fH,.tl 4 y.1.2.order.length,.ra (u sd) 0],.dead,.asn (aI (fun i=>[u i]) (y.1.2.pool.map HD)),.fix 127 [.ptr 0 0],.row 182 1 (cG y.1.1++y.1.2.order.map (gD u))]) (fun y=>ph i0 y.1.2) ⟨(k,⟨q,p,aa,some sd⟩),(fun _:x.1.1<=l.length=>O) Q⟩ (.cm (lS [1,0,3,4,2]) Y Y ?_) ?_;skip;conv=>whnf
 refine⟨Y,?_⟩;conv=>whnf
 refine⟨Y,?_⟩;exact act;skip;rintro⟨⟨k2,q2,p2,o2,s2⟩,hy⟩;replace hy:jl N l i0 ⟨q2,p2,o2,s2⟩:=hy;obtain⟨a,t,rfl⟩:∃a t,o2=a::t:=jl.cons hy;have nR:a<p2.length:=hy.inv.ok.ord a sM;have kj:=GC nR;refine B ?_;refine dt sM (B ?_);refine Xx (by simp[cG]) (B ?_);refine cc.pool aj il (p:=2) rfl kj rfl (B ?_);refine dT (fun _=>?_) fun _=>?_;refine B ?_;refine cc.pool aj il (p:=2) rfl kj rfl (B ?_);refine(Ud _ _ G).call [] Y Y2 trivial (rj (B ?_));refine dT (fun _=>?_) fun _=>?_;exact Sa;refine B ?_;refine cc.pool aj il (p:=2) rfl kj rfl ?_;conv=>whnf
 refine⟨Y,?_⟩;conv=>whnf
 refine dV sO ?_;conv=>whnf
 refine cf.norm (cf.fQ mixed aj (B ?_));refine dt sO (B ?_);refine dt sO (B ?_);refine dt (by(have:=hy.inv.ok.len;simp[jr]at*;omega)) (B ?_);refine⟨6,_,_,rfl,GX,fun k3=>B ?_⟩;(refine⟨⟨(k3,⟨q2,p2,t++[a],s2⟩),(hy.no (by rintro⟨_,nW⟩;have:=n_.2 nW;omega) G).1⟩,(hy.no (by rintro⟨_,nW⟩;have:=n_.2 nW;omega) G).2,.cm Ix Y Y ?_⟩);conv=>whnf
 refine⟨Y,?_⟩;conv=>whnf
 refine⟨Y,?_⟩;conv=>whnf
 refine⟨sM,?_⟩;conv=>whnf
 refine⟨Y,?_⟩;conv=>whnf
 refine⟨Y,?_⟩;conv=>whnf
 refine⟨Y,?_⟩;exact R5;refine B ?_;refine cc.pool aj il (p:=2) rfl kj rfl ?_;conv=>whnf
 refine⟨Y,?_⟩;conv=>whnf
 refine gX sO ?_;conv=>whnf
 refine cf.fQ mixed aj (B ?_);refine cc.pool aj il (p:=2) rfl kj rfl (B ?_);refine cc.pool aj il (p:=2) rfl kj rfl (B ?_);refine gV.pool aj il ⟨(bp p2 a).id,(bp p2 a).w,W ((bp p2 a).def_+W (q2*(bp p2 a).w)),(bp p2 a).turns⟩ (p:=2) rfl kj rfl trivial (B ?_);refine cc.pool aj il (p:=2) rfl (qK nR) rfl ?_;refine B ?_;refine gV.pool aj il ⟨(bp p2 a).id,(bp p2 a).w,W ((bp p2 a).def_+W (q2*(bp p2 a).w)),W ((bp p2 a).turns+1)⟩ (p:=2) rfl (qK nR) rfl trivial ?_;conv=>whnf
 refine⟨Y,?_⟩;conv=>whnf
 refine⟨Y,?_⟩;conv=>whnf
 refine cf.norm (cf.fQ mixed aj ?_);conv=>whnf
 refine dt sO (B ?_);refine dt sO (B ?_);refine dt (by(have:=hy.inv.ok.len;simp[jr]at*;omega)) (B ?_);refine⟨6,_,_,rfl,GX,fun k3=>B ?_⟩;(refine⟨⟨(k3,⟨q2,p2.set a ⟨(bp p2 a).id,(bp p2 a).w,W ((bp p2 a).def_+W (q2*(bp p2 a).w)),W ((bp p2 a).turns+1)⟩,t++[a],s2⟩),(hy.yes G G).1⟩,(hy.yes G G).2,.cm Ix Y Y ?_⟩);conv=>whnf
 refine⟨Y,?_⟩;conv=>whnf
 refine⟨Y,?_⟩;conv=>whnf
 refine⟨sM,?_⟩;conv=>whnf
 refine⟨Y,?_⟩;conv=>whnf
 refine⟨Y,?_⟩;conv=>whnf
 refine⟨sM,?_⟩;exact R5;have aw:=h.ok;have⟨q,p,aa,sd⟩:=r;rcases sd with _|sd;refine B ?_;refine b6.cq aj 95 (fun x:{x:Nat×Int//x.1<=l.length}=>[(1,.rs 1 (l.map ic)),(2,.ptr 3 0),(6,.int .i64 x.1.2),(10,.rs 1 (l.map ic)),(11,.int .i64 ((l.map ic).length:Int)),(12,.int .i64 (x.1.1:Int))]) (fun _=>gU u k ⟨q,p,aa,none⟩++[.fix 127 [.ptr 0 0]]) (fun x=>l.length-x.1.1) ⟨(0,-1),cx _⟩ (.of jx Y ?_) ?_;skip;exact wt;skip;intro x;have Q:=x.2;refine B ?_;refine dT (fun _=>?_) fun _=>?_;exact Rx;refine B ?_;refine .same (B ?_);refine(Gy _ _ _ G _ G).call [3,0,1,2] Y Y1 Y4 (rj ?_);conv=>whnf
 refine gX sO ?_;conv=>whnf
 refine⟨k,_,0,5,h,G,B ?_⟩;exact v6;refine B ?_;refine b6.cq aj 95 (fun x:{x:Nat×Int//x.1<=l.length}=>[(1,.rs 1 (l.map ic)),(2,.ptr 3 0),(6,.int .i64 x.1.2),(10,.rs 1 (l.map ic)),(11,.int .i64 ((l.map ic).length:Int)),(12,.int .i64 (x.1.1:Int))]) (fun _=>gU u k ⟨q,p,aa,some sd⟩++[.fix 127 [.ptr 0 0]]) (fun x=>l.length-x.1.1) ⟨(0,-1),cx _⟩ (.of jx Y ?_) ?_;skip;exact wt;skip;intro x;have Q:=x.2;refine B ?_;refine dT (fun _=>?_) fun _=>?_;exact Rx;refine B ?_;refine .same (B ?_);refine(Gy _ _ _ G _ G).call [3,0,1,2] Y Y1 Y5 (rj ?_);conv=>whnf
 refine gX sO ?_;conv=>whnf
 refine⟨k,_,0,5,h,G,B ?_⟩;exact v6
def Ec(u:Nat->Nat)(k)(r):ef (gU u k r):=by
 unfold gU;refine eW (fun s hs=>?_) (eW (fun e H s hs=>?_) (eW trivial nc));simp at hs;rcases hs with rfl|rfl|rfl;exact(jL Y).1;exact YY _ _;cases r.sending with|none=>exact(jL Y).1|some i=>exact(jL Y).1
 rcases eJ.1 H with H|H;simp[cG]at H;obtain⟨_,rfl⟩:=H;simp at hs;subst hs;exact(jL Y).1;obtain⟨i,_,rfl⟩:=ew.1 H;unfold gD at hs;simp at hs;subst hs;exact(jL Y).1
def amo(u:Nat->Nat)(k)(r)(D:sG r)(id w)(h0:0<=id)(E:id<16)(w0:1<=w)(w1:w<=16)(hf:0<=r.find id):aq prog 489 [.ptr 0 0,.int .i64 id,.int .i64 w] (gU u k r) fun v I=>bj 1 v I .any (gU u k r):=by refine aq.ar aj func489 Y rfl ?_;have⟨q,p,aa,sd⟩:=r;rcases sd with _|sd;refine B ?_;refine(ru _ _ _ G _).call [0,1,2] Y Y1 Y4 (rj (B ?_));exact v6;refine B ?_;refine(ru _ _ _ G _).call [0,1,2] Y Y1 Y5 (rj (B ?_));exact v6
def fI(iQ N:Nat):fy:=nO (fun x:(Nat->Nat)×Nat×Rd=>kG N x.2.2) fun x=>cL (gU x.1 x.2.1 x.2.2) [iQ]
def arj(iQ N):gv (fI iQ N):=L3 fun x _=>om (Ec _ _ _) _
def amq(iQ N)(hN:N+1<=100000)(id w)(h0:0<=id)(E:id<16)(w0:1<=w)(w1:w<=16):aL prog 489 [.ra iQ 0,.int .i64 id,.int .i64 w] (fI iQ N) .any (fI iQ (N+1)):=by refine .tF (ad:=fun x:(Nat->Nat)×Nat×Rd=>gU x.1 x.2.1 x.2.2) (fun x=>Ec _ _ _) (args:=[.ptr 0 0,.int .i64 id,.int .i64 w]) ⟨rfl,rfl,rfl,rfl,trivial⟩ fun⟨u,k,r⟩hx=>?_;have hx:=hx;by_cases hf:r.find id<0;exact(amm u k r hx.ok id w h0 E w0 w1 hf).mono fun s h'⟨g',k',h⟩=>⟨(g',k',(r.join id w).2),hx.join hN id w,h.any⟩;exact(amo u k r hx.ok id w h0 E w0 w1 G).mono fun s h' h=>⟨(u,k,r),⟨hx.ok,Fw hx.n,hN,hx.q,hx.w,hx.s⟩,h⟩
def amG(iQ N)(id):aL prog 490 [.ra iQ 0,.int .i64 id] (fI iQ N) .any (fI iQ N):=by refine .tF (ad:=fun x:(Nat->Nat)×Nat×Rd=>gU x.1 x.2.1 x.2.2) (fun x=>Ec _ _ _) (args:=[.ptr 0 0,.int .i64 id]) ⟨rfl,rfl,rfl,trivial⟩ fun⟨u,k,r⟩hx=>?_;have hx:=hx;exact(amF u k r hx.ok id).mono fun s h' h=>⟨(u,k,(r.leave id).2),hx.leave id,h.any⟩
def agE(iQ N)(t):aL prog 191 [.ra iQ 0,.int .i64 t] (fI iQ N) .any (fI iQ N):=by refine .tF (ad:=fun x:(Nat->Nat)×Nat×Rd=>gU x.1 x.2.1 x.2.2) (fun x=>Ec _ _ _) (args:=[.ptr 0 0,.int .i64 t]) ⟨rfl,rfl,rfl,trivial⟩ fun⟨u,k,r⟩hx=>?_;have hx:=hx;exact(agD u k r hx.ok t).mono fun s h' h=>⟨(u,k,(r.uD t).2),hx.uD t,h.any⟩
def ar3(iQ N)(l:List Int)(hl:l.length<=1000000):k9 prog 190 [.ra iQ 0,.rs 1 (l.map ic)] (fI iQ N) fun s A'=>∃a e,(e=0->a∈l)/\s=.tup [.int .i64 a,.int .i64 e]/\A'=fI iQ N:=by
 have:=k9.of (P:=prog) (f:=190) (ad:=fun x:(Nat->Nat)×Nat×Rd=>gU x.1 x.2.1 x.2.2) (fun x=>Ec _ _ _) (u:=iQ) (args:=[.ptr 0 0,.rs 1 (l.map ic)]) (bH:=[.ra iQ 0,.rs 1 (l.map ic)]) (aV:=fun x=>kG N x.2.2)
  (R:=fun s Q'=>∃a e,(e=0->a∈l)/\s=.tup [.int .i64 a,.int .i64 e]/\Q'=fun x=>kG N x.2.2) ⟨rfl,rfl,rfl,trivial⟩ fun⟨u,k,r⟩hx=>(aoi u k hx l hl).mono fun s h'⟨k',r',a,e,E,F,h3⟩=>⟨_,_,(u,k',r'),⟨a,e,F,rfl,rfl⟩,E,h3⟩
 exact⟨fun h p hp=>(this.ok h p hp).mono fun s h'⟨A',⟨Q',⟨a,e,E,F,h3⟩,h4⟩,h5⟩=>⟨A',⟨a,e,E,F,by rw[h4,h3];rfl⟩,h5⟩⟩
def YN(q)(h0:256<=q)(E:q<=1048576):mM prog 39 [.int .i64 q] (fun u=>.tup [.ra u 0,.int .i64 0]) [.fix 184 [.int .i64 q,.tl 1 0,.nilp],.row 182 1 []]:=by refine .of trivial (eW (fun s hs=>?_) (eW (by simp[k_]) nc)) ?_;simp at hs;rcases hs with rfl|rfl|rfl;exact(jL Y).1;exact YY _ _;exact(jL Y).1;refine aq.ar aj func39 Y rfl (B ?_);exact acK
def ark(q)(h0:256<=q)(E:q<=1048576):wv prog 39 [.int .i64 q] (fun u=>.tup [.ra u 0,.int .i64 0]) fun u=>fI u 0:=
 (YN q h0 E).gR (fun u w ci h=>⟨(fun _=>0,0,⟨q,[],[],none⟩),⟨⟨sM,sM,sM⟩,sM,sM,⟨h0,E⟩,sM,sM⟩,ZE (YN q h0 E).vn h⟩) fun u=>arj u 0
end Go.Proofs.YtfkepgkmobgleaaGreatDoor
namespace Go.Air
open Go.Sx
structure Lp where
 aR:Int
 len:Int
 st:Int
 bZ:Int
 deriving Inhabited,DecidableEq
def Lp.cells(p:Lp):List SV:=[.int .i64 p.aR,.int .i64 p.len,.int .i64 p.st,.int .i64 p.bZ]
structure Fs where
 acc:Int
 del:Int
 uG:Int
 b9:Int
 ord:List Int
 deriving Inhabited
structure Lf where
 pks:List Lp
 f0:Fs
 f1:Fs
 f2:Fs
 f3:Fs
 deriving Inhabited
def rv(f:Int):Prop:=f=((0:Nat):Int)\/f=((1:Nat):Int)\/f=((2:Nat):Int)\/f=((3:Nat):Int)
structure ey(N:Nat)(sts:List Int)(x:Lf):Prop where
 sts:x.pks.map (·.st)=sts
 fl:∀p∈x.pks,rv p.aR
 n:x.pks.length<=100000
 o0:x.f0.ord.length<=N
 o1:x.f1.ord.length<=N
 o2:x.f2.ord.length<=N
 o3:x.f3.ord.length<=N
 N:N<=1000000000
def a8(l:List Lp)(id:Int):Lp:=l.getD (id-1).toNat ⟨0,0,0,0⟩
def tx(sts:List Int)(id:Int):Int:=if 1<=id/\id<=sts.length then sts.getD (id-1).toNat 0 else 0
def It(sts:List Int)(id:Int):Prop:=1<=id/\id<=sts.length
instance(sts:List Int)(id:Int):Decidable (It sts id):=by unfold It;infer_instance
def iZ(sts:List Int)(id s:Int):List Int:=if It sts id/\(tx sts id=1\/tx sts id=2)then sts.set (id-1).toNat s else sts
def Iu(sts)(id s):(iZ sts id s).length=sts.length:=by unfold iZ;split<;>simp
def Ax{l}{id}(E:1<=id)(F:id<=l.length):l[(id-1).toNat]?=some (a8 l id):=by unfold a8;rw[mK,aD G];rfl
def OS{l}{sts}{id}(hs:l.map (·.st)=sts)(E:1<=id)(F:id<=l.length):tx sts id=(a8 l id).st:=by
 have hl:sts.length=l.length:=by rw[<-hs];simp
 unfold tx;rw[au ⟨E,G⟩,<-hs,mK,bz,Ax E F];rfl
def ey.put{N}{sts}{x}(h:ey N sts x){id s w:Int}(E:1<=id)(F:id<=x.pks.length):ey N (sts.set (id-1).toNat s) {x with pks:=x.pks.set (id-1).toNat ⟨(a8 x.pks id).aR,(a8 x.pks id).len,s,w⟩}:=by refine⟨?_,fun p hp=>?_,by simpa using h.n,h.o0,h.o1,h.o2,h.o3,h.N⟩;show(x.pks.set _ _).map _=_;rw[iH,h.sts];rcases Kt hp with hp|rfl;exact h.fl p hp;have:=h.fl _ (bN (Ax E F));exact this
end Go.Air
namespace Go.Proofs.YtfkepgkmobgleaaGreatDoor
open Go.Sx Go.Air Tryz
def HL(x:Lf):Hp:=[.fix 116 ([.sl 1,.any,.int .i64 x.f0.acc,.int .i64 x.f0.del,.int .i64 x.f0.uG,.int .i64 x.f0.b9,.any,.sl 2,.any,.int .i64 x.f1.acc,.int .i64 x.f1.del,.int .i64 x.f1.uG,.int .i64 x.f1.b9,.any,.sl 3,.any,.int .i64 x.f2.acc,.int .i64 x.f2.del,.int .i64 x.f2.uG,.int .i64 x.f2.b9,.any,.sl 4,.any,.int .i64 x.f3.acc,.int .i64 x.f3.del,.int .i64 x.f3.uG,.int .i64 x.f3.b9,.any,.sl 5]++List.replicate 196 .any),
 .row 299 4 (x.pks.map Lp.cells),.row 3 1 (x.f0.ord.map ic),.row 3 1 (x.f1.ord.map ic),.row 3 1 (x.f2.ord.map ic),.row 3 1 (x.f3.ord.map ic)]
def atz{N}{sts}{x}(h:ey N sts x)(id):aq prog 212 [.ptr 0 0,.int .i64 id] (HL x) fun v I=>bj 1 v I (.int .i64 (tx sts id)) (HL x):=by
 refine aq.ar aj func212 Y rfl ?_;have hn:=h.n;have hs:sts.length=x.pks.length:=by rw[<-h.sts];simp
 by_cases D:1<=id/\id<=x.pks.length;have e:=OS h.sts D.1 D.2;have hw:IntKind.i64.wrap (id-1)=id-1:=a_ _ G G;have U:(x.pks.map Lp.cells)[(id-1).toNat]?=some (a8 x.pks id).cells:=by rw[bz,Ax D.1 D.2];rfl
 refine B ?_;refine aq.ar aj func182 Y rfl (B ?_);(refine⟨(a8 x.pks id).cells,by rw[hw];exact U,B ?_⟩);rw[e];exact BA;have e:tx sts id=0:=by unfold tx;rw[ay (by rw[hs];exact D)]
 refine B ?_;refine aq.ar aj func182 Y rfl (B ?_);refine dT (fun _=>B ?_) fun _=>B ?_;rw[e];exact BA;rw[e];exact BA
def nk{α:Type}{l:List α}{i:Nat}{a b:α}(h:l[i]?=some b):(l.set i a)[i]?=some a:=by rw[bu,au rfl,au (ao.1 h).1]
def kZ{N:Nat}{sts:List Int}{x:Lf}(h:ey N sts x){id:Int}(E:1<=id)(F:id<=x.pks.length):(x.pks.map Lp.cells).length=x.pks.length/\x.pks.length<=100000/\sts.length=x.pks.length/\IntKind.i64.wrap (id-1)=id-1/\(x.pks.map Lp.cells)[(id-1).toNat]?=some (a8 x.pks id).cells:=by have hn:=h.n;exact⟨bh _,hn,by rw[<-h.sts];simp,a_ _ G G,by rw[bz,Ax E F];rfl⟩
def vi{aa:List Int}{z:Int}{N:Nat}(hz:aa[aa.length-1]?=some z)(I:aa.length<=N)(hN:N<=1000000000):(aa.map ic).length=aa.length/\aa.length<=1000000000/\0<aa.length/\IntKind.i64.wrap (((aa.map ic).length:Int)-1)=((aa.length-1:Nat):Int)/\(aa.map ic)[aa.length-1]?=some (ic z):=by
 have dW:=dF I hN;have hp:0<aa.length:=by rcases yP aa.length with h0|h0;(rw[pH h0]at hz;simp at hz);exact h0
 exact⟨bh _,dW,hp,by rw[bh,a_ _ G G];omega,by rw[bz,hz];rfl⟩
abbrev AcS(i:Nat)(u:Lf->Fs)(s:Lf->Fs->Lf):Prop:=∀{N:Nat}{sts:List Int}{x:Lf}(h:ey N sts x)(len:Int)(E:1<=len)(F:len<=4096),aq prog 84 [.ptr 0 0,.int .i64 ((i:Nat):Int),.int .i64 len] (HL x) fun v I=>bj 1 v I (.tup [.int .i64 ((x.pks.map Lp.cells++[[SV.int .i64 ((i:Nat):Int),SV.int .i64 len,SV.int .i64 1,SV.int .i64 0]]).length:Int),.int .i64 0]) (HL (s {x with pks:=x.pks++[⟨((i:Nat):Int),len,1,0⟩]} ⟨IntKind.i64.wrap ((u x).acc+1),(u x).del,(u x).uG,(u x).b9,(u x).ord⟩))
abbrev F_(i:Nat)(u:Lf->Fs)(s:Lf->Fs->Lf):Prop:=∀(x:Lf),aq prog 82 [.ptr 0 0,.int .i64 ((i:Nat):Int)] (HL x) fun v I=>bj 1 v I .any (HL (s x ⟨(u x).acc,(u x).del,IntKind.i64.wrap ((u x).uG+1),(u x).b9,(u x).ord⟩))
abbrev FU(i:Nat)(u:Lf->Fs)(s:Lf->Fs->Lf):Prop:=∀{N:Nat}{sts:List Int}{x:Lf}(h:ey N sts x)(id bZ:Int)(E:1<=id)(F:id<=x.pks.length)(hc:(a8 x.pks id).st=1\/(a8 x.pks id).st=2)(w1:1<=bZ)(w2:bZ<=4)(hf:(a8 x.pks id).aR=((i:Nat):Int)),aq prog 120 [.ptr 0 0,.int .i64 id,.int .i64 bZ] (HL x) fun v I=>bj 1 v I .any (HL (s {x with pks:=(x.pks.set (id-1).toNat ⟨(a8 x.pks id).aR,(a8 x.pks id).len,4,bZ⟩)} ⟨(u x).acc,(u x).del,IntKind.i64.wrap ((u x).uG+1),(u x).b9,(u x).ord⟩))
abbrev DoS(i:Nat)(u:Lf->Fs):Prop:=∀{N:Nat}{sts:List Int}{x:Lf}(h:ey N sts x)(id z:Int)(E:1<=id)(F:id<=x.pks.length)(hc:(a8 x.pks id).st=2)(hf:(a8 x.pks id).aR=((i:Nat):Int))(hz:(u x).ord[(u x).ord.length-1]?=some z)(Q:id<z),aq prog 204 [.ptr 0 0,.int .i64 id] (HL x) fun v I=>bj 1 v I .any (HL x)
abbrev dlU(u:Lf->Fs)(s:Lf->Fs->Lf)(x:Lf)(id:Int):Lf:=s {x with pks:=(x.pks.set (id-1).toNat ⟨(a8 x.pks id).aR,(a8 x.pks id).len,3,(a8 x.pks id).bZ⟩)} ⟨(u x).acc,IntKind.i64.wrap ((u x).del+1),(u x).uG,IntKind.i64.wrap ((u x).b9+(a8 x.pks id).len),(u x).ord++[id]⟩
abbrev FR(i:Nat)(u:Lf->Fs)(s:Lf->Fs->Lf):Prop:=∀{N:Nat}{sts:List Int}{x:Lf}(h:ey N sts x)(id z:Int)(E:1<=id)(F:id<=x.pks.length)(hc:(a8 x.pks id).st=2)(hf:(a8 x.pks id).aR=((i:Nat):Int))(hz:(u x).ord[(u x).ord.length-1]?=some z)(Q:z<=id),aq prog 204 [.ptr 0 0,.int .i64 id] (HL x) fun v I=>bj 1 v I .any (HL (dlU u s x id))
abbrev FQ(i:Nat)(u:Lf->Fs)(s:Lf->Fs->Lf):Prop:=∀{N:Nat}{sts:List Int}{x:Lf}(h:ey N sts x)(id:Int)(E:1<=id)(F:id<=x.pks.length)(hc:(a8 x.pks id).st=2)(hf:(a8 x.pks id).aR=((i:Nat):Int))(hz:(u x).ord=[]),aq prog 204 [.ptr 0 0,.int .i64 id] (HL x) fun v I=>bj 1 v I .any (HL (dlU u s x id))
def Il{ab:Prop}(k:ab:=by refine aq.ar aj func84 Y rfl ?_;have hl:(x.pks.map Lp.cells).length=x.pks.length:=bh _;have hn:=h.n;refine B ?_;refine aq.ar aj func148 Y rfl (B ?_);refine⟨_,rfl,B ?_⟩;refine⟨_,rfl,B ?_⟩;refine bj.of (lS [1,8,3,4,5,6]) Y ?_ Y;refine B ?_;(repeat(first|exact trivial|rfl|(refine⟨rfl,?_⟩;(conv=>whnf))));(repeat(first|exact trivial|rfl|(refine⟨rfl,?_⟩;(conv=>whnf))|(refine⟨by first|(simp[Lp.cells];done)|omega|simp,?_⟩;(conv=>whnf))|(first|(simp[Lp.cells];done)|(simp;done))))):ab:=k
def aez{N:Nat}{sts:List Int}{x:Lf}(h:ey N sts x)(len:Int)(E:1<=len)(F:len<=4096):aq prog 84 [.ptr 0 0,.int .i64 ((0:Nat):Int),.int .i64 len] (HL x) fun v I=>bj 1 v I (.tup [.int .i64 ((x.pks.map Lp.cells++[[SV.int .i64 ((0:Nat):Int),SV.int .i64 len,SV.int .i64 1,SV.int .i64 0]]).length:Int),.int .i64 0]) (HL {x with pks:=x.pks++[⟨((0:Nat):Int),len,1,0⟩],f0:={x.f0 with acc:=IntKind.i64.wrap (x.f0.acc+1)}}):=by exact Il
def Ir{ab:Prop}(k:ab:=by refine aq.ar aj func82 Y rfl (B ?_);refine aq.ar aj func148 Y rfl (B ?_);refine⟨_,rfl,B ?_⟩;refine⟨_,rfl,B ?_⟩;refine bj.of rX Y ?_ Y;refine B ?_;exact lF):ab:=k
def ars:F_ 0 (·.f0) fun x f=>{x with f0:=f}:=by intro x;exact Ir
def aeA{N:Nat}{sts:List Int}{x:Lf}(h:ey N sts x)(len:Int)(E:1<=len)(F:len<=4096):aq prog 84 [.ptr 0 0,.int .i64 ((1:Nat):Int),.int .i64 len] (HL x) fun v I=>bj 1 v I (.tup [.int .i64 ((x.pks.map Lp.cells++[[SV.int .i64 ((1:Nat):Int),SV.int .i64 len,SV.int .i64 1,SV.int .i64 0]]).length:Int),.int .i64 0]) (HL {x with pks:=x.pks++[⟨((1:Nat):Int),len,1,0⟩],f1:={x.f1 with acc:=IntKind.i64.wrap (x.f1.acc+1)}}):=by exact Il
def art:F_ 1 (·.f1) fun x f=>{x with f1:=f}:=by intro x;exact Ir
def aeB{N:Nat}{sts:List Int}{x:Lf}(h:ey N sts x)(len:Int)(E:1<=len)(F:len<=4096):aq prog 84 [.ptr 0 0,.int .i64 ((2:Nat):Int),.int .i64 len] (HL x) fun v I=>bj 1 v I (.tup [.int .i64 ((x.pks.map Lp.cells++[[SV.int .i64 ((2:Nat):Int),SV.int .i64 len,SV.int .i64 1,SV.int .i64 0]]).length:Int),.int .i64 0]) (HL {x with pks:=x.pks++[⟨((2:Nat):Int),len,1,0⟩],f2:={x.f2 with acc:=IntKind.i64.wrap (x.f2.acc+1)}}):=by exact Il
def aru:F_ 2 (·.f2) fun x f=>{x with f2:=f}:=by intro x;exact Ir
def aeC{N:Nat}{sts:List Int}{x:Lf}(h:ey N sts x)(len:Int)(E:1<=len)(F:len<=4096):aq prog 84 [.ptr 0 0,.int .i64 ((3:Nat):Int),.int .i64 len] (HL x) fun v I=>bj 1 v I (.tup [.int .i64 ((x.pks.map Lp.cells++[[SV.int .i64 ((3:Nat):Int),SV.int .i64 len,SV.int .i64 1,SV.int .i64 0]]).length:Int),.int .i64 0]) (HL {x with pks:=x.pks++[⟨((3:Nat):Int),len,1,0⟩],f3:={x.f3 with acc:=IntKind.i64.wrap (x.f3.acc+1)}}):=by exact Il
def arv:F_ 3 (·.f3) fun x f=>{x with f3:=f}:=by intro x;exact Ir
def RQ{ab:Prop}(k:ab:=by have hl:(x.pks.map Lp.cells).length=x.pks.length:=bh _;have hn:=h.n;refine B ?_;refine aq.ar aj func182 Y rfl (B ?_);refine dT (fun _=>B ?_) fun _=>B ?_;refine bj.of rX Y ?_ Y;refine B ?_;exact lF;refine bj.of rX Y ?_ Y;refine B ?_;exact lF):ab:=k
def asP{N:Nat}{sts:List Int}{x:Lf}(h:ey N sts x)(id:Int)(D:¬(1<=id/\id<=x.pks.length)):aq prog 129 [.ptr 0 0,.int .i64 id] (HL x) fun v I=>bj 1 v I .any (HL x):=by refine aq.ar aj func129 Y rfl ?_;exact RQ
def RF{ab:Prop}(k:ab:=by (refine⟨(a8 x.pks id).cells,by rw[hw];exact U,B ?_⟩);exact BA):ab:=k
def asR{N:Nat}{sts:List Int}{x:Lf}(h:ey N sts x)(id:Int)(E:1<=id)(F:id<=x.pks.length)(hc:¬((a8 x.pks id).st=1\/(a8 x.pks id).st=2)):aq prog 129 [.ptr 0 0,.int .i64 id] (HL x) fun v I=>bj 1 v I .any (HL x):=by refine aq.ar aj func129 Y rfl ?_;obtain⟨hl,hn,hs,hw,U⟩:=kZ h E F;refine B ?_;refine aq.ar aj func182 Y rfl (B ?_);(refine⟨(a8 x.pks id).cells,by rw[hw];exact U,B ?_⟩);exact RF
def aid{N:Nat}{sts:List Int}{x:Lf}(h:ey N sts x)(id:Int)(bZ:Int)(D:¬(1<=id/\id<=x.pks.length)):aq prog 120 [.ptr 0 0,.int .i64 id,.int .i64 bZ] (HL x) fun v I=>bj 1 v I .any (HL x):=by refine aq.ar aj func120 Y rfl ?_;exact RQ
def aij{N:Nat}{sts:List Int}{x:Lf}(h:ey N sts x)(id:Int)(bZ:Int)(E:1<=id)(F:id<=x.pks.length)(hc:¬((a8 x.pks id).st=1\/(a8 x.pks id).st=2)):aq prog 120 [.ptr 0 0,.int .i64 id,.int .i64 bZ] (HL x) fun v I=>bj 1 v I .any (HL x):=by refine aq.ar aj func120 Y rfl ?_;obtain⟨hl,hn,hs,hw,U⟩:=kZ h E F;refine B ?_;refine aq.ar aj func182 Y rfl (B ?_);refine dT (fun _=>B ?_) fun _=>B ?_;exact BA;refine dT (fun _=>B ?_) fun _=>B ?_;exact BA;(refine⟨(a8 x.pks id).cells,by rw[hw];exact U,B ?_⟩);exact RF
def ahL{N:Nat}{sts:List Int}{x:Lf}(h:ey N sts x)(id:Int)(D:¬(1<=id/\id<=x.pks.length)):aq prog 204 [.ptr 0 0,.int .i64 id] (HL x) fun v I=>bj 1 v I .any (HL x):=by refine aq.ar aj func204 Y rfl ?_;exact RQ
def ahM{N:Nat}{sts:List Int}{x:Lf}(h:ey N sts x)(id:Int)(E:1<=id)(F:id<=x.pks.length)(hc:(a8 x.pks id).st≠2):aq prog 204 [.ptr 0 0,.int .i64 id] (HL x) fun v I=>bj 1 v I .any (HL x):=by refine aq.ar aj func204 Y rfl ?_;obtain⟨hl,hn,hs,hw,U⟩:=kZ h E F;refine B ?_;refine aq.ar aj func182 Y rfl (B ?_);exact RF
def adI{ab:Prop}(k:ab:=by (refine⟨(a8 x.pks id).cells,by rw[hw];exact U,B ?_⟩);refine bj.of rX Y ?_ Y;refine B ?_;(repeat(first|exact trivial|rfl|(refine⟨rfl,?_⟩;(conv=>whnf))));(repeat(first|exact trivial|rfl|(refine⟨rfl,?_⟩;(conv=>whnf))|(refine⟨by first|(rw[hw,iH];rfl)|omega|simp,?_⟩;(conv=>whnf))|(first|(rw[hw,iH];rfl)|(simp;done))))):ab:=k
def asQ{N:Nat}{sts:List Int}{x:Lf}(h:ey N sts x)(id:Int)(E:1<=id)(F:id<=x.pks.length)(hc:(a8 x.pks id).st=1\/(a8 x.pks id).st=2):aq prog 129 [.ptr 0 0,.int .i64 id] (HL x) fun v I=>bj 1 v I .any (HL {x with pks:=(x.pks.set (id-1).toNat ⟨(a8 x.pks id).aR,(a8 x.pks id).len,2,(a8 x.pks id).bZ⟩)}):=by refine aq.ar aj func129 Y rfl ?_;obtain⟨hl,hn,hs,hw,U⟩:=kZ h E F;refine B ?_;refine aq.ar aj func182 Y rfl (B ?_);(refine⟨(a8 x.pks id).cells,by rw[hw];exact U,B ?_⟩);refine dT (fun _=>B ?_) fun _=>B ?_;(refine⟨(a8 x.pks id).cells,by rw[hw];exact U,B ?_⟩);exact adI;exact adI
def Iq{ab:Prop}(k:ab:=by
 refine aq.ar aj func120 Y rfl ?_;obtain⟨hl,hn,hs,hw,U⟩:=kZ h E F;have hd:∀(l:List (List SV))(i:Nat)(a b:List SV),(l.set i a).set i b=l.set i b:=fun l i a b=>qL ..;refine B ?_;refine aq.ar aj func182 Y rfl (B ?_);(refine⟨(a8 x.pks id).cells,by rw[hw];exact U,B ?_⟩);refine dT (fun _=>B ?_) fun _=>B ?_;·(refine⟨(a8 x.pks id).cells,by rw[hw];exact U,B ?_⟩);(refine⟨(a8 x.pks id).cells,by rw[hw];exact U,B ?_⟩);(refine⟨[.int .i64 (a8 x.pks id).aR,.int .i64 (a8 x.pks id).len,.int .i64 4,.int .i64 (a8 x.pks id).bZ],by rw[hw];exact nk U,B ?_⟩);(refine⟨[.int .i64 (a8 x.pks id).aR,.int .i64 (a8 x.pks id).len,.int .i64 4,.int .i64 bZ],by rw[hw];exact nk (nk U),B ?_⟩);refine⟨_,hf,B ?_⟩;refine⟨_,hf,B ?_⟩;refine bj.of rX Y ?_ Y;refine B ?_;(repeat(first|exact trivial|rfl|(refine⟨rfl,?_⟩;(conv=>whnf))));(repeat(first|exact trivial|rfl|(refine⟨rfl,?_⟩;(conv=>whnf))|(refine⟨by first|(rw[hw,iH,hd];rfl)|omega|simp,?_⟩;(conv=>whnf))|(first|(rw[hw,iH,hd];rfl)|(simp;done))))
 ·(refine⟨(a8 x.pks id).cells,by rw[hw];exact U,B ?_⟩);(refine⟨[.int .i64 (a8 x.pks id).aR,.int .i64 (a8 x.pks id).len,.int .i64 4,.int .i64 (a8 x.pks id).bZ],by rw[hw];exact nk U,B ?_⟩);(refine⟨[.int .i64 (a8 x.pks id).aR,.int .i64 (a8 x.pks id).len,.int .i64 4,.int .i64 bZ],by rw[hw];exact nk (nk U),B ?_⟩);refine⟨_,hf,B ?_⟩;refine⟨_,hf,B ?_⟩;refine bj.of rX Y ?_ Y;refine B ?_;(repeat(first|exact trivial|rfl|(refine⟨rfl,?_⟩;(conv=>whnf))));(repeat(first|exact trivial|rfl|(refine⟨rfl,?_⟩;(conv=>whnf))|(refine⟨by first|(rw[hw,iH,hd];rfl)|omega|simp,?_⟩;(conv=>whnf))|(first|(rw[hw,iH,hd];rfl)|(simp;done))))):ab:=k
def aie:FU 0 (·.f0) fun x f=>{x with f0:=f}:=by intro N sts x h id bZ E F hc w1 w2 hf;exact Iq
def aif:FU 1 (·.f1) fun x f=>{x with f1:=f}:=by intro N sts x h id bZ E F hc w1 w2 hf;exact Iq
def aih:FU 2 (·.f2) fun x f=>{x with f2:=f}:=by intro N sts x h id bZ E F hc w1 w2 hf;exact Iq
def aii:FU 3 (·.f3) fun x f=>{x with f3:=f}:=by intro N sts x h id bZ E F hc w1 w2 hf;exact Iq
def Ip{ab:Prop}(k:ab:=by refine B ?_;refine aq.ar aj func182 Y rfl (B ?_);(refine⟨(a8 x.pks id).cells,by rw[hw];exact U,B ?_⟩);(refine⟨(a8 x.pks id).cells,by rw[hw];exact U,B ?_⟩);refine⟨_,hf,B ?_⟩;(refine⟨ic z,by rw[m3];exact oV,B ?_⟩);refine bj.of rX Y ?_ Y;refine B ?_;exact lF):ab:=k
def ahR:DoS 0 (·.f0):=by intro N sts x h id z E F hc hf hz Q;dsimp only at hz;refine aq.ar aj func204 Y rfl ?_;obtain⟨hl,hn,hs,hw,U⟩:=kZ h E F;obtain⟨fo,dW,hp,m3,oV⟩:=vi hz h.o0 h.N;exact Ip
def Io{ab:Prop}(k:ab:=by refine B ?_;(repeat(first|exact trivial|rfl|(refine⟨rfl,?_⟩;(conv=>whnf))));(repeat(first|exact trivial|rfl|(refine⟨rfl,?_⟩;(conv=>whnf))|(refine⟨by first|(rw[hw,iH];rfl)|(simp[ic];done)|omega|simp,?_⟩;(conv=>whnf))|(first|(rw[hw,iH];rfl)|(simp[ic];done)|(simp;done))))):ab:=k
def ahN:FR 0 (·.f0) fun x f=>{x with f0:=f}:=by intro N sts x h id z E F hc hf hz Q;dsimp only at hz;refine aq.ar aj func204 Y rfl ?_;obtain⟨hl,hn,hs,hw,U⟩:=kZ h E F;obtain⟨fo,dW,hp,m3,oV⟩:=vi hz h.o0 h.N;refine B ?_;refine aq.ar aj func182 Y rfl (B ?_);(refine⟨(a8 x.pks id).cells,by rw[hw];exact U,B ?_⟩);(refine⟨(a8 x.pks id).cells,by rw[hw];exact U,B ?_⟩);refine⟨0,hf,B ?_⟩;(refine⟨ic z,by rw[m3];exact oV,B ?_⟩);(refine⟨(a8 x.pks id).cells,by rw[hw];exact U,B ?_⟩);(refine⟨[.int .i64 (a8 x.pks id).aR,.int .i64 (a8 x.pks id).len,.int .i64 3,.int .i64 (a8 x.pks id).bZ],by rw[hw];exact nk U,B ?_⟩);refine bj.of (lS [1,2,8,4,5,6]) Y ?_ Y;exact Io
def Im{ab:Prop}(k:ab:=by refine B ?_;(repeat(first|exact trivial|rfl|(refine⟨rfl,?_⟩;(conv=>whnf))));(repeat(first|exact trivial|rfl|(refine⟨rfl,?_⟩;(conv=>whnf))|(refine⟨by first|(rw[hw,iH];rfl)|(simp[ic];done)|omega|simp,?_⟩;(conv=>whnf))|(first|(rw[hw,iH];rfl)|(simp[ic];done)|(simp;done))))):ab:=k
def ahF:FQ 0 (·.f0) fun x f=>{x with f0:=f}:=by
 intro N sts x h id E F hc hf hz;dsimp only at hz;refine aq.ar aj func204 Y rfl ?_;obtain⟨hl,hn,hs,hw,U⟩:=kZ h E F;have fo:(x.f0.ord.map ic).length=x.f0.ord.length:=bh _;have dW:x.f0.ord.length<=1000000000:=dF h.o0 h.N;have Nw:(x.f0.ord.map ic).length=0:=by rw[hz];rfl
 refine B ?_;refine aq.ar aj func182 Y rfl (B ?_);(refine⟨(a8 x.pks id).cells,by rw[hw];exact U,B ?_⟩);(refine⟨(a8 x.pks id).cells,by rw[hw];exact U,B ?_⟩);refine⟨0,hf,B ?_⟩;(refine⟨(a8 x.pks id).cells,by rw[hw];exact U,B ?_⟩);(refine⟨[.int .i64 (a8 x.pks id).aR,.int .i64 (a8 x.pks id).len,.int .i64 3,.int .i64 (a8 x.pks id).bZ],by rw[hw];exact nk U,B ?_⟩);refine bj.of (lS [1,2,8,4,5,6]) Y ?_ Y;exact Im
def ahS:DoS 1 (·.f1):=by intro N sts x h id z E F hc hf hz Q;dsimp only at hz;refine aq.ar aj func204 Y rfl ?_;obtain⟨hl,hn,hs,hw,U⟩:=kZ h E F;obtain⟨fo,dW,hp,m3,oV⟩:=vi hz h.o1 h.N;exact Ip
def ahO:FR 1 (·.f1) fun x f=>{x with f1:=f}:=by intro N sts x h id z E F hc hf hz Q;dsimp only at hz;refine aq.ar aj func204 Y rfl ?_;obtain⟨hl,hn,hs,hw,U⟩:=kZ h E F;obtain⟨fo,dW,hp,m3,oV⟩:=vi hz h.o1 h.N;refine B ?_;refine aq.ar aj func182 Y rfl (B ?_);(refine⟨(a8 x.pks id).cells,by rw[hw];exact U,B ?_⟩);(refine⟨(a8 x.pks id).cells,by rw[hw];exact U,B ?_⟩);refine⟨1,hf,B ?_⟩;(refine⟨ic z,by rw[m3];exact oV,B ?_⟩);(refine⟨(a8 x.pks id).cells,by rw[hw];exact U,B ?_⟩);(refine⟨[.int .i64 (a8 x.pks id).aR,.int .i64 (a8 x.pks id).len,.int .i64 3,.int .i64 (a8 x.pks id).bZ],by rw[hw];exact nk U,B ?_⟩);refine bj.of (lS [1,2,3,8,5,6]) Y ?_ Y;exact Io
def ahG:FQ 1 (·.f1) fun x f=>{x with f1:=f}:=by
 intro N sts x h id E F hc hf hz;dsimp only at hz;refine aq.ar aj func204 Y rfl ?_;obtain⟨hl,hn,hs,hw,U⟩:=kZ h E F;have fo:(x.f1.ord.map ic).length=x.f1.ord.length:=bh _;have dW:x.f1.ord.length<=1000000000:=dF h.o1 h.N;have Nw:(x.f1.ord.map ic).length=0:=by rw[hz];rfl
 refine B ?_;refine aq.ar aj func182 Y rfl (B ?_);(refine⟨(a8 x.pks id).cells,by rw[hw];exact U,B ?_⟩);(refine⟨(a8 x.pks id).cells,by rw[hw];exact U,B ?_⟩);refine⟨1,hf,B ?_⟩;(refine⟨(a8 x.pks id).cells,by rw[hw];exact U,B ?_⟩);(refine⟨[.int .i64 (a8 x.pks id).aR,.int .i64 (a8 x.pks id).len,.int .i64 3,.int .i64 (a8 x.pks id).bZ],by rw[hw];exact nk U,B ?_⟩);refine bj.of (lS [1,2,3,8,5,6]) Y ?_ Y;exact Im
def ahT:DoS 2 (·.f2):=by intro N sts x h id z E F hc hf hz Q;dsimp only at hz;refine aq.ar aj func204 Y rfl ?_;obtain⟨hl,hn,hs,hw,U⟩:=kZ h E F;obtain⟨fo,dW,hp,m3,oV⟩:=vi hz h.o2 h.N;exact Ip
def ahP:FR 2 (·.f2) fun x f=>{x with f2:=f}:=by intro N sts x h id z E F hc hf hz Q;dsimp only at hz;refine aq.ar aj func204 Y rfl ?_;obtain⟨hl,hn,hs,hw,U⟩:=kZ h E F;obtain⟨fo,dW,hp,m3,oV⟩:=vi hz h.o2 h.N;refine B ?_;refine aq.ar aj func182 Y rfl (B ?_);(refine⟨(a8 x.pks id).cells,by rw[hw];exact U,B ?_⟩);(refine⟨(a8 x.pks id).cells,by rw[hw];exact U,B ?_⟩);refine⟨2,hf,B ?_⟩;(refine⟨ic z,by rw[m3];exact oV,B ?_⟩);(refine⟨(a8 x.pks id).cells,by rw[hw];exact U,B ?_⟩);(refine⟨[.int .i64 (a8 x.pks id).aR,.int .i64 (a8 x.pks id).len,.int .i64 3,.int .i64 (a8 x.pks id).bZ],by rw[hw];exact nk U,B ?_⟩);refine bj.of (lS [1,2,3,4,8,6]) Y ?_ Y;exact Io
def ahH:FQ 2 (·.f2) fun x f=>{x with f2:=f}:=by
 intro N sts x h id E F hc hf hz;dsimp only at hz;refine aq.ar aj func204 Y rfl ?_;obtain⟨hl,hn,hs,hw,U⟩:=kZ h E F;have fo:(x.f2.ord.map ic).length=x.f2.ord.length:=bh _;have dW:x.f2.ord.length<=1000000000:=dF h.o2 h.N;have Nw:(x.f2.ord.map ic).length=0:=by rw[hz];rfl
 refine B ?_;refine aq.ar aj func182 Y rfl (B ?_);(refine⟨(a8 x.pks id).cells,by rw[hw];exact U,B ?_⟩);(refine⟨(a8 x.pks id).cells,by rw[hw];exact U,B ?_⟩);refine⟨2,hf,B ?_⟩;(refine⟨(a8 x.pks id).cells,by rw[hw];exact U,B ?_⟩);(refine⟨[.int .i64 (a8 x.pks id).aR,.int .i64 (a8 x.pks id).len,.int .i64 3,.int .i64 (a8 x.pks id).bZ],by rw[hw];exact nk U,B ?_⟩);refine bj.of (lS [1,2,3,4,8,6]) Y ?_ Y;exact Im
def ahU:DoS 3 (·.f3):=by intro N sts x h id z E F hc hf hz Q;dsimp only at hz;refine aq.ar aj func204 Y rfl ?_;obtain⟨hl,hn,hs,hw,U⟩:=kZ h E F;obtain⟨fo,dW,hp,m3,oV⟩:=vi hz h.o3 h.N;exact Ip
def ahQ:FR 3 (·.f3) fun x f=>{x with f3:=f}:=by intro N sts x h id z E F hc hf hz Q;dsimp only at hz;refine aq.ar aj func204 Y rfl ?_;obtain⟨hl,hn,hs,hw,U⟩:=kZ h E F;obtain⟨fo,dW,hp,m3,oV⟩:=vi hz h.o3 h.N;refine B ?_;refine aq.ar aj func182 Y rfl (B ?_);(refine⟨(a8 x.pks id).cells,by rw[hw];exact U,B ?_⟩);(refine⟨(a8 x.pks id).cells,by rw[hw];exact U,B ?_⟩);refine⟨3,hf,B ?_⟩;(refine⟨ic z,by rw[m3];exact oV,B ?_⟩);(refine⟨(a8 x.pks id).cells,by rw[hw];exact U,B ?_⟩);(refine⟨[.int .i64 (a8 x.pks id).aR,.int .i64 (a8 x.pks id).len,.int .i64 3,.int .i64 (a8 x.pks id).bZ],by rw[hw];exact nk U,B ?_⟩);refine bj.of OW Y ?_ Y;exact Io
def ahI:FQ 3 (·.f3) fun x f=>{x with f3:=f}:=by
 intro N sts x h id E F hc hf hz;dsimp only at hz;refine aq.ar aj func204 Y rfl ?_;obtain⟨hl,hn,hs,hw,U⟩:=kZ h E F;have fo:(x.f3.ord.map ic).length=x.f3.ord.length:=bh _;have dW:x.f3.ord.length<=1000000000:=dF h.o3 h.N;have Nw:(x.f3.ord.map ic).length=0:=by rw[hz];rfl
 refine B ?_;refine aq.ar aj func182 Y rfl (B ?_);(refine⟨(a8 x.pks id).cells,by rw[hw];exact U,B ?_⟩);(refine⟨(a8 x.pks id).cells,by rw[hw];exact U,B ?_⟩);refine⟨3,hf,B ?_⟩;(refine⟨(a8 x.pks id).cells,by rw[hw];exact U,B ?_⟩);(refine⟨[.int .i64 (a8 x.pks id).aR,.int .i64 (a8 x.pks id).len,.int .i64 3,.int .i64 (a8 x.pks id).bZ],by rw[hw];exact nk U,B ?_⟩);refine bj.of OW Y ?_ Y;exact Im
def aop(n):∀s∈List.replicate n SV.any,AJ s=true:=fun s hs=>by rw[(List.mem_replicate.1 hs).2];rfl
def yh(x):ef (HL x):=by
 unfold HL;refine eW (fun s hs=>?_) (eW (vr (fun _=>by rfl) _) (eW (vr (fun _=>by rfl) _) (eW (vr (fun _=>by rfl) _) (eW (vr (fun _=>by rfl) _) (eW (vr (fun _=>by rfl) _) nc)))));rcases eJ.1 hs with hs|hs;simp only[gE,v7,iE]at hs;(repeat' (rcases hs with rfl|hs))<;>first|exact AK Y|(subst hs;exact AK Y)
 exact AK (aop _ s hs)
def gn(gL N:Nat)(sts:List Int):fy:=nO (ey N sts) fun x=>cL (HL x) [gL]
def amY(gL N)(sts):gv (gn gL N sts):=L3 fun x _=>om (yh x) _
end Go.Proofs.YtfkepgkmobgleaaGreatDoor
namespace Go.Air
open Go.Proofs.YtfkepgkmobgleaaGreatDoor Go.Sx Go.Air
def ey.app{N}{sts}{x}(h:ey N sts x){f len s}(hf:rv f)(hn:sts.length<100000){a b c d}(ha:a.ord=x.f0.ord)(M:b.ord=x.f1.ord)(hc:c.ord=x.f2.ord)(hd:d.ord=x.f3.ord):ey N (sts++[s]) {x with pks:=x.pks++[⟨f,len,s,0⟩],f0:=a,f1:=b,f2:=c,f3:=d}:=by
 refine⟨?_,fun p hp=>?_,?_,?_,?_,?_,?_,h.N⟩;show(x.pks++[_]).map _=_;rw[dx,h.sts];rfl;rcases eJ.1 hp with hp|hp;exact h.fl p hp;simp_all;show(x.pks++[_]).length<=_;have:sts.length=x.pks.length:=by rw[<-h.sts];simp
 simp;omega;show a.ord.length<=N;rw[ha];exact h.o0;show b.ord.length<=N;rw[M];exact h.o1;show c.ord.length<=N;rw[hc];exact h.o2;show d.ord.length<=N;rw[hd];exact h.o3
end Go.Air
namespace Go.Proofs.YtfkepgkmobgleaaGreatDoor
open Go.Sx Go.Air

end Go.Proofs.YtfkepgkmobgleaaGreatDoor
namespace Go.Air
open Go.Proofs.YtfkepgkmobgleaaGreatDoor Go.Sx Go.Air
def ey.fs{N}{sts}{x}(h:ey N sts x){N'}(hN:N'<=1000000000){a b c d}(ha:a.ord.length<=N')(M:b.ord.length<=N')(hc:c.ord.length<=N')(hd:d.ord.length<=N'):ey N' sts {x with f0:=a,f1:=b,f2:=c,f3:=d}:=
 ⟨h.sts,h.fl,h.n,ha,M,hc,hd,hN⟩
end Go.Air
namespace Go.Proofs.YtfkepgkmobgleaaGreatDoor
open Go.Sx Go.Air

end Go.Proofs.YtfkepgkmobgleaaGreatDoor
namespace Go.Air
open Go.Proofs.YtfkepgkmobgleaaGreatDoor Go.Sx Go.Air
def ey.len{N}{sts}{x}(h:ey N sts x):sts.length=x.pks.length:=by rw[<-h.sts];simp
end Go.Air
namespace Go.Proofs.YtfkepgkmobgleaaGreatDoor
open Go.Sx Go.Air Tryz
def Tg(gL N)(sts)(f len)(hf:rv f)(E:1<=len)(F:len<=4096)(hn:sts.length<100000):aL prog 84 [.ra gL 0,.int .i64 f,.int .i64 len] (gn gL N sts) .any (gn gL N (sts++[1])):=by
 refine .tF (ad:=HL) yh (args:=[.ptr 0 0,.int .i64 f,.int .i64 len]) ⟨rfl,rfl,rfl,rfl,trivial⟩ fun x hx=>?_;rcases hf with rfl|rfl|rfl|rfl;exact(aez hx len E F).mono fun s h' h=>by refine⟨_,?_,h.any⟩;exact hx.app (.inl rfl) hn rfl rfl rfl rfl
 exact(aeA hx len E F).mono fun s h' h=>by refine⟨_,?_,h.any⟩;exact hx.app (.inr (.inl rfl)) hn rfl rfl rfl rfl
 exact(aeB hx len E F).mono fun s h' h=>by refine⟨_,?_,h.any⟩;exact hx.app (.inr (.inr (.inl rfl))) hn rfl rfl rfl rfl
 exact(aeC hx len E F).mono fun s h' h=>by refine⟨_,?_,h.any⟩;exact hx.app (.inr (.inr (.inr rfl))) hn rfl rfl rfl rfl
def aaq(gL N)(sts)(f)(hf:rv f):aL prog 82 [.ra gL 0,.int .i64 f] (gn gL N sts) .any (gn gL N sts):=by
 refine .tF (ad:=HL) yh (args:=[.ptr 0 0,.int .i64 f]) ⟨rfl,rfl,rfl,trivial⟩ fun x hx=>?_;rcases hf with rfl|rfl|rfl|rfl;exact(ars x).mono fun s h' h=>by refine⟨_,?_,h⟩;exact hx.fs hx.N hx.o0 hx.o1 hx.o2 hx.o3
 exact(art x).mono fun s h' h=>by refine⟨_,?_,h⟩;exact hx.fs hx.N hx.o0 hx.o1 hx.o2 hx.o3
 exact(aru x).mono fun s h' h=>by refine⟨_,?_,h⟩;exact hx.fs hx.N hx.o0 hx.o1 hx.o2 hx.o3
 exact(arv x).mono fun s h' h=>by refine⟨_,?_,h⟩;exact hx.fs hx.N hx.o0 hx.o1 hx.o2 hx.o3
def anj(gL N)(sts)(id):aL prog 212 [.ra gL 0,.int .i64 id] (gn gL N sts) (.int .i64 (tx sts id)) (gn gL N sts):=by exact .tF (ad:=HL) yh (args:=[.ptr 0 0,.int .i64 id]) ⟨rfl,rfl,rfl,trivial⟩ fun x hx=>(atz hx id).mono fun s h' h=>⟨x,hx,h⟩
def XV{N}{sts}{x}(h:ey N sts x){id s:Int}(D:¬(1<=id/\id<=x.pks.length)):iZ sts id s=sts:=by have:=h.len;unfold iZ It;grind
def XX{N}{sts}{x}(h:ey N sts x){id s:Int}(E:1<=id)(F:id<=x.pks.length)(hc:¬((a8 x.pks id).st=1\/(a8 x.pks id).st=2)):iZ sts id s=sts:=by have:=h.len;have e:=OS h.sts E F;unfold iZ;simp_all
def XW{N}{sts}{x}(h:ey N sts x){id s:Int}(E:1<=id)(F:id<=x.pks.length)(hc:(a8 x.pks id).st=1\/(a8 x.pks id).st=2):iZ sts id s=sts.set (id-1).toNat s:=by have:=h.len;have e:=OS h.sts E F;unfold iZ;rw[au];rw[e];exact⟨⟨E,G⟩,hc⟩
def anh(gL N)(sts)(id):aL prog 129 [.ra gL 0,.int .i64 id] (gn gL N sts) .any (gn gL N (iZ sts id 2)):=by
 refine .tF (ad:=HL) yh (args:=[.ptr 0 0,.int .i64 id]) ⟨rfl,rfl,rfl,trivial⟩ fun x hx=>?_;by_cases D:1<=id/\id<=x.pks.length;by_cases hc:(a8 x.pks id).st=1\/(a8 x.pks id).st=2;rw[XW hx D.1 D.2 hc];exact(asQ hx id D.1 D.2 hc).mono fun s h' h=>by refine⟨_,?_,h⟩;exact hx.put D.1 D.2
 rw[XX hx D.1 D.2 hc];exact(asR hx id D.1 D.2 hc).mono fun s h' h=>⟨_,hx,h⟩;rw[XV hx D];exact(asP hx id D).mono fun s h' h=>⟨_,hx,h⟩
def amE(gL N)(sts)(id bZ)(w1:1<=bZ)(w2:bZ<=4):aL prog 120 [.ra gL 0,.int .i64 id,.int .i64 bZ] (gn gL N sts) .any (gn gL N (iZ sts id 4)):=by
 refine .tF (ad:=HL) yh (args:=[.ptr 0 0,.int .i64 id,.int .i64 bZ]) ⟨rfl,rfl,rfl,rfl,trivial⟩ fun x hx=>?_;by_cases D:1<=id/\id<=x.pks.length;by_cases hc:(a8 x.pks id).st=1\/(a8 x.pks id).st=2;rw[XW hx D.1 D.2 hc];have hp:=hx.put (s:=4) (w:=bZ) D.1 D.2;rcases hx.fl _ (bN (Ax D.1 D.2))with hf|hf|hf|hf;exact(aie hx id bZ D.1 D.2 hc w1 w2 hf).mono fun s h' h=>by refine⟨_,?_,h⟩;exact hp.fs hx.N hx.o0 hx.o1 hx.o2 hx.o3
 exact(aif hx id bZ D.1 D.2 hc w1 w2 hf).mono fun s h' h=>by refine⟨_,?_,h⟩;exact hp.fs hx.N hx.o0 hx.o1 hx.o2 hx.o3
 exact(aih hx id bZ D.1 D.2 hc w1 w2 hf).mono fun s h' h=>by refine⟨_,?_,h⟩;exact hp.fs hx.N hx.o0 hx.o1 hx.o2 hx.o3
 exact(aii hx id bZ D.1 D.2 hc w1 w2 hf).mono fun s h' h=>by refine⟨_,?_,h⟩;exact hp.fs hx.N hx.o0 hx.o1 hx.o2 hx.o3
 rw[XX hx D.1 D.2 hc];exact(aij hx id bZ D.1 D.2 hc).mono fun s h' h=>⟨_,hx,h⟩;rw[XV hx D];exact(aid hx id bZ D).mono fun s h' h=>⟨_,hx,h⟩
def ahJ{N}{sts}{x}(h:ey N sts x)(hN:N+1<=1000000000)(id):aq prog 204 [.ptr 0 0,.int .i64 id] (HL x) fun v I=>∃x' dK,dK.length=sts.length/\ey (N+1) dK x'/\bj 1 v I .any (HL x'):=by
 have l0:=h.o0;have l1:=h.o1;have rU:=h.o2;have awZ:=h.o3;have up:=h.fs (a:=x.f0) (b:=x.f1) (c:=x.f2) (d:=x.f3) hN G G G G;by_cases D:1<=id/\id<=x.pks.length;by_cases hc:(a8 x.pks id).st=2;have hp:=h.put (s:=3) (w:=(a8 x.pks id).bZ) D.1 D.2;have hl:(sts.set (id-1).toNat 3).length=sts.length:=fV;rcases h.fl _ (bN (Ax D.1 D.2))with hf|hf|hf|hf;rcases I:x.f0.ord[x.f0.ord.length-1]? with _|z;have hz:x.f0.ord=[]:=by rcases Kv x.f0.ord with e|⟨l,a,e⟩;exact e;simp_all
 exact(ahF h id D.1 D.2 hc hf hz).mono fun s h' hh=>by refine⟨_,_,hl,?_,hh⟩;dsimp only[dlU];exact hp.fs hN sO (by omega) (by omega) (by omega)
 by_cases Q:z<=id;exact(ahN h id z D.1 D.2 hc hf I Q).mono fun s h' hh=>by refine⟨_,_,hl,?_,hh⟩;dsimp only[dlU];exact hp.fs hN sO (by omega) (by omega) (by omega)
 exact(ahR h id z D.1 D.2 hc hf I G).mono fun s h' hh=>⟨_,sts,rfl,up,hh⟩;rcases I:x.f1.ord[x.f1.ord.length-1]? with _|z;have hz:x.f1.ord=[]:=by rcases Kv x.f1.ord with e|⟨l,a,e⟩;exact e;simp_all
 exact(ahG h id D.1 D.2 hc hf hz).mono fun s h' hh=>by refine⟨_,_,hl,?_,hh⟩;dsimp only[dlU];exact hp.fs hN (by omega) sO (by omega) (by omega)
 by_cases Q:z<=id;exact(ahO h id z D.1 D.2 hc hf I Q).mono fun s h' hh=>by refine⟨_,_,hl,?_,hh⟩;dsimp only[dlU];exact hp.fs hN (by omega) sO (by omega) (by omega)
 exact(ahS h id z D.1 D.2 hc hf I G).mono fun s h' hh=>⟨_,sts,rfl,up,hh⟩;rcases I:x.f2.ord[x.f2.ord.length-1]? with _|z;have hz:x.f2.ord=[]:=by rcases Kv x.f2.ord with e|⟨l,a,e⟩;exact e;simp_all
 exact(ahH h id D.1 D.2 hc hf hz).mono fun s h' hh=>by refine⟨_,_,hl,?_,hh⟩;dsimp only[dlU];exact hp.fs hN (by omega) (by omega) sO (by omega)
 by_cases Q:z<=id;exact(ahP h id z D.1 D.2 hc hf I Q).mono fun s h' hh=>by refine⟨_,_,hl,?_,hh⟩;dsimp only[dlU];exact hp.fs hN (by omega) (by omega) sO (by omega)
 exact(ahT h id z D.1 D.2 hc hf I G).mono fun s h' hh=>⟨_,sts,rfl,up,hh⟩;rcases I:x.f3.ord[x.f3.ord.length-1]? with _|z;have hz:x.f3.ord=[]:=by rcases Kv x.f3.ord with e|⟨l,a,e⟩;exact e;simp_all
 exact(ahI h id D.1 D.2 hc hf hz).mono fun s h' hh=>by refine⟨_,_,hl,?_,hh⟩;dsimp only[dlU];exact hp.fs hN (by omega) (by omega) (by omega) sO
 by_cases Q:z<=id;exact(ahQ h id z D.1 D.2 hc hf I Q).mono fun s h' hh=>by refine⟨_,_,hl,?_,hh⟩;dsimp only[dlU];exact hp.fs hN (by omega) (by omega) (by omega) sO
 exact(ahU h id z D.1 D.2 hc hf I G).mono fun s h' hh=>⟨_,sts,rfl,up,hh⟩;exact(ahM h id D.1 D.2 hc).mono fun s h' hh=>⟨_,sts,rfl,up,hh⟩;exact(ahL h id D).mono fun s h' hh=>⟨_,sts,rfl,up,hh⟩
def ahK(gL N)(hN:N+1<=1000000000)(sts)(id):k9 prog 204 [.ra gL 0,.int .i64 id] (gn gL N sts) fun s A'=>∃dK,dK.length=sts.length/\s=.any/\A'=gn gL (N+1) dK:=by
 have:=k9.of (P:=prog) (f:=204) (ad:=HL) yh (u:=gL) (args:=[.ptr 0 0,.int .i64 id]) (bH:=[.ra gL 0,.int .i64 id]) (aV:=ey N sts)
  (R:=fun s Q'=>∃dK,dK.length=sts.length/\s=.any/\Q'=ey (N+1) dK) ⟨rfl,rfl,rfl,trivial⟩ fun x hx=>(ahJ hx hN id).mono fun s h'⟨x',dK,E,F,h3⟩=>⟨_,_,x',⟨dK,E,rfl,rfl⟩,F,h3⟩
 exact⟨fun h p hp=>(this.ok h p hp).mono fun s h'⟨A',⟨Q',⟨dK,E,F,h3⟩,h4⟩,h5⟩=>⟨A',⟨dK,E,F,by rw[h4,h3];rfl⟩,h5⟩⟩
def gC:List (List UInt8):=["a","ann","Ann","ANN","b-1","Äb","äb","Αx","αx","a.b_c","×","z9","","a b","a*","aaaaaaaaaaaaaaaaaaaaaaaa","aaaaaaaaaaaaaaaaaaaaaaaaa","😀"].map (fun s=>s.toUTF8.data.toList)++[[255],[239,191,189]]
def ajg:List (List UInt8×List UInt8):=[("Ann","ann"),("ANN","ann"),("Äb","äb"),("Αx","αx")].map fun p=>(p.1.toUTF8.data.toList,p.2.toUTF8.data.toList)
def eC(s:List UInt8):List UInt8×Int:=if hD s then(((ajg.find? fun p=>p.1==s).map (·.2)).getD s,0)else([],1)
end Go.Proofs.YtfkepgkmobgleaaGreatDoor
namespace Go.Sx
def aY.Eh{P}{aH}(hV:ka P aH)(fuel){f}{args}{s}(o:oP P aH (EL P aH fuel) f args ⟨0,rh⟩ (ya s)=True)(hl:(args.all (q_ 3))=true)(hs:q_ 3 s=true):aY P f args (· =s):=by obtain⟨s1,H',wr,E,_,_,hc⟩:=TU hV fuel (of_eq_true o);obtain⟨rfl,_⟩:=Xr E;refine⟨fun h K hK=>?_⟩;have:=hc.atn (fun x hx=>Gz 3 x (ir.1 hl x hx)) (Gz 3 s1 hs) h;exact⟨fun w X g vs O D=>(this.ok w X g vs O D).mono fun v w'⟨s1,E,V,⟨e1,e2⟩,a⟩=>⟨s1,E,V,by simp_all,a⟩⟩
end Go.Sx
namespace Go.Proofs.YtfkepgkmobgleaaGreatDoor
open Go.Sx Go.Air Tryz
def asr(s:List UInt8):Prop:=oP prog pX (run pX) 144 [.str s] lQ (ya (.tup [.str (eC s).1,.int .i64 (eC s).2]))
def ajh{s}(h:asr s=True):aY prog 144 [.str s] (· =.tup [.str (eC s).1,.int .i64 (eC s).2]):=aY.Eh GJ fuel h rfl rfl
def Pw:gC=[[97],[97,110,110],[65,110,110],[65,78,78],[98,45,49],[195,132,98],[195,164,98],[206,145,120],[206,177,120],[97,46,98,95,99],[195,151],[122,57],[],[97,32,98],[97,42],List.replicate 24 97,List.replicate 25 97,[240,159,152,128],[255],[239,191,189]]:=by decide+kernel
def Mg(s)(hs:s∈gC):aY prog 144 [.str s] (· =.tup [.str (eC s).1,.int .i64 (eC s).2]):=by rw[Pw]at hs;simp only[gE,v7,iE]at hs;rcases hs with rfl|rfl|rfl|rfl|rfl|rfl|rfl|rfl|rfl|rfl|rfl|rfl|rfl|rfl|rfl|rfl|rfl|rfl|rfl|rfl;all_goals exact ajh (by kernel_rfl)
end Go.Proofs.YtfkepgkmobgleaaGreatDoor
namespace Go.Air
open Go.Sx
structure Cd where
 id:Int
 seq:Int
 deriving Inhabited,DecidableEq
def Cd.cells(c:Cd):List SV:=[.int .i64 c.id,.int .i64 c.seq]
structure Rl where
 st:List UInt8
 cls:Int
 fst:Int
 Yd:Int
 fl:Int
 deriving Inhabited,DecidableEq
def Rl.cells(r:Rl):List SV:=[.str r.st,.int .i64 r.cls,.int .i64 r.fst,.int .i64 r.Yd,.int .i64 r.fl]
structure bG where
 slot:Int
 kind:Int
 aR:Int
 fR:Int
 bZ:Int
 val:Int
 deriving Inhabited,DecidableEq
def bG.cells(r:bG):List SV:=[.int .i64 r.slot,.int .i64 r.kind,.int .i64 r.aR,.int .i64 r.fR,.int .i64 r.bZ,.int .i64 r.val]
structure fa where
 next:Int
 mR:Int
 deriving Inhabited,DecidableEq
structure bT where
 mode:Int
 num:Int
 den:Int
 kind:Int
 pk:Int
 pn:Int
 cp:Int
 hZ:Int
 gY:Int
 tries:Int
 bn:Int
 fH:Int
 cap:Int
 yq:Int
 cJ:List (Int×Int)
 deriving Inhabited
def ky(r:Int×Int):List SV:=[.int .i64 r.1,.int .i64 r.2]
def bT.cells(c:bT):List SV:=[.int .i64 c.mode,.int .i64 c.num,.int .i64 c.den,.int .i64 c.kind,.int .i64 c.pk,.int .i64 c.pn,.int .i64 c.cp,.int .i64 c.hZ,.int .i64 c.gY,.int .i64 c.tries,.int .i64 c.bn,.int .i64 c.fH,.int .i64 c.cap,.int .i64 c.yq,.rs 2 (c.cJ.map ky)]
end Go.Air
namespace Go.Proofs.YtfkepgkmobgleaaGreatDoor
open Go.Sx Go.Air Tryz
def Lz{P:Nat->Prop}(h:P 0/\P 1/\P 2/\P 3/\P 4/\P 5/\P 6/\P 7/\P 8/\P 9/\P 10/\P 11/\P 12/\P 13/\P 14/\P 15/\P 16/\P 17/\P 18/\P 19/\P 20/\P 21/\P 22/\P 23/\P 24/\P 25/\P 26/\P 27/\P 28/\P 29/\P 30/\P 31):∀j,j<32->P j:=by obtain⟨h0,E,F,h3,h4,h5,h6,h7,h8,h9,h10,h11,h12,h13,h14,h15,h16,h17,h18,h19,uM,h21,h22,h23,h24,h25,h26,h27,h28,h29,h30,h31⟩:=h;intro j hj;match j with|0=>exact h0|1=>exact E|2=>exact F|3=>exact h3|4=>exact h4|5=>exact h5|6=>exact h6|7=>exact h7|8=>exact h8|9=>exact h9|10=>exact h10|11=>exact h11|12=>exact h12|13=>exact h13|14=>exact h14|15=>exact h15|16=>exact h16|17=>exact h17|18=>exact h18|19=>exact h19|20=>exact uM|21=>exact h21|22=>exact h22|23=>exact h23|24=>exact h24|25=>exact h25|26=>exact h26|27=>exact h27|28=>exact h28|29=>exact h29|30=>exact h30|31=>exact h31|j+32=>omega
def Lq{z}{K:Nat->Prop}(h0:0<=z)(E:z<32)(o:∀j,j<32->z=((j:Nat):Int)->K j):∃m:Nat,z=(m:Int)/\K m:=
 ⟨z.toNat,(Int.toNat_of_nonneg h0).symm,o z.toNat G (Int.toNat_of_nonneg h0).symm⟩
abbrev I5(k a b:Int):SV:=.agg [.int .i64 k,.int .i64 a,.int .i64 b]
def kK(k a b:Int)(f:Nat->Bool)(n:Nat)(r:Int)(an tr:Bool):bK:=
 .fix 295 [.int .i64 k,.int .i64 a,.int .i64 b,.bool (f 0),.bool (f 1),.bool (f 2),.bool (f 3),.bool (f 4),.bool (f 5),.bool (f 6),.bool (f 7),.bool (f 8),.bool (f 9),.bool (f 10),.bool (f 11),.bool (f 12),.bool (f 13),.bool (f 14),.bool (f 15),.bool (f 16),.bool (f 17),.bool (f 18),.bool (f 19),.bool (f 20),.bool (f 21),.bool (f 22),.bool (f 23),.bool (f 24),.bool (f 25),.bool (f 26),.bool (f 27),.bool (f 28),.bool (f 29),.bool (f 30),.bool (f 31),.int .i64 (n:Int),.int .i64 r,.bool an,.bool tr]
def jZ(k a b:Int):Bool:=if k=0\/k=2 then decide (a=0)&&decide (b=0)else if k=1 then decide (1<=b)&&decide (b<=32)&&decide (1<=a)&&decide (a<=b)else false
def t8{ab:Prop}(k:ab:=by refine dT (fun _=>B ?_) fun _=>B ?_;simp[jZ, *];simp[jZ, *]):ab:=k
def ahp(k a b):aY prog 36 [I5 k a b] (· =.bool (jZ k a b)):=by refine .ar aj func36 Y rfl trivial (B ?_);refine dT (fun _=>B ?_) fun _=>B ?_;exact t8;refine dT (fun _=>B ?_) fun _=>B ?_;exact t8;refine dT (fun _=>B ?_) fun _=>B ?_;refine dT (fun _=>B ?_) fun _=>B ?_;refine dT (fun _=>B ?_) fun _=>B ?_;exact t8;simp[jZ, *];simp[jZ, *];simp[jZ, *]
def PG:Nat->Bool:=fun _=>false
def ag4(k a b)(h:jZ k a b=true):al prog 86 [I5 k a b] [] fun s I=>s=.tup [.ptr 0 0,.int .i64 0]/\I=[kK k a b PG 0 0 false false]:=by
 refine .ar aj func86 Y rfl (B ?_);refine(ahp _ _ _).call (ri ?_);conv=>whnf
 refine dV (by rw[h];rfl) ?_;conv=>whnf
 exact a6.of [some 1] (.tup [.ptr 0 0,.int .i64 0]) [kK k a b PG 0 0 false false] Y ⟨rfl,rfl⟩ wt
def rV(f:Nat->Bool)(n pu:Nat):Bool:=if n<pu then true else f ((n-pu)% 32)
def XI(k a b)(f:Nat->Bool)(n)(r)(an tr)(pu:Nat)(hn:n<=1000000)(ha:pu<=32):eL prog 215 [.ptr 0 0,.int .i64 (pu:Int)] [kK k a b f n r an tr] fun s I=>s=.bool (rV f n pu)/\I=[kK k a b f n r an tr]:=by
 refine .ar aj func215 Y rfl trivial ?_;conv=>whnf
 refine cf.fQ mixed aj ?_;conv=>whnf
 refine dT (fun M=>?_) fun M=>?_;have e:rV f n pu=true:=au G;rw[e];conv=>whnf
 refine⟨by kernel_rfl,?_⟩;conv=>whnf
 simp_all
 ·have e:rV f n pu=f ((n-pu)% 32):=ay G;have GQ:Int.tmod (IntKind.i64.wrap ((n:Int)-(pu:Int))) 32=(((n-pu)% 32:Nat):Int):=by rw[a_ _ G G,uk G];omega
  rw[e];refine B ?_;refine Lq G G (Lz ⟨?_,?_,?_,?_,?_,?_,?_,?_,?_,?_,?_,?_,?_,?_,?_,?_,?_,?_,?_,?_,?_,?_,?_,?_,?_,?_,?_,?_,?_,?_,?_,?_⟩);all_goals intro hz
  all_goals rw[GQ]at hz
  all_goals rw[Int.ofNat.inj hz]
  all_goals conv=>whnf
  all_goals refine⟨by kernel_rfl,?_⟩
  all_goals conv=>whnf
  all_goals refine⟨Y,?_⟩
  all_goals conv=>whnf
def XE(k a b)(f:Nat->Bool)(n)(r)(an tr)(hn:n<=1000000):eL prog 215 [.ptr 0 0,.int .i64 1] [kK k a b f n r an tr] fun s I=>s=.bool (rV f n 1)/\I=[kK k a b f n r an tr]:=XI k a b f n r an tr 1 hn dC
def mS(f:Nat->Bool)(n:Nat):Nat->Int|0=>0|m+1=>mS f n m+(if rV f n (m+1)=true then 1 else 0)
def ag5(f:Nat->Bool)(n):∀m,0<=mS f n m/\mS f n m<=m:=by intro m;induction m with|zero=>simp[mS]|succ m ih=>simp only[mS];split<;>omega
def ml(k a b:Int)(f:Nat->Bool)(n:Nat)(an tr:Bool):Bool:=if k=1 then decide (a<=mS f n b.toNat)else if k=2/\an=true then tr else rV f n 1
def apJ{k a b}(h:jZ k a b=true):0<=b/\b<=32:=by unfold jZ at h;grind
def zw8{ab:Prop}(k:ab:=by
 refine B ?_;refine⟨⟨m.1+1,G⟩,by grind,.of [some 0] Y (B ?_)⟩;refine⟨by simp[*],?_⟩;conv=>whnf
 refine⟨by exact(a_ _ G G).trans G,?_⟩;conv=>whnf
 refine⟨Y,?_⟩;conv=>whnf
 refine⟨Y,?_⟩;conv=>whnf
 refine⟨Y,?_⟩;conv=>whnf
 refine⟨Y,?_⟩;conv=>whnf
 refine⟨Y,?_⟩;conv=>whnf
 refine⟨Y,?_⟩;conv=>whnf
 refine⟨Y,?_⟩;conv=>whnf
 refine⟨Y,?_⟩;conv=>whnf
 refine⟨Y,?_⟩;conv=>whnf
 refine⟨Y,?_⟩;conv=>whnf
 refine⟨Y,?_⟩;conv=>whnf
 refine⟨Y,?_⟩;conv=>whnf
 refine⟨Y,?_⟩;conv=>whnf
 refine⟨Y,?_⟩;conv=>whnf
 refine⟨Y,?_⟩;conv=>whnf
 refine⟨Y,?_⟩;conv=>whnf
 refine⟨Y,?_⟩;conv=>whnf
 refine⟨Y,?_⟩;conv=>whnf
 refine⟨Y,?_⟩;conv=>whnf
 refine⟨Y,?_⟩;conv=>whnf
 refine⟨Y,?_⟩;conv=>whnf
 refine⟨Y,?_⟩;conv=>whnf
 refine⟨Y,?_⟩;conv=>whnf
 refine⟨Y,?_⟩;conv=>whnf
 refine⟨Y,?_⟩;conv=>whnf
 refine⟨Y,?_⟩;conv=>whnf
 refine⟨Y,?_⟩;conv=>whnf
 refine⟨Y,?_⟩;conv=>whnf
 refine⟨Y,?_⟩;conv=>whnf
 refine⟨Y,?_⟩;conv=>whnf
 refine⟨Y,?_⟩;conv=>whnf
 refine⟨Y,?_⟩;conv=>whnf
 refine⟨Y,?_⟩;conv=>whnf
 refine⟨Y,?_⟩;conv=>whnf
 refine⟨Y,?_⟩;conv=>whnf
 refine⟨Y,?_⟩;conv=>whnf
 refine⟨Y,?_⟩;conv=>whnf
 refine⟨Y,?_⟩;conv=>whnf
 simp_all):ab:=k
def ZP(k a b)(hp:jZ k a b=true)(f:Nat->Bool)(n)(r)(an tr)(hn:n<=1000000):eL prog 141 [.ptr 0 0] [kK k a b f n r an tr] fun s I=>s=.bool (ml k a b f n an tr)/\I=[kK k a b f n r an tr]:=by
 refine .ar aj func141 Y rfl trivial ?_;obtain⟨fb,b1⟩:=apJ hp;by_cases o:k=1;have e:ml k a b f n an tr=decide (a<=mS f n b.toNat):=au o;rw[e];conv=>whnf
 refine gX (by simp_all) ?_;conv=>whnf
 refine b6.cq aj 52 (fun m:{m:Nat//(m:Int)<=b}=>[(0,.ptr 0 0),(3,.int .i64 (mS f n m.1)),(4,.int .i64 ((m.1+1:Nat):Int))])
  (fun _=>[kK k a b f n r an tr]) (fun m=>b.toNat-m.1) ⟨0,G⟩ (.of [some 0] Y ?_) ?_
 exact wt;intro m;have ahn:=ag5 f n m.1;refine B ?_;refine⟨fun M=>?_,fun M=>?_⟩;have M:(m.1:Int)+1<=b:=by simp only[bs]at M;omega
 have lm:=XI k a b f n r an tr (m.1+1) hn G;have s1:rV f n (m.1+1)=true->IntKind.i64.wrap (mS f n m.1+1)=mS f n (m.1+1):=fun h=>by rw[a_ _ G G];simp[mS,h]
 have s2:rV f n (m.1+1)=false->mS f n m.1=mS f n (m.1+1):=fun h=>by simp[mS,h]
 have pV:((m.1+1:Nat):Int)+1=((m.1+1+1:Nat):Int):=by omega
 refine B ?_;refine lm.call [0] dC Y1 Y1 (rj (B ?_));refine⟨fun _=>?_,fun _=>?_⟩;exact zw8;exact zw8;have M:b.toNat=m.1:=by simp only[bX]at M;omega
 rw[M];refine B ?_;refine .same ?_;conv=>whnf
 simp_all;by_cases aU:k=2;cases an with
 |true=>
  have e:ml k a b f n true tr=tr:=by unfold ml;rw[ay o,au ⟨aU,rfl⟩]
  rw[e];conv=>whnf
  refine dV sO ?_;conv=>whnf
  refine gX sO ?_;conv=>whnf
  refine gX rfl ?_;conv=>whnf
  simp_all
 |false=>
  have e:ml k a b f n false tr=rV f n 1:=by unfold ml;rw[ay o,ay (fun h=>by cases h.2)]
  rw[e];conv=>whnf
  refine dV sO ?_;conv=>whnf
  refine gX sO ?_;conv=>whnf
  refine dV rfl ?_;conv=>whnf
  refine(XE _ _ _ _ _ _ _ _ G).call [0] dC Y1 Y1 (rj ?_);conv=>whnf
  simp_all
 have e:ml k a b f n an tr=rV f n 1:=by unfold ml;rw[ay o,ay (fun h=>aU h.1)]
 rw[e];conv=>whnf
 refine dV sO ?_;conv=>whnf
 refine dV sO (B ?_);refine(XE _ _ _ _ _ _ _ _ G).call [0] dC Y1 Y1 (rj ?_);conv=>whnf
 simp_all
def bF(f:Nat->Bool)(m:Nat)(u:Bool):Nat->Bool:=fun i=>if i=m then u else f i
def aoz(k a b)(hp:jZ k a b=true)(f:Nat->Bool)(n)(r)(an tr u)(hn:n<=100000)(D:0<=r/\r<=100000):al prog 76 [.ptr 0 0,.bool u] [kK k a b f n r an tr] fun s I=>s=.tup []/\I=[kK k a b (bF f (n % 32) u) (n+1) (if ml k a b f n an tr=u then r+1 else r) false tr]:=by
 refine .ar aj func76 Y rfl ?_;have GQ:Int.tmod (n:Int) 32=((n % 32:Nat):Int):=by rw[uk G];omega
 have pV:IntKind.i64.wrap ((n:Int)+1)=((n+1:Nat):Int):=by rw[a_ _ G G];omega
 have er:IntKind.i64.wrap (r+1)=r+1:=a_ _ G G;refine B ?_;refine(ZP k a b hp f n r an tr G).call [0] dC trivial Y1 (rj (B ?_));refine⟨fun M=>?_,fun M=>?_⟩
 ·have M:ml k a b f n an tr=u:=by simpa using M
  rw[au M];conv=>whnf
  refine cf.fQ mixed aj ?_;conv=>whnf
  refine⟨G,?_⟩;conv=>whnf
  refine⟨G,?_⟩;conv=>whnf
  refine Lq G G (Lz ⟨?_,?_,?_,?_,?_,?_,?_,?_,?_,?_,?_,?_,?_,?_,?_,?_,?_,?_,?_,?_,?_,?_,?_,?_,?_,?_,?_,?_,?_,?_,?_,?_⟩);all_goals intro hz
  all_goals rw[GQ]at hz
  all_goals rw[Int.ofNat.inj hz]
  all_goals conv=>whnf
  all_goals refine⟨by kernel_rfl,?_⟩
  all_goals conv=>whnf
  all_goals refine a6.of [some 0] (.tup []) [kK k a b (bF f _ u) (n+1) (r+1) false tr] Y ⟨rfl,rfl⟩ ?_
  all_goals repeat((conv=>whnf);refine⟨by first|rfl|exact pV|exact er,?_⟩)
  all_goals exact trivial
 ·have M:¬ml k a b f n an tr=u:=by simpa using M
  rw[ay M];conv=>whnf
  refine cf.fQ mixed aj ?_;conv=>whnf
  refine⟨G,?_⟩;conv=>whnf
  refine⟨G,?_⟩;conv=>whnf
  refine Lq G G (Lz ⟨?_,?_,?_,?_,?_,?_,?_,?_,?_,?_,?_,?_,?_,?_,?_,?_,?_,?_,?_,?_,?_,?_,?_,?_,?_,?_,?_,?_,?_,?_,?_,?_⟩);all_goals intro hz
  all_goals rw[GQ]at hz
  all_goals rw[Int.ofNat.inj hz]
  all_goals conv=>whnf
  all_goals refine⟨by kernel_rfl,?_⟩
  all_goals conv=>whnf
  all_goals refine a6.of [some 0] (.tup []) [kK k a b (bF f _ u) (n+1) r false tr] Y ⟨rfl,rfl⟩ ?_
  all_goals repeat((conv=>whnf);refine⟨by first|rfl|exact pV|exact er,?_⟩)
  all_goals exact trivial
def ae2(k a b)(f:Nat->Bool)(n)(r)(an tr u):al prog 96 [.ptr 0 0,.bool u] [kK k a b f n r an tr] fun s I=>s=.tup []/\I=[kK k a b f n r true u]:=by refine .ar aj func96 Y rfl (B ?_);refine a6.of [some 0] (.tup []) [kK k a b f n r true u] Y ⟨rfl,rfl⟩ ?_;exact wt
open Go.Air
def XJ(p)(s):aY prog 117 [.agg p.cells,.int .i64 s] (· =.bool (hr p s)):=by refine aY.ar aj func117 Y rfl trivial (B ?_);refine dT (fun _=>B ?_) fun _=>B ?_;simp[hr, *];simp[hr, *]
def Xs(p)(s):al prog 119 [.agg p.cells,.ptr 0 0] [.fix 3 [.int .i64 s]] (fun v I=>v=.bool (hr p s)/\I=[.fix 3 [.int .i64 s]]):=by refine al.ar aj func119 Y rfl (B ?_);refine(XJ _ _).call (ri (B ?_));exact adz
def alP(l)(x)(hl:l.length<=1000000):al prog 181 [.sl 0,.fn 119 [.ptr 1 0]] [.row 193 5 (l.map Pk.cells),.fix 3 [.int .i64 x]] (fun s I=>s=.int .i64 (idxOf (hr · x) l)/\I=[.row 193 5 (l.map Pk.cells),.fix 3 [.int .i64 x]]):=by
 refine al.ar aj func181 Y rfl (B ?_);refine b6.cq aj 19 (fun i:{i:Nat//i<=l.length/\lK (hr · x) l i}=>[(0,.sl 0),(1,.fn 119 [.ptr 1 0]),(7,.int .i64 ((l.map Pk.cells).length:Int)),(8,.int .i64 (i.1:Int))])
  (fun _=>[.row 193 5 (l.map Pk.cells),.fix 3 [.int .i64 x]]) (fun i=>l.length-i.1) ⟨0,G,by intro j hj;omega⟩ (.of gB Y ?_) ?_
 exact wt;intro i;have U:=i.2.2;have hm:(l.map Pk.cells).length=l.length:=bh _;refine B ?_;refine dT (fun _=>B ?_) fun _=>B ?_;refine kd G fun x1 d7=>?_;refine B ?_;refine(Xs _ _).call [1] Y Y5 Y1 (rj (B ?_));refine⟨fun _=>B ?_,fun _=>B ?_⟩;refine .same (B ?_);rw[Ah U ‹_› ‹_›];exact adP;(refine⟨⟨i.1+1,G,U.step ‹_› ‹_›⟩,by show l.length-(i.1+1)<l.length-i.1;omega,.of gB Y ?_⟩);refine B ?_;exact acx;refine .same (B ?_);rw[Ai U G];exact adP
def ahV(l:List Pk)(x)(hl:l.length<=1000000):al prog 118 [.sl 0,.fn 119 [.ptr 1 0]] [.row 193 5 (l.map Pk.cells),.fix 3 [.int .i64 x]] (fun s I=>(s=.sl 0/\I=[.row 193 5 (l.map Pk.cells),.fix 3 [.int .i64 x]]/\l.filter (fun p=> !hr p x)=l)\/∃k es,s=.ss 0 0 k/\I=[.row 193 5 es,.fix 3 [.int .i64 x]]/\k<=es.length/\es≠[]/\es.take k=(l.filter (fun p=> !hr p x)).map Pk.cells):=by
 refine al.ar aj func118 Y rfl (B ?_);refine(alP _ _ G).call [0,1] Y trivial Y2 (rj ?_);obtain⟨e,dW⟩|⟨i0,x0,e,M,hx,o⟩:=Ag (hr · x) l;·rw[e];refine B ?_;exact a6.of gB _ _ Y (.inl ⟨rfl,rfl,dW⟩) (by repeat(first|exact trivial|rfl|(refine⟨rfl,?_⟩;(conv=>whnf))))
 rw[e];have uT:i0<l.length:=(ao.1 hx).1;refine B ?_;refine b6.cq aj 42 (fun i:{i:(Nat×Nat)×List Pk//lJ (fun p=> !hr p x) l i.2 i.1.1 i.1.2}=>[(0,.sl 0),(1,.fn 119 [.ptr 1 0]),(5,.int .i64 (i.1.1.1:Int)),(6,.int .i64 (i.1.1.2:Int))]) (fun i=>[.row 193 5 (i.1.2.map Pk.cells),.fix 3 [.int .i64 x]]) (fun i=>l.length-i.1.1.2) ⟨((i0,i0+1),l),.init (by simpa using M) hx (by simpa using o)⟩ (.of gB Y ?_) ?_;refine B ?_;exact sr;intro i;have hd:=i.2;have hm:(i.1.2.map Pk.cells).length=l.length:=by rw[bh];exact hd.len
 have d3:=hd.len;have lp:=hd.lt;have dq:=hd.le;refine B ?_;refine dT (fun _=>B ?_) fun _=>B ?_;refine kd G fun x1 d7=>?_;refine B ?_;refine(Xs _ _).call [1] Y Y5 Y1 (rj (B ?_));refine⟨fun kP=>?_,fun kP=>?_⟩;refine B ?_;refine kd G fun x13 alF=>?_;refine B ?_;(refine⟨⟨((i.1.1.1+1,i.1.1.2+1),_),hd.fe ‹_› (by simp[*])⟩,by show l.length-(i.1.1.2+1)<l.length-i.1.1.2;omega,.of gB Y ?_⟩);exact acu;refine B ?_;(refine⟨⟨((i.1.1.1,i.1.1.2+1),i.1.2),hd.skip ‹_› (by simp[*])⟩,by show l.length-(i.1.1.2+1)<l.length-i.1.1.2;omega,.of gB Y ?_⟩);refine B ?_;exact sr;refine .same (B ?_);refine dt sO ?_;refine B ?_;refine dt sO ?_;refine B ?_;refine dt sO ?_;refine B ?_;exact aoW (.inr ⟨_,_,rfl,rfl,by rw[show((i.1.1.1:Int)-((0:Nat):Int)).toNat=0+((i.1.1.1:Int)).toNat by omega];exact Un d3 G,Uo G,by rw[show((i.1.1.1:Int)-((0:Nat):Int)).toNat=0+((i.1.1.1:Int)).toNat by omega];exact Up hd G G G⟩)
