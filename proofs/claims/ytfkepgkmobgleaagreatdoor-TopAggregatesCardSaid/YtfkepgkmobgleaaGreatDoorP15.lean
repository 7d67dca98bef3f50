/- Lemmas for TopZ; tactic blocks in binders fill in some arguments. -/
import Derived.Test.YtfkepgkmobgleaaGreatDoorP14
set_option linter.all false
noncomputable section
set_option maxRecDepth 100000
set_option maxHeartbeats 0
namespace Go.Sx
def aq.aje{P}{f}{args}{h}{R}(hc:aq P f args h fun s I=>R s I\/aeg R s I):aq P f args h R:=
 ⟨fun w X g vs O D=>(hc.ok w X g vs O D).mono fun v w'⟨s,I,V,hh,hv,aE,hS⟩=>by
  rcases hh with hh|⟨b,p,m,t,z,es,rs,e1,ii,E,F,h3,h4,h5,hR⟩
  ·grind
  subst e1
  have⟨u,cap,U,cR,ct,i8,G8,p4⟩:=asb aE E F (by grind)
  have h5':(I.set b .dead)[p]?=some (.asn (im t z rs)):=by rw[bu,ay ii];exact h5
  have⟨c8,be,b_,d3,xB⟩:=Ih ct h5' (fW.rows (r:=(u,cap,es))) (Jt _ _ _)
  have gl:v=.slice (some ⟨u,0,none⟩) m cap:=by
   cases hv with
   |ss h' _ bf=>
    grind
   |eS h'=>omega
   |ej h'=>simp_all
  subst gl
  exact⟨_,_,c8,hR u cap G,.rl,be,hS.trans ((i8 _).trans (b_ _))⟩⟩
def al.asc{P}(t:TypeId)(z){f}{args}{h}{R}(hc:aq P f args (h++[.asn (im t z [])]) fun s I=>a6 h.length s I R):al P f args h R:=
 ⟨⟨fun w X g vs O D=>by
  have bc:∀i e,(g++[.own fun _=>False])[i]?=some e->g[i]?=some e\/(i=g.length/\e=.own fun _=>False):=fun i e H=>j6 H
  have br:∀k,bM (g++[.own fun _=>False]) k↔bM g k:=fun k=>⟨fun⟨i,e,H,o⟩=>by
   rcases bc i e H with H|⟨_,rfl⟩
   ·exact⟨i,e,H,o⟩
   ·exact o.elim,fun⟨i,e,H,o⟩=>⟨i,e,by grind,o⟩⟩
  have hS:∀m,Step m w g w (g++[.own fun _=>False]):=fun m=>⟨rfl,rfl,rfl,aC _,fun _ _ _=>rfl,fun u U _=>(br u).1 U,fun i e _ H _=>.inl (by grind)⟩
  have hE:∀k,Ex X (g++[.own fun _=>False]) k->Ex X g k:=fun k o=>o.elim .inl fun h=>.inr ((br k).1 h)
  have ct:Inv w X (g++[.own fun _=>False]) (h++[.asn (im t z [])]):=by
   refine⟨by simp[O.len],fun i b e M H=>?_,fun i e u H U=>?_,fun i j e e' u Q hj U bP=>?_,fun u hx I=>O.cU u hx ((br u).1 I),O.df⟩
   ·rcases bc i e H with H|⟨rfl,rfl⟩
    ·exact ac6
    ·rw[O.len]at M
     simp at M;subst M
     have:im t z [] w fun _=>False:=⟨sM,sM⟩
     exact⟨this,fun w2 e2 s2=>Jt t z [] w w2 _ this e2 s2⟩
   ·rcases bc i e H with H|⟨_,rfl⟩
    ·exact O.lt i e u H U
    ·cases U
   ·exact acz
  have l7:b5 w (Ex X (g++[.own fun _=>False])) (g++[.own fun _=>False]) args vs:=⟨D.1,fun i s v hs hv=>(D.2 i s v hs hv).mono (g++[.own fun _=>False]) (fun _ _ _=>rfl) (aC _) (fun k _ hn hx=>hn (hE k hx)) fun i e H hl=>(hS (i+1)).g_ i e G H hl⟩
  refine(hc.ok w X _ vs ct l7).mono fun v w'⟨s,h',V,E,F,h3,h4⟩=>?_
  have⟨s',bx,hR,p7⟩:=E.ok
  have⟨j_,axS,xP,ca⟩:=p7 w' X V v h3 F
  rw[<-O.len]at ca
  exact⟨s',bx,j_,hR,xP,axS,(hS g.length).trans ((h4.le sM).trans ca)⟩⟩⟩
end Go.Sx
namespace Go.Proofs.YtfkepgkmobgleaaGreatDoor
open Go.Sx Go.Air Tryz
def TX(l:List Cd):qO (l.map Cd.cells):=fun e H s hs=>by obtain⟨d,_,rfl⟩:=ew.1 H;exact w_ (cs:=d.cells) Y s hs
def amZ(c)(P)(slot time lost)(rl)(nq ns)(pk)(ac)(lg)(tm:List (Int×Nat×Nat))(ck)(t)(qs)(sa)(ss)(i) (E:i<ns)(F:i<sa.length)(h3:i<ss.length)(aw:hY (Z ss i))(hn:small (Z sa i).next)(w1:c.bn<=64)(fd:0<=c.bn-bI (Z ss i).base (Z sa i).next)(Ad:0<=c.bn) (jQ:t.fls.length<=32)(g8:∀f,(true,f)∈t.fls->∃k:Nat,f.id=(k:Int)/\k<nq/\k<qs.length/\(Z qs k).pk.length<=900)(cd:List (Nat×Nat×List Cd)):al prog 188 [.ptr 0 0,.int .i64 (i:Int)] (sE c P slot time lost rl nq ns pk ac lg tm ck t qs sa ss++[.asn (h_ cd)]) (fun s I=>(s=.ss 14 0 0/\I=sE c P slot time lost rl nq ns pk ac lg tm ck t qs sa ss++[.asn (h_ cd),.row 274 2 []])\/∃aZ u cap,(∀d∈aZ,tN t qs i d)/\(aZ.length:Int)<=c.bn-bI (Z ss i).base (Z sa i).next/\1<=(et c.tries (Z ss i).pend++aZ).length/\min (et c.tries (Z ss i).pend++aZ).length 32<=cap/\s=.rl u (min (et c.tries (Z ss i).pend++aZ).length 32) cap/\I=sE c P slot time lost rl nq ns pk ac lg tm ck t qs sa ss++[.asn (h_ (cd++[(u,cap,et c.tries (Z ss i).pend++aZ)])),.dead]):=by
 refine⟨aq.aje (B ?_)⟩;refine(am0 _ _ _ _ _ _ _ _ _ _ _ _ _ _ _ _ _ _ G G G G G G G G G G).call [0,1,2,3,4,5,6,7,8,9,10,11,12,14] Y Y1 (C8 (C8 (C8 (C8 Y2)))) ?_;rintro _ _ ⟨u0,g1,g2,rfl,rfl⟩;by_cases H:et c.tries (Z ss i).pend++u0=[];left;left;rw[H];exact⟨rfl,rfl⟩;right;have hl:1<=(et c.tries (Z ss i).pend++u0).length:=by cases hL:et c.tries (Z ss i).pend++u0 with|nil=>simp_all|cons _ _=>simp
 generalize hL:et c.tries (Z ss i).pend++u0=aQ at*;refine⟨14,13,min aQ.length 32,_,2,aQ.map Cd.cells,cd.map Cb,rfl,dC,rfl,TX _,G,by grind,rfl,fun u cap cR=>.inr ⟨u0,u,cap,g1,g2,?_,?_,?_,?_⟩⟩;rw[hL];exact hl;simp_all;rw[hL];rw[hL];show _=sE c P slot time lost rl nq ns pk ac lg tm ck t qs sa ss++[.asn (im _ 2 ((cd++[(u,cap,aQ)]).map Cb)),.dead];rw[dx];rfl
def Qs.st{pk}{t}{i}{id}(h:Qs pk t i id){c:bT}{pl}(Q:i<t.sts.length):wC ⟨bE t,t.sts.map (fun s=>Z c.cJ s.iC.toNat),pl⟩ (ei pk id).aR (i:Int):=by have⟨_,f,a,b,d⟩:=h;refine⟨f,i,a,rfl,?_,by simpa using Q⟩;show(bE t)[f]?=_;unfold bE;rw[bz,uJ b];simp_all
def apm{pk}{id}(h:ie pk id):po (pk.map (·.len)) id=(ei pk id).len:=by unfold po ei;have E:=h.1;have F:=h.2;have:=b8 (l:=pk) (i:=(id-1).toNat) G;unfold Z at*;rw[mK,bz,this];rfl
def asL{c}{pk}{t}{ss}{s}{l}{n}(h:lL c pk t ss (fu c t s) s l n)(hs:s<t.sts.length){cz}(hS:mC pk cz (l.take n)){r}(k1:r.kind=5)(k2:r.aR=(ei pk (Z l 0).id).aR)(k3:r.val=(s:Int)):sJ c ⟨bE t,t.sts.map (fun s=>Z c.cJ s.iC.toNat),pk.map (·.len)⟩ r cz:=by
 have hn:=h.nl;have mZ:=h.n1;have sY:∀j,j<n->yV (Qs pk t s) (Z ss s) (Z l j):=fun j hj=>h.wW _ (by have:=od (l:=l.take n) (i:=j) sO;rwa[Ik hj]at this);refine⟨k1,?_,fun q hq=>?_,?_⟩;rw[k2,k3];exact(sY 0 G).1.st hs;have:(q.kind,q.aR,q.fR)∈cz.map fun r=>(r.kind,r.aR,r.fR):=ew.2 ⟨q,hq,rfl⟩;unfold mC at hS;rw[hS]at this;have⟨d,hd,e⟩:=ew.1 this;have o:=h.wW d hd;simp only[yT]at e;obtain⟨e1,e2,e3⟩:=e;refine⟨e1.symm,by rw[<-e2,k3];exact o.1.st hs,by rw[<-e3];exact o.1.1.1,by rw[<-e3];show d.id<=((pk.map _).length:Nat);rw[bh];exact o.1.1.2⟩;have e1:(cz.map fun q=>po (pk.map (·.len)) q.fR)=lens pk (l.take n):=by
  have:(cz.map fun q=>po (pk.map (·.len)) q.fR)=(cz.map fun r=>(r.kind,r.aR,r.fR)).map fun x=>po (pk.map (·.len)) x.2.2:=by rw[pJ];rfl
  unfold mC at hS;rw[this,hS,pJ];unfold lens;exact k8 fun d hd=>apm (h.wW d hd).1.1
 have e2:Z (t.sts.map (fun s=>Z c.cJ s.iC.toNat)) r.val.toNat=fu c t s:=by rw[k3,gh];have:=b8 (l:=t.sts) hs;unfold fu;unfold Z at*;rw[mK,bz,this];rfl
 show mi (cz.map fun q=>po (pk.map (·.len)) q.fR) _ _ _ (Z (t.sts.map fun s=>Z c.cJ s.iC.toNat) r.val.toNat).1 (Z (t.sts.map fun s=>Z c.cJ s.iC.toNat) r.val.toNat).2=true;rw[e1,e2];exact h.fits
def abu{t:Tb}{i}(h:i<t.sts.length):t.k5 (i:Int)=(Z t.sts i,true):=by unfold Tb.k5;rw[au ⟨G,G⟩,gh];unfold Z;simp_all
def aal(c)(P)(slot time lost)(rl)(nq ns)(pk)(ac)(lg)(tm:List (Int×Nat×Nat))(ck)(t)(i)(ht:oN c t)(Q:i<t.sts.length):al prog 132 [.ptr 0 0,.int .i64 (i:Int)] (MH c P slot time lost rl nq ns pk ac lg tm ck++[.asn (cM P.t t)]) (fun s I=>s=.agg [.int .i64 (fu c t i).1,.int .i64 (fu c t i).2]/\I=MH c P slot time lost rl nq ns pk ac lg tm ck++[.asn (cM P.t t)]):=by
 have⟨_,_,_,r,D,dB⟩:=ht.st i Q;have:=arh c P slot time lost rl nq ns pk ac lg tm ck t i (Z t.sts i) r (dF ht.m dC) (abu Q) D dB;have e:fu c t i=Z c.cJ r:=by unfold fu;rw[D];rfl
 rw[e];exact this
def amU(c)(P)(slot time lost)(rl)(nq ns)(pk)(ac)(lg)(tm:List (Int×Nat×Nat))(ck)(cd:List (Nat×Nat×List Cd))(u cap n)(l) (hn:n<=l.length)(hl:l.length<=1000)(hp:pk.length<=100000)(hid:∀c∈l,ie pk c.id):al prog 131 [.ptr 0 0,.rl u n cap] (MH c P slot time lost rl nq ns pk ac lg tm ck++[.asn (h_ (cd++[(u,cap,l)]))]) (fun s I=>s=.sl 10/\I=MH c P slot time lost rl nq ns pk ac lg tm ck++[.asn (h_ (cd++[(u,cap,l)])),.row 3 1 (dv (lens pk (l.take n)))]):=
 XS c P slot time lost rl nq ns pk ac lg tm ck (cd++[(u,cap,l)]) cd.length u cap n l sM hn hl hp hid
def Zf{c}{b}{pk}{t}{qs}{ss}{i}{nx}{z}(ht:oN c t)(hs:cQ c b (Qs pk t i) (Z ss i) nx)(hq:∀f,f<qs.length->gu z (Qf pk f) (Z qs f))(hn:qs.length=t.fls.length) {aZ}(hB:∀d∈aZ,tN t qs i d):∀d∈et c.tries (Z ss i).pend++aZ,yV (Qs pk t i) (Z ss i) d:=fun d hd=>by
 rcases eJ.1 hd with hd|hd;unfold et at hd;obtain⟨p,hp,rfl⟩:=ew.1 hd;have hp:=(oE.1 hp).1;exact⟨hs.ids p hp,.inr (hs.lt p hp)⟩;have⟨E,e,H,_,h3,q,o9,h4⟩:=hB d hd;have⟨j,hj⟩:=fx.1 H;have dq:=(ao.1 hj).1;rw[uJ dq]at hj;obtain rfl:cV t.fls j=e:=by simpa using hj
 have⟨a1,s,a2,a3⟩:=ht.fl j dq;rw[a1,gh]at o9;have o:=(hq j G).ids q o9;refine⟨⟨by rw[h4];exact o.1,j,by rw[h4];exact o.2,dq,h3⟩,.inl E⟩
def ag6{tries}{pend}{aZ}(h0:∀p∈pend,0<=p.seq)(n):sQ ((et tries pend++aZ).take n)<=aZ.length:=by
 refine dF ((List.take_sublist _ _).filter _).length_le ?_;rw[yO,c_];have:(et tries pend).filter (fun d=>decide (d.seq<0))=[]:=Sh.2 fun d hd=>by unfold et at hd;obtain⟨p,hp,rfl⟩:=ew.1 hd;have:=h0 p (oE.1 hp).1;show¬decide (p.seq<0)=true;simp_all
 grind
def Ze{c}{b}{aV}{ss}{i}{nx}(hs:cQ c b aV (Z ss i) nx){aZ}(hB:(aZ.length:Int)<=c.bn-bI (Z ss i).base nx):(et c.tries (Z ss i).pend++aZ).length<=1000:=by have E:=K9 c.tries (Z ss i).pend (Z ss i).pend.length;rw[yQ]at E;have F:=hs.len;rw[hs.bI]at hB;have h3:=hs.base;have h4:=hs.c1;grind
def Zg{c}{b}{pk}{t}{qs}{ss}{i}{nx}{z}(ht:oN c t)(hs:cQ c b (Qs pk t i) (Z ss i) nx)(hq:∀f,f<qs.length->gu z (Qf pk f) (Z qs f))(hn:qs.length=t.fls.length) {aZ}(hB:∀d∈aZ,tN t qs i d)(hl:(aZ.length:Int)<=c.bn-bI (Z ss i).base nx){k} (o:k=q7 (lens pk ((et c.tries (Z ss i).pend++aZ).take (min (et c.tries (Z ss i).pend++aZ).length 32))) c.cp c.hZ c.gY (fu c t i).1 (fu c t i).2)(h0:0<k):0<=k/\k<=((min (et c.tries (Z ss i).pend++aZ).length 32:Nat):Int)/\lL c pk t ss (fu c t i) i (et c.tries (Z ss i).pend++aZ) k.toNat:=by
 have hlen:=Ze hs hl;have aw:=Zf ht hs hq hn hB;have hc:=ag6 (tries:=c.tries) (pend:=(Z ss i).pend) (aZ:=aZ) (fun p hp=>(hs.lt p hp).1);generalize et c.tries (Z ss i).pend++aZ=aQ at*;rw[o]at h0;have⟨n,e,E,F,h3,h4⟩:=af9 h0;rw[<-o]at e;have xE:(lens pk (aQ.take (min aQ.length 32))).length=min aQ.length 32:=by simp[lens]
 rw[xE]at F;have pV:k.toNat=n:=by rw[e];rfl
 refine⟨G,G,G,G,G,G,aw,?_,?_⟩;have:=hc k.toNat;rw[hs.bI]at hl;omega;rw[pV];have:lens pk (aQ.take n)=(lens pk (aQ.take (min aQ.length 32))).take n:=by unfold lens;rw[<-wa,List.take_take,Kx G]
 simp_all
def lL.id0{c}{pk}{t}{ss}{r}{s}{l}{n}(h:lL c pk t ss r s l n):ie pk (Z l 0).id:=by have E:=h.n1;have F:=h.nl;have:=od (l:=l.take n) (i:=0) sO;rw[Ik G]at this;exact(h.wW _ this).1.1
def mQ.look{c}{pk}{t}{ss}{i}{cd}{lm}{ready}(h:mQ c pk t ss i cd lm ready){a}(ha:a∈ready):∃(s:Nat)(x:Lx)(j:Nat)(l:List Cd),a=(s:Int)/\s<i/\dJ lm (s:Int)=some x/\cd[j]?=some (x.1,x.2.2,l)/\lL c pk t ss (fu c t s) s l x.2.1:=by have⟨s,e1,e2,x,e3⟩:=h.rd a ha;have⟨s',f1,_,j,l,f3,f4⟩:=h.lm a x e3;grind
def mQ.new{c}{pk}{t}{ss}{i}{cd}{lm}{ready}(h:mQ c pk t ss i cd lm ready):hC lm (i:Int)=false:=by rw[ID];cases hm:dJ lm (i:Int)with|none=>rfl|some x=>obtain⟨s,e,hs,_⟩:=h.lm _ _ hm;omega
def atI{α:Type}{f}{l}{k}{ck}{z v}{a:α}(hw:gW (mE f l) ck)(hh:hC l k=false)(hv:v=f a):pc (mE f l++[(k,z,ck)]) (ck:Int) v=mE f (gb l k a ck):=by
 have e1:gb l k a ck=l++[(k,a,ck)]:=by unfold gb;rw[ay (by rw[hh];simp)]
 rw[e1];unfold pc;rw[dx];have e2:(mE f l).map (fun e=>if(e.2.2:Int)=(ck:Int)then(e.1,v,e.2.2)else e)=mE f l:=by
  conv=>rhs;rw[<-List.map_id (mE f l)]
  refine k8 fun e H=>?_;have:=hw.2.2 e H;rw[ay G];rfl
 rw[e2,hv];simp[mE]
def agG{α:Type}{l:List (Int×α×Nat)}{k}{ck}(hh:hC l k=false):ck+1=pe l k ck:=by unfold pe;simp_all
abbrev KR(c:bT)(P:Pl)(slot time lost:Int)(rl:List Rl)(nq ns:Nat)(pk:List Pk)(ac:List Int)(lg:List bG)(tm:List (Int×Nat×Nat))(ck:Nat)(t:Tb)(NR:Nat)(qs:List Qu)(sa:List fa)(ss:List b7)(ch:List Ch):Hp:=
 MH c P slot time lost rl nq ns pk ac lg tm ck++[.asn (cM P.t t),.asn (fI P.d NR),.asn (aI (fun i=>[P.q i]) (qs.map HQ)),.asn (fL P sa),.asn (aI (fun i=>[P.e i]) (ss.map HS)),.asn (aI (fun i=>[P.c i]) (ch.map (gi c.kind c.pk c.pn)))]
abbrev aey:=Nat×List (Nat×Nat×List Cd)×List (Int×Lx×Nat)×Nat×List (Int×Int×Nat)×Nat×List Int
def j7{ab:Prop}(k:ab:=by refine B ?_;refine aL.cA (p:=10) (agE _ _ _) rfl (B ?_);(refine nG.of rfl (fun a ha=>?_) (fun dW=>absurd (dW.symm.trans e2) sM);(have GH:x0=a:=mJ (e2.symm.trans ha));subst GH);refine B ?_;refine cc.rows aj (p:=15) (i:=0) (f:=0) rfl (wV e3) Y (B ?_);refine⟨_,zq (show 0<l0.length by omega),B ?_⟩;refine⟨_,by rw[hw];exact vB aig LE,B ?_⟩;refine(pD _ _ _ _ _ _ _ _ _ _ _ _ _ _ _ _ _ _ _ G).Gn [0,1,2,3,4,5,6,7,8] Y dC Y Y6 (C8 (C8 (C8 Y6))) Y (B ?_);(refine nG.of rfl (fun a ha=>?_) (fun dW=>absurd (dW.symm.trans e2) sM);(have GH:x0=a:=mJ (e2.symm.trans ha));subst GH);refine B ?_;exact a6.cm anf _ _ Y Y (.inr ⟨s0,x0.1,x0.2.1,x0.2.2,ami,cd,l0,G,e3,rm,rfl,rfl⟩) wt):ab:=k
def J4{ab:Prop}(k:ab:=by refine B ?_;refine⟨⟨(i+1,cd++[(u2,E5,et c.tries (Z ss i).pend++u1)],lm,zu,E4,Ck,vD),by show i+1<=ns;omega,ix.skip _⟩,by show ns-(i+1)<ns-i;omega,.of D1 Y (B ?_)⟩;exact acx):ab:=k
def aui(c)(P)(slot time lost)(rl)(nq ns)(pk)(ac)(lg)(tm:List (Int×Nat×Nat))(ck)(t)(NR)(qs)(sa)(ss)(ch)(z b:Nat) (hc:d_ c)(ht:oN c t)(E:sa.length=ns)(F:ss.length=ns)(h3:ch.length=ns)(h4:t.sts.length=ns)(h5:qs.length=nq)(h6:qs.length=t.fls.length)(hz:z<=100)(M:b<=8900) (hq:∀f,f<qs.length->gu z (Qf pk f) (Z qs f))(hs:∀i,i<ss.length->cQ c b (Qs pk t i) (Z ss i) (Z sa i).next)(VZ:∀i,i<ch.length->(Z ch i).n<=1000000)(hp:pk.length<=100000)(hl:lg.length<=999999999):al prog 125 [.ptr 0 0,.ptr 7 0] (KR c P slot time lost rl nq ns pk ac lg tm ck t NR qs sa ss ch) (fun s I=>(∃cd,s=.tup [.int .i64 0,.nils]/\I=[MF c P slot time lost 1 2 3 4 5 16,j0 rl,nh P nq,nm P ns,nf pk,jn ac,.dead,py P,nn P tm ck,.asn (cM P.t t),.asn (fI P.d NR),.asn (aI (fun i=>[P.q i]) (qs.map HQ)),.asn (fL P sa),.asn (aI (fun i=>[P.e i]) (ss.map HS)),.asn (aI (fun i=>[P.c i]) (ch.map (gi c.kind c.pk c.pn))),.asn (h_ cd),e5 (lg++[⟨slot,5,-1,0,6,-1⟩])])\/∃(ah:Nat)(u n cap j:Nat)(cd:List (Nat×Nat×List Cd))(l:List Cd),ah<ns/\cd[j]?=some (u,cap,l)/\lL c pk t ss (fu c t ah) ah l n/\s=.tup [.int .i64 (ah:Int),.rl u n cap]/\I=[MF c P slot time lost 1 2 3 4 5 16,j0 rl,nh P nq,nm P ns,nf pk,jn ac,.dead,py P,nn P tm ck,.asn (cM P.t t),.asn (fI P.d NR),.asn (aI (fun i=>[P.q i]) (qs.map HQ)),.asn (fL P sa),.asn (aI (fun i=>[P.e i]) (ss.map HS)),.asn (aI (fun i=>[P.c i]) (ch.map (gi c.kind c.pk c.pn))),.asn (h_ cd),e5 (lg++[⟨slot,5,(ei pk (Z l 0).id).aR,0,1,(ah:Int)⟩])]):=by
 refine al.asc 274 2 (aq.ar aj func125 Y rfl ?_);have gJ:=kx P.s ns;have qc:=ht.m;have hg:(pk.map Pk.cells).length=pk.length:=bh _;have g8:∀f,(true,f)∈t.fls->∃k:Nat,f.id=(k:Int)/\k<nq/\k<qs.length/\(Z qs k).pk.length<=900:=fun f hf=>by
  have⟨j,hj⟩:=fx.1 hf;have dq:=(ao.1 hj).1;rw[uJ dq]at hj;have e:(cV t.fls j).2=f:=by have:=mJ hj;rw[this]
  refine⟨j,by rw[<-e];exact(ht.fl j dq).1,G,G,dF (hq j G).len G⟩
 refine B ?_;refine b6.cq aj 120 (fun x:{x:aey//x.1<=ns/\mQ c pk t ss x.1 x.2.1 x.2.2.1 x.2.2.2.2.2.2}=>[(0,.ptr 0 0),(1,.ptr 7 0),(6,.mp 16),(7,.mp 17),(8,.sl 18),(22,.sl 3),(23,.int .i64 ((i_ P.s ns).length:Int)),(24,.int .i64 (x.1.1:Int))]) (fun x=>KR c P slot time lost rl nq ns pk ac lg tm ck t NR qs sa ss ch++[.asn (h_ x.1.2.1),.imap (mE lxE x.1.2.2.1) x.1.2.2.2.1,.imap (mE n9 x.1.2.2.2.2.1) x.1.2.2.2.2.2.1,.row 3 1 (x.1.2.2.2.2.2.2.map ic)]) (fun x=>ns-x.1.1) ⟨(0,[],[],0,[],0,[]),cx _,.init⟩ (.of (lS [1,2,3,4,5,6,7,8,9,10,11,12,13,14,15,16,17,18,0]) Y wt) ?_
 ·skip;intro x;have⟨⟨i,cd,lm,zu,E4,Ck,vD⟩,d7,ix⟩:=x;dsimp only;have d7:i<=ns:=d7;have ix:mQ c pk t ss i cd lm vD:=ix;have ap:(vD.map ic).length=vD.length:=bh _;have awz:=ix.rl;by_cases ai:i<ns;rotate_left;skip;rotate_left;have ju:=hs i G;have NC:small (Z sa i).next:=by have h8:=ju.nx;have h9:=ju.n0;exact⟨G,G⟩
  have fd:0<=c.bn-bI (Z ss i).base (Z sa i).next:=by rw[ju.bI];have:=ju.room;omega
  have Ad:=hc.bn.1;have N6:=hc.bn.2;have jQ:=ht.n;have hcn:=VZ i G;have hpr:=hc.P3;have Ns:=ix.new;refine B ?_;refine⟨_,mr ai,B ?_⟩;(refine aq.wf (f:=188) (b:=16) rfl (fun iX=>?_);(conv=>whnf));refine(amZ _ _ _ _ _ _ _ _ _ _ _ _ _ _ _ _ _ _ G G G ju.ok G G G G G G _).call [0,1,2,3,4,5,6,7,8,9,11,12,13,15,19] Y Y1 (C8 (C8 (C8 (C8 Y3)))) ?_;rintro _ _ (⟨rfl,rfl⟩|⟨u1,u2,E5,g4,iP,avq,G0,rfl,rfl⟩);refine B ?_;refine⟨⟨(i+1,cd,lm,zu,E4,Ck,vD),by show i+1<=ns;omega,by have:=ix.skip [];rwa[yM]at this⟩,by show ns-(i+1)<ns-i;omega,.of D1 Y (B ?_)⟩;exact acx;refine B ?_;refine dT (fun kP=>?_) fun kP=>?_;refine B ?_;exact⟨⟨(i+1,cd,lm,zu,E4,Ck,vD),by show i+1<=ns;omega,by have:=ix.skip [];rwa[yM]at this⟩,by show ns-(i+1)<ns-i;omega,.of D1 Y wt⟩;refine B ?_;refine cc.eX (p:=12) rfl (show i<sa.length by omega) (B ?_);refine aL.call (p:=14) (apM _ _ _ G _ _ _ G aM) rfl (B ?_);refine⟨fun Db=>?_,fun Db=>?_⟩;simp only[bs,bX,dN,dO,c5,dP,bR,dG,dH,dQ,dk,c6,dR,dL,dS,dh,ne_eq,dZ]at Db;exact J4;simp only[bs,bX,dN,dO,c5,dP,bR,dG,dH,dQ,dk,c6,dR,dL,dS,dh,ne_eq,dZ]at Db;refine B ?_;refine(amU _ _ _ _ _ _ _ _ _ _ _ _ _ _ _ _ _ _ G (Ze ju ‹_›) G (fun d hd=>(Zf ht ju hq h6 ‹∀d∈_,tN _ _ _ d› d hd).1.1)).LA [0,1,2,3,4,5,6,7,8,15] Y dC Y Y1 (C8 (C8 (C8 Y7))) Y (B ?_);refine(aal _ _ _ _ _ _ _ _ _ _ _ _ _ _ _ G G).lP [0,1,2,3,4,5,6,7,8,9] Y dC Y1 (C8 (C8 (C8 Y7))) Y (B ?_);refine(agb _ (by(simp only[lens,bh,wb];omega)) _ _ _ _ _).XR Y3 (B ?_);refine dT (fun Nd=>?_) fun Nd=>?_;refine B ?_;refine⟨by(have h9:=Zg ht ju hq h6 ‹∀d∈_,tN _ _ _ d› ‹_› rfl ‹_›;have h8:=h9.1;have h7:=h9.2.1;omega),B ?_⟩;refine⟨by(rw[O3];exact Ns),?_⟩;refine B ?_;refine⟨sM,?_⟩;refine B ?_;(refine⟨⟨(i+1,cd++[(u2,E5,et c.tries (Z ss i).pend++u1)],gb lm (i:Int) (u2,(q7 (lens pk ((et c.tries (Z ss i).pend++u1).take (min (et c.tries (Z ss i).pend++u1).length 32))) c.cp c.hZ c.gY (fu c t i).1 (fu c t i).2).toNat,E5) zu,pe lm (i:Int) zu,gb E4 (i:Int) (wP (lens pk ((et c.tries (Z ss i).pend++u1).take (min (et c.tries (Z ss i).pend++u1).length 32))) c.cp c.hZ c.gY (fu c t i).1 (fu c t i).2) Ck,pe E4 (i:Int) Ck,vD++[(i:Int)]),by show i+1<=ns;omega,ix.take (Zg ht ju hq h6 ‹∀d∈_,tN _ _ _ d› ‹_› rfl ‹_›).2.2 zu⟩,by show ns-(i+1)<ns-i;omega,.of (lS [1,2,3,4,5,6,7,8,9,10,11,12,13,14,15,16,17,18,25]) Y ?_⟩);refine B ?_;refine⟨by exact(a_ _ G G).trans sM,?_⟩;refine B ?_;refine⟨by exact atI iX Ns rfl,B ?_⟩;refine⟨by exact agG Ns,B ?_⟩;refine⟨by exact O5 n9 _ _ _ _,B ?_⟩;refine⟨by exact qw n9 _ _ _,B ?_⟩;exact⟨by exact H4 _ _,wt⟩;exact J4;refine B ?_;refine .same (B ?_);(refine aq.ajI (f:=190) 18 ?_;(conv=>whnf));refine k9.call (p:=10) (ar3 _ _ _ G) rfl ?_;rintro _ _ ⟨u59,u60,g61,rfl,rfl⟩;refine B ?_;refine dT (fun Ng=>?_) fun Ng=>?_;refine B ?_;refine(pD _ _ _ _ _ _ _ _ _ _ _ _ _ _ _ _ _ _ _ G).call [0,1,2,3,4,5,6,7,8,19] Y Y6 (C8 (C8 (C8 Y6))) ?_;rintro _ _ ⟨rfl,rfl⟩;refine B ?_;exact a6.cm (lS [1,2,3,4,5,6,0,8,9,10,11,12,13,14,15,16,20]) _ _ Y Y (.inl ⟨cd,rfl,rfl⟩) wt;refine B ?_;(obtain⟨s0,x0,ami,l0,e0,e1,e2,e3,rm⟩:=ix.look ((‹_=(0:Int)->_∈vD›) (dk.1 ‹¬¬_=(0:Int)›));subst e0;have GG:=rm.id0;have aig:1<=(Z l0 0).id:=GG.1;have LE:(Z l0 0).id<=pk.length:=GG.2;have hw:IntKind.i64.wrap ((Z l0 0).id-1)=(Z l0 0).id-1:=a_ _ G G;have aik:=rm.n1;have e10:=rm.nl;refine nG.of rfl (fun a0 iS=>?_) (fun awn=>?_));exact j7;exact j7
def XK{l}(h:l≠[]):(Instr.least l).isSome=true:=by cases l with|nil=>simp_all|cons x l=>first|rfl|(unfold Instr.least;simp)
def apd(p:String->Bool)(f:String->String)(missing)(x)(am:x∈missing):(match List.partition p missing with|(Rb,ex)=>(Instr.least ex<|>Instr.least (List.map f Rb))).isNone=false:=by
 rw[ad5];simp only;by_cases hc:p x=true;have E:=Ko (oE.2 ⟨am,hc⟩);cases F:Instr.least (List.filter (not∘p) missing)with
 |some y=>rfl
 |none=>
  have h3:((List.filter p missing).map f)≠[]:=by simpa using E
  have h4:=XK h3;simp_all
 have E:List.filter (not∘p) missing≠[]:=Ko (oE.2 ⟨am,by simpa using hc⟩);have h4:=XK E;revert h4;cases Instr.least (List.filter (not∘p) missing)<;>simp
def anI{want}{p0}{e}(H:e∈want.toList)(hn:(p0.any fun m=>m.name==e.1&&m.sig==e.2)=false):(Instr.missingMethod want p0).isNone=false:=by
 unfold Instr.missingMethod;simp only;generalize hm:(List.map (fun x=>x.fst) (List.filter (fun x=>match x with|(name,sig)=> !p0.any fun m=>m.name==name&&m.sig==sig) want.toList))=missing;have am:e.1∈missing:=by exact ac2
 exact apd _ _ missing e.1 am
def Xu(P:Program)(e:TypeId×TypeId×Bool):Bool:=match P.underlying e.1,P.info? e.2.1 with
 |some (.interface ms),some i=>match e.2.2 with|true=>ms.toList.all fun x=>i.methods.any fun m=>m.name==x.1&&m.sig==x.2|false=>ms.toList.any fun x=> !(i.methods.any fun m=>m.name==x.1&&m.sig==x.2)
 |_,_=>false
def alT{P}{t ag:TypeId}(h:Xu P (t,ag,false)=true):KS P t ag false:=by unfold Xu at h;split at h;rename_i ms i E F;have⟨x,hx,hn⟩:=sv.1 h;exact⟨ms,i,E,F,anI hx (by simpa using hn)⟩;simp_all
def aou:KS prog 268 130 false:=alT (by kernel_rfl)
def ahu(c)(P)(slot time lost)(rl)(nq ns)(pk)(ac)(lg)(tm:List (Int×Nat×Nat))(ck)(t)(NR)(qs)(sa)(ss)(ch)(z b:Nat) (hc:d_ c)(ht:oN c t)(E:sa.length=ns)(F:ss.length=ns)(h3:ch.length=ns)(h4:t.sts.length=ns)(h5:qs.length=nq)(h6:qs.length=t.fls.length)(hz:z<=100)(M:b<=8900) (hq:∀f,f<qs.length->gu z (Qf pk f) (Z qs f))(hs:∀i,i<ss.length->cQ c b (Qs pk t i) (Z ss i) (Z sa i).next)(VZ:∀i,i<ch.length->(Z ch i).n<=1000000)(hp:pk.length<=100000)(hl:lg.length<=999999999):al prog 74 [.ptr 0 0] (KR c P slot time lost rl nq ns pk ac lg tm ck t NR qs sa ss ch) (fun s I=>(∃cd,s=.tup [.int .i64 0,.nils,.int .i64 0]/\I=[MF c P slot time lost 1 2 3 4 5 16,j0 rl,nh P nq,nm P ns,nf pk,jn ac,.dead,py P,nn P tm ck,.asn (cM P.t t),.asn (fI P.d NR),.asn (aI (fun i=>[P.q i]) (qs.map HQ)),.asn (fL P sa),.asn (aI (fun i=>[P.e i]) (ss.map HS)),.asn (aI (fun i=>[P.c i]) (ch.map (gi c.kind c.pk c.pn))),.asn (h_ cd),e5 (lg++[⟨slot,5,-1,0,6,-1⟩])])\/∃(ah:Nat)(u n cap j:Nat)(cd:List (Nat×Nat×List Cd))(l:List Cd),ah<ns/\cd[j]?=some (u,cap,l)/\lL c pk t ss (fu c t ah) ah l n/\s=.tup [.int .i64 (ah:Int),.rl u n cap,.int .i64 0]/\I=[MF c P slot time lost 1 2 3 4 5 16,j0 rl,nh P nq,nm P ns,nf pk,jn ac,.dead,py P,nn P tm ck,.asn (cM P.t t),.asn (fI P.d NR),.asn (aI (fun i=>[P.q i]) (qs.map HQ)),.asn (fL P sa),.asn (aI (fun i=>[P.e i]) (ss.map HS)),.asn (aI (fun i=>[P.c i]) (ch.map (gi c.kind c.pk c.pn))),.asn (h_ cd),e5 (lg++[⟨slot,5,(ei pk (Z l 0).id).aR,0,1,(ah:Int)⟩])]):=by
 refine al.ar aj func74 Y rfl (B ?_);refine⟨⟨false,aou,fun h=>absurd h dC,fun _=>?_⟩⟩;refine B ?_;refine(aui _ _ _ _ _ _ _ _ _ _ _ _ _ _ _ _ _ _ _ _ _ aM aM aM aM aM aM aM aM aM aM aM aM aM aM aM).call [0,1,2,3,4,5,6,7,8,9,10,11,12,13,14,15,16] Y trivial (C8 (C8 (C8 (C8 Y4)))) ?_;rintro _ _ (⟨u0,rfl,rfl⟩|⟨u1,u2,E5,axC,at9,axD,axE,avr,avs,g10,rfl,rfl⟩);·refine B ?_;(refine a6.cm Ya _ _ Y Y (.inl ⟨u0,rfl,rfl⟩) ?_;(conv=>whnf);(repeat(first|exact trivial|rfl|(refine⟨rfl,?_⟩;(conv=>whnf)))))
 ·refine B ?_;(refine a6.cm Ya _ _ Y Y (.inr ⟨_,_,_,_,_,_,_,‹_›,‹_›,‹lL _ _ _ _ _ _ _ _›,rfl,rfl⟩) ?_;(conv=>whnf);(repeat(first|exact trivial|rfl|(refine⟨rfl,?_⟩;(conv=>whnf)))))
def aW.up{c}{z b}{S}(h:aW c z b S){z' b'}(hz:z<=z')(d8:z'<=100)(M:b<=b')(ld:b'<=8900):aW c z' b' S:=
 {h with
  zb:=⟨d8,ld,by have:=h.zb;omega⟩
  slot:=by have:=h.slot;omega
  pkn:=by have:=h.pkn;omega
  qs:=fun f hf=>(h.qs f hf).mono hz fun _ h=>h
  ss:=fun i Q=>(h.ss i Q).mono G G fun _ h=>h
  rs:=fun i Q=>(h.rs i Q).up (gF _) G G M G
  ch:=fun i Q=>by have:=h.ch i Q;omega
  nl:=by have:=h.nl;omega
  nr:=by have:=h.nr;omega
  acl:=by have:=h.acl;omega
  lgn:=by have:=h.lgn;omega}
structure lN(t t':Tb):Prop where
 n:t'.fls.length=t.fls.length
 s:t'.sts=t.sts
 id:∀f,f<t.fls.length->(cV t'.fls f).2.id=(cV t.fls f).2.id
 st:∀f,f<t.fls.length->(cV t'.fls f).2.st=(cV t.fls f).2.st
 r:t'.cJ=t.cJ
def lN.refl(t):lN t t:=⟨rfl,rfl,fun _ _=>rfl,fun _ _=>rfl,rfl⟩
def lN.bE{t t'}(h:lN t t'):bE t'=bE t:=by unfold Go.Proofs.YtfkepgkmobgleaaGreatDoor.bE;refine jh fun i=>?_;rw[bz,bz];by_cases Q:i<t.fls.length;rw[uJ Q,uJ (show i<t'.fls.length by rw[h.n];exact Q)];show some (cV t'.fls i).2.st=some (cV t.fls i).2.st;rw[h.st i Q];rw[pF (l:=t'.fls) (by have:=h.n;omega),pF (l:=t.fls) G]
def lN.ok{c}{t t'}(h:lN t t')(ht:oN c t):oN c t':=
 ⟨by rw[h.n];exact ht.n,by rw[h.s];exact ht.m,fun f hf=>by
  rw[h.n]at hf
  rw[h.id f hf,h.st f hf,h.s];exact ht.fl f hf,fun i Q=>by rw[h.s]at Q⊢;exact ht.st i Q,h.r.trans ht.rt⟩
def lN.qs{t t'}(h:lN t t'){pk}{i}{id}(hq:Qs pk t i id):Qs pk t' i id:=by obtain⟨a,f,b,c1,d⟩:=hq;exact⟨a,f,b,by rw[h.n];exact c1,by rw[h.st f c1];exact d⟩
def aW.tab{c}{z b}{S}(h:aW c z b S){t'}(hs:lN S.t t')(hh:∀f∈S.ac,t'.has f=true):aW c z b {S with t:=t'}:=by
 have hc:re c {S with t:=t'}=re c S:=by unfold re;show Ctx.mk (bE t') (t'.sts.map _) _=_;rw[hs.bE,hs.s]
 exact{h with
  pks:=fun i Q=>by
   obtain⟨a,f,b1,c1,d⟩:=h.pks i Q
   exact⟨a,f,b1,by show f<t'.fls.length;rw[hs.n];exact c1,d⟩
  tb:=hs.ok h.tb
  nq:=h.nq.trans hs.n.symm
  ns:=by show S.sa.length=t'.sts.length;rw[hs.s];exact h.ns
  ss:=fun i Q=>(h.ss i Q).mono (gF _) (by have:=(h.ss i Q).top;exact this) fun _ hq=>hs.qs hq
  acs:=fun f hf=>⟨hh f hf,(h.acs f hf).2⟩
  log:=by rw[hc];exact h.log}
def ED{t:Tb}{id}{f}(hh:t.has id=true)(j):cV (t.put id f).fls j=if id.toNat=j then(true,f)else cV t.fls j:=by simp only[Tb.has,bR,bs]at hh;unfold Tb.put cV;grind
def Z0{t}{id}{f}(hh:t.has id=true)(E:f.id=(t.fl id).id)(F:f.st=(t.fl id).st):lN t (t.put id f)/\∀k,t.has k=true->(t.put id f).has k=true:=by
 have hl:(t.put id f).fls.length=t.fls.length:=by unfold Tb.put;simp
 refine⟨⟨hl,rfl,fun j hj=>?_,fun j hj=>?_,rfl⟩,fun k o=>?_⟩;rw[ED hh];split;rename_i e;subst e;exact E;rfl;rw[ED hh];split;rename_i e;subst e;exact F;rfl;unfold Tb.has at o⊢;rw[hl,ED hh];grind
def acD{ab:Prop}(k:ab:=by split;exact⟨.refl _,fun _ h=>h⟩;split;exact⟨.refl _,fun _ h=>h⟩;rename_i h _;exact Z0 (by simpa using h) rfl rfl):ab:=k
def agr(t)(id a b):lN t (t.nj id a b).2/\∀k,t.has k=true->(t.nj id a b).2.has k=true:=by unfold Tb.nj;exact acD
def Gl(t)(id a b):lN t (t.pw id a b).2/\∀k,t.has k=true->(t.pw id a b).2.has k=true:=by unfold Tb.pw;exact acD
def auD(t)(id w):lN t (t.ow id w).2/\∀k,t.has k=true->(t.ow id w).2.has k=true:=by unfold Tb.ow;split;exact⟨.refl _,fun _ h=>h⟩;split;exact⟨.refl _,fun _ h=>h⟩;split;exact⟨.refl _,fun _ h=>h⟩;rename_i h _ _;have:=Z0 (t:=t) (f:={t.fl id with w:=w}) (by simpa using h) rfl rfl;exact⟨⟨this.1.n,this.1.s,this.1.id,this.1.st,this.1.r⟩,fun k o=>this.2 k o⟩
def arB(t)(id):lN t (t.remove id).2/\∀k,k≠id->t.has k=true->(t.remove id).2.has k=true:=by
 unfold Tb.remove;split;exact⟨.refl _,fun _ _ h=>h⟩;rename_i hh;have hh:t.has id=true:=by simpa using hh
 simp only[Tb.has,bR,bs]at hh;have key:∀j,cV (t.fls.set id.toNat (false,t.fl id)) j=if id.toNat=j then(false,t.fl id)else cV t.fls j:=fun j=>by unfold cV;grind
 refine⟨⟨sM,rfl,fun j hj=>?_,fun j hj=>?_,rfl⟩,fun k o hy=>?_⟩;show(cV (t.fls.set _ _) j).2.id=_;rw[key];split;rename_i e;subst e;rfl;rfl;show(cV (t.fls.set _ _) j).2.st=_;rw[key];split;rename_i e;subst e;rfl;rfl;simp only[Tb.has,bR,bs]at hy⊢;grind
def aW.say{c}{z b}{S}(h:aW c z b S)(R)(hR:∀r∈R,plain r){z'}(hn:S.lg.length+R.length<=1000000*z')(hz:z<=z')(d8:z'<=100):aW c z' b {S with lg:=S.lg++R}:=by
 have h':=h.up hz d8 (aC b) h.zb.2.1
 exact{h' with
  lgn:=by simp_all
  log:=h.log.Et R hR
  acc:=h.acc.others R fun r D=>(hR r D).2.2}
def aw7{α:Type}(l)(t:List α):l<+:l++t:=⟨t,rfl⟩
def L6{l}{x}{j}(hj:j<l.length+1):cV (l++[x]) j=if j=l.length then x else cV l j:=by unfold cV;grind
def ZI{pk}{p}{id}(h:ie pk id):ei (pk++[p]) id=ei pk id:=by unfold ei;rw[oe (by have:=h.1;have:=h.2;omega),ay (by have:=h.1;have:=h.2;omega)]
def W_{pk}{p}{id}(h:ie pk id):ie (pk++[p]) id:=⟨h.1,by have:=h.2;grind⟩
def Tb.more(t:Tb)(f:Fl)(x:Int):Tb:={t with fls:=t.fls++[(true,f)],total:=x}
def aeL(t)(st w):((t.gw st w).2.1≠0/\(t.gw st w).2.2=t)\/(0<=st/\st<t.sts.length/\t.fls.length≠32/\∃f x,f.id=(t.fls.length:Int)/\f.st=st/\t.gw st w=((t.fls.length:Int),0,Tb.more t f x)):=by unfold Tb.gw;split;simp_all;split;simp_all;split;simp_all;split;simp_all;exact .inr ⟨G,G,G,⟨t.fls.length,st,w,64,262144,1099511627776,1099511627776⟩,W (t.total+w),rfl,rfl,rfl⟩
def aW.aR{c}{z b}{S}(h:aW c z b S){f:Fl}{x}(h0:0<=f.st)(E:f.st<S.t.sts.length)(F:S.t.fls.length≠32)(hid:f.id=(S.t.fls.length:Int))(P'):aW c z b {S with t:=Tb.more S.t f x,qs:=S.qs++[⟨64,262144,[],0⟩],P:=P'}/\bE (Tb.more S.t f x)=bE S.t++[f.st]:=by
 have hn:=h.tb.n;have hs:bE (Tb.more S.t f x)=bE S.t++[f.st]:=by unfold bE Tb.more;simp
 refine⟨{h with
  pks:=fun i Q=>by
   obtain⟨a,u,b1,c1,d⟩:=h.pks i Q
   exact⟨a,u,b1,by show u<(S.t.fls++[_]).length;simp;omega,d⟩
  tb:=⟨by show(S.t.fls++[_]).length<=32;simp;omega,h.tb.m,fun u U=>by
   have U:u<S.t.fls.length+1:=by simpa[Tb.more]using U
   show(cV (S.t.fls++[(true,f)]) u).2.id=_/\∃s:Nat,(cV (S.t.fls++[(true,f)]) u).2.st=_/\s<S.t.sts.length
   rw[L6 U]
   split
   ·rename_i e;subst e;exact⟨hid,f.st.toNat,by grind,G⟩
   ·exact h.tb.fl u G,h.tb.st,h.tb.rt⟩
  nq:=by show(S.qs++[_]).length=(S.t.fls++[_]).length;simp;exact h.nq
  qs:=fun u U=>by
   have U:u<S.qs.length+1:=by simpa using U
   show gu z (Qf S.pk u) (Z (S.qs++[_]) u)
   rw[oe U]
   split
   ·exact⟨cx _,fun p hp=>by simp at hp⟩
   ·exact h.qs u G
  ss:=fun i Q=>(h.ss i Q).mono (gF _) (h.ss i Q).top fun id hq=>by
   obtain⟨a,u,b1,c1,d⟩:=hq
   exact⟨a,u,b1,by show u<(S.t.fls++[_]).length;simp;omega,by show(cV (S.t.fls++[_]) u).2.st=_;rw[L6 G,ay G];exact d⟩
  acs:=fun u U=>by
   obtain⟨a,d⟩:=h.acs u U
   refine⟨?_,d⟩
   simp only[Tb.has,bR,bs]at a⊢
   refine⟨⟨a.1.1,by show u<((S.t.fls++[_]).length:Nat);simp;omega⟩,?_⟩
   show(cV (S.t.fls++[_]) u.toNat).1=true
   rw[L6 G,ay G];exact a.2
  log:=by refine jj.mono ?_ h.log;exact⟨by show bE S.t<+:bE (Tb.more S.t f x);simp_all,BE _,BE _⟩},hs⟩
def Tb.AE(t:Tb)(s:St)(e:List UInt8×Int×Nat):Tb:={t with sts:=t.sts++[s],names:=t.names++[e],ck:=t.ck+1}
def Tj(t)(f:List UInt8×Int)(name)(w r):((t.lb f name w r).2.1≠0/\(t.lb f name w r).2.2=t)\/(1<=w/\w<=16/\0<=r/\r<t.cJ/\t.sts.length≠16/\t.lb f name w r=((t.sts.length:Int),0,Tb.AE t ⟨t.sts.length,name,w,r⟩ (f.1,(t.sts.length:Int),t.ck))):=by
 unfold Tb.lb;split;simp_all;split;simp_all;split;simp_all;split;simp_all;split;simp_all;split;simp_all;rename_i E F h3 h4 h5 h6;have hw:nv w=true:=by simpa using F
 simp only[nv,bs]at hw;exact .inr ⟨hw.1,hw.2,G,G,G,rfl⟩
def aW.k5{c}{z b}{S}(hc:d_ c)(h:aW c z b S){s:St}{e}(hid:s.id=(S.t.sts.length:Int))(w0:1<=s.w)(w1:s.w<=16)(r0:0<=s.iC)(r1:s.iC<c.cJ.length)(F:S.t.sts.length≠16)(P')(x)(hx:x.n=0/\x.r=0):aW c z b {S with t:=Tb.AE S.t s e,sa:=S.sa++[⟨0,0⟩],ss:=S.ss++[⟨c.bn,c.tries,0,[]⟩],rs:=S.rs++[⟨c.bn,0,[],0⟩],ch:=S.ch++[x],P:=P'}/\(Tb.AE S.t s e).sts.map (fun s=>Z c.cJ s.iC.toNat)=S.t.sts.map (fun s=>Z c.cJ s.iC.toNat)++[Z c.cJ s.iC.toNat]:=by
 have hm:=h.tb.m;have mZ:=h.ns;have Nz:=h.nss;have WC:=h.nrs;have hn4:=h.nch;have M:=h.zb
 refine⟨{h with
  tb:=⟨h.tb.n,by show(S.t.sts++[_]).length<=16;simp;omega,fun u U=>by
   obtain⟨a,s1,b1,c1⟩:=h.tb.fl u U
   exact⟨a,s1,b1,by show s1<(S.t.sts++[_]).length;simp;omega⟩,fun i Q=>by
   have Q:i<S.t.sts.length+1:=by simpa[Tb.AE]using Q
   show(Z (S.t.sts++[s]) i).id=_/\1<=(Z (S.t.sts++[s]) i).w/\(Z (S.t.sts++[s]) i).w<=16/\∃r:Nat,(Z (S.t.sts++[s]) i).iC=_/\r<c.cJ.length
   rw[oe Q]
   split
   ·rename_i e;subst e;exact⟨hid,w0,w1,s.iC.toNat,G,G⟩
   ·exact h.tb.st i G,h.tb.rt⟩
  ns:=by show(S.sa++[_]).length=(S.t.sts++[_]).length;simp;exact mZ
  nss:=by simp_all
  nrs:=by simp_all
  nch:=by simp_all
  ss:=fun i Q=>by
   have Q:i<S.ss.length+1:=by simpa using Q
   show cQ c b (Qs S.pk (Tb.AE S.t s e) i) (Z (S.ss++[_]) i) (Z (S.sa++[_]) i).next
   rw[oe Q,oe G,Nz]
   split
   ·exact⟨rfl,rfl,hc.bn,hc.tries,rfl,⟨gF _,by simp_all⟩,G,sM,fun p hp=>by simp at hp,by show(0:Int)-0<=c.bn;have:=hc.bn;omega,fun p hp=>by simp at hp,fun p hp=>by simp at hp⟩
   ·exact h.ss i G
  rs:=fun i Q=>by
   have Q:i<S.rs.length+1:=by simpa using Q
   show cT S.pk.length b b (Z (S.rs++[_]) i)
   rw[oe Q]
   split
   ·exact⟨hc.bn,⟨gF _,by simp_all⟩,G,fun e H=>by simp at H,fun e H=>by simp at H,cx _,G⟩
   ·exact h.rs i G
  ch:=fun i Q=>by
   have Q:i<S.ch.length+1:=by simpa using Q
   show(Z (S.ch++[x]) i).n<=z/\0<=(Z (S.ch++[x]) i).r/\(Z (S.ch++[x]) i).r<=(z:Int)
   rw[oe Q]
   split
   ·omega
   ·exact h.ch i G
  log:=by refine jj.mono ?_ h.log;exact⟨BE _,by show S.t.sts.map _<+:(S.t.sts++[s]).map _;simp_all,BE _⟩},by unfold Tb.AE;simp⟩
def aW.ao5{c}{z b}{S}(h:aW c z b S){p}{f:Nat}(hf:p.aR=(f:Int))(f1:f<S.t.fls.length)(f3:f<=3)(hid:p.id=(S.pk.length:Int)+1){r}(k1:r.kind=1)(k2:r.fR=p.id)(k3:r.val=p.len)(hz:z+1<=100):aW c (z+1) b {S with pk:=S.pk++[p],qs:=S.qs.set f (lC (Z S.qs f) p).2,sts:=S.sts++[1],lg:=S.lg++[r]}:=by
 have M:=h.zb;have h':=h.up (e7 z) hz (aC b) M.2.1;have hpn:=h.pkn;have hq:f<S.qs.length:=by rw[h.nq];exact f1
 have new:∀k:Nat,p.aR=(k:Int)->Qf (S.pk++[p]) k p.id:=fun k o=>⟨⟨G,by simp_all⟩,by unfold ei;rw[oe G,au G];exact o⟩;have old:∀k id,Qf S.pk k id->Qf (S.pk++[p]) k id:=fun k id o=>⟨W_ o.1,by rw[ZI o.1];exact o.2⟩;have HA:(S.pk++[p]).length=S.pk.length+1:=sM
 exact{h' with
  pkn:=by simp_all
  pks:=fun i Q=>by
   have Q:i<S.pk.length+1:=by simpa using Q
   show(Z (S.pk++[p]) i).id=_/\∃u:Nat,(Z (S.pk++[p]) i).aR=_/\u<S.t.fls.length/\u<=3
   rw[oe Q]
   split
   ·grind
   ·exact h.pks i G
  nq:=by show(S.qs.set _ _).length=_;rw[fV];exact h.nq
  qs:=fun u U=>by
   have U:u<S.qs.length:=by simpa using U
   show gu (z+1) (Qf (S.pk++[p]) u) (Z (S.qs.set f _) u)
   rw[qp hq]
   split
   ·rename_i e;subst e
    exact((h.qs f hq).mono (aC _) (old f)).push (new f hf)
   ·exact(h.qs u U).mono (e7 _) (old u)
  ss:=fun i Q=>(h.ss i Q).mono (gF _) (h.ss i Q).top fun id hq=>by
   obtain⟨a,u,b1,c1,d⟩:=hq
   exact⟨W_ a,u,by show(ei (S.pk++[p]) id).aR=_;rw[ZI a];exact b1,c1,d⟩
  rs:=fun i Q=>(h.rs i Q).up (by grind) (gF _) G (aC _) G
  life:=by show(S.sts++[_]).length=(S.pk++[p]).length;rw[HA,c_,h.life];rfl
  lgn:=by show(S.lg++[r]).length<=_;rw[c_,pK];have:=h.lgn;omega
  log:=by refine jj.other (jj.mono ?_ h.log) G G;exact⟨BE _,BE _,by show S.pk.map _<+:(S.pk++[p]).map _;simp_all⟩
  acc:=by
   show lH ((S.pk++[p]).map (·.len)) _
   rw[dx,List.map_singleton,<-k3]
   exact h.acc.acc k1 (by simp_all)}
structure jk(t:Tb)(cp:List St)(tm:List (Int×Nat×Nat))(ac:List Int):Prop where
 cps:∀e∈tm,e.2.1<cp.length
 acs:∀f∈ac,t.has f=true/\∃k,dJ tm f=some k
 acd:ac.Nodup
def Og{ac}{f:Int}(h:f∈ac):∃j:Nat,idxOf (fun y=>decide (f=y)) ac=(j:Int)/\j<ac.length/\ac[j]?=some f:=by rcases Ag (fun y=>decide (f=y)) ac with⟨_,F⟩|⟨i,x,E,_,h3,h4⟩<;>grind
def K6{ac}(hn:ac.Nodup){f u}(hf:f∈ac):u∈nH ac f↔u∈ac/\u≠f:=by have⟨j,E,F,h3⟩:=Og hf;unfold nH;rw[E,gh,List.mem_eraseIdx_iff_getElem?];constructor;rintro⟨i,Q,U⟩;refine⟨bN U,fun e=>Q ?_⟩;subst e;exact((ue F hn).1 (h3.trans U.symm)).symm;rintro⟨U,cW⟩;have⟨i,Q⟩:=fx.1 U;grind
def K5{ac}{f}:(nH ac f).length<=ac.length:=(Si _ _).length_le
def jk.leave{t}{cp}{tm}{ac}(h:jk t cp tm ac){f}(hf:f∈ac):jk t cp (iy tm f) (nH ac f):=by refine⟨fun e H=>h.cps e (IA H).1,fun u U=>?_,h.acd.sublist (Si _ _)⟩;have⟨a,b⟩:=(K6 h.acd hf).1 U;have⟨c,k,d⟩:=h.acs u a;exact⟨c,k,by rw[anG,ay b];exact d⟩
def jk.join{t}{cp}{tm}{ac}(h:jk t cp tm ac){f}(hf:f∉ac)(ht:t.has f=true){wl}(hp:List.Perm wl (ac++[f]))(st)(ck):jk t (cp++[st]) (gb tm f cp.length ck) wl:=by refine⟨fun e H=>?_,fun u U=>?_,?_⟩;rw[c_,pK];rcases IF H with H|⟨_,e2⟩;have:=h.cps e H;omega;rw[e2];omega;rw[D4];rcases eJ.1 (hp.mem_iff.1 U)with U|U;have⟨a,k,b⟩:=h.acs u U;grind;simp_all;rw[hp.nodup_iff,List.nodup_append];exact⟨h.acd,sM,fun a ha b M e=>by simp_all⟩
structure M1(t:Tb)(cp:List St)(lg:List bG)(cl:List Int)(j:Nat)(tm:List (Int×Nat×Nat))(ac:List Int)(mc:List bG):Prop where
 vc:j<=cl.length
 ok:jk t cp tm ac
 rest:∀i u,j<=i->cl[i]?=some u->u∈ac
 len:ac.length<=cl.length
 log:∃R,mc=lg++R/\(∀r∈R,plain r)/\R.length<=j
def M1.stay{t}{cp}{lg}{cl}{j}{tm}{ac}{mc}(h:M1 t cp lg cl j tm ac mc)(hj:j<cl.length):M1 t cp lg cl (j+1) tm ac mc:=by have⟨R,a,b,c⟩:=h.log;exact⟨hj,h.ok,fun i u Q U=>h.rest i u G U,h.len,R,a,b,G⟩
def M1.leave{t}{cp}{lg}{cl}(hn:cl.Nodup){j}{tm}{ac}{mc}(h:M1 t cp lg cl j tm ac mc){f}(hf:cl[j]?=some f)(slot):M1 t cp lg cl (j+1) (iy tm f) (nH ac f) (mc++[⟨slot,7,f,0,0,0⟩]):=by have⟨R,a,b,c⟩:=h.log;have hj:=(ao.1 hf).1;have hm:=h.rest j f (aC _) hf;refine⟨hj,h.ok.leave hm,fun i u Q U=>?_,dF K5 h.len,R++[⟨slot,7,f,0,0,0⟩],by simp_all,fun r D=>?_,by simp_all⟩;rw[K6 h.ok.acd hm];refine⟨h.rest i u G U,fun e=>?_⟩;subst e;have:=(ue hj hn).1 (hf.trans U.symm);omega;exact R9
structure M2(t:Tb)(n0:Nat)(wn:Nat)(lg:List bG)(m:Nat)(j:Nat)(cp:List St)(tm:List (Int×Nat×Nat))(ac:List Int)(NR:Nat)(mc:List bG):Prop where
 qn:j<=m
 ok:jk t cp tm ac
 len:ac.length<=n0+j
 nr:NR<=wn+j
 log:∃R,mc=lg++R/\(∀r∈R,plain r)/\R.length<=n0+j
def M2.stay{t}{n0 wn}{lg}{m j}{cp}{tm}{ac}{NR}{mc}(h:M2 t n0 wn lg m j cp tm ac NR mc)(hj:j<m):M2 t n0 wn lg m (j+1) cp tm ac NR mc:=by have⟨R,a,b,c⟩:=h.log;have:=h.len;have:=h.nr;exact⟨hj,h.ok,G,G,R,a,b,G⟩
def M2.join{t}{n0 wn}{lg}{m j}{cp}{tm}{ac}{NR}{mc}(h:M2 t n0 wn lg m j cp tm ac NR mc)(hj:j<m){f}(hf:f∉ac)(ht:t.has f=true){wl}(hp:List.Perm wl (ac++[f]))(st)(ck)(slot w):M2 t n0 wn lg m (j+1) (cp++[st]) (gb tm f cp.length ck) wl (NR+1) (mc++[⟨slot,8,f,0,0,w⟩]):=by have⟨R,a,b,c⟩:=h.log;have E:=h.len;have F:=h.nr;have h3:=hp.length_eq;rw[c_,pK]at h3;refine⟨hj,h.ok.join hf ht hp st ck,G,G,R++[⟨slot,8,f,0,0,w⟩],by simp_all,fun r D=>?_,by grind⟩;exact R9
def Pc{α:Type}[Inhabited α]{l:List α}{n j}(hn:n<=l.length)(hj:j<n):Z l j∈l.take n:=by have:=od (l:=l.take n) (i:=j) sO;rwa[Ik hj]at this
def gV.cd{cd}{k u cap i f aa p}{l}(l'){t0:TypeId}{v}{h}{K}(hp:h[p]?=some (.asn (h_ cd)))(o:cd[k]?=some (u,cap,l))(I:aa=i*2+f)(xw:mU v True) (iU:cH tab [.ep 0 i f,v] [.row 274 2 (l.map Cd.cells)] 0 (.store t0 (.tmp 0) (.tmp 1)) fun s ws _=>s=.undef/\t_ ws [.row 274 2 (l.map Cd.cells)] fun E=>E=[.row 274 2 (l'.map Cd.cells)]/\K .undef [(p,.asn (h_ (cd.set k (u,cap,l'))))] [p]):gV prog t0 u aa v h K:=by
 have e:h_ (cd.set k (u,cap,l'))=im 274 2 ((cd.map Cb).set k (u,cap,l'.map Cd.cells)):=by unfold h_;rw[iH];rfl
 rw[e]at iU;exact gV.rows aj _ hp (wV o) I (fun _=>TX _) xw iU
def oL.idk{c}{b}{pk}{t}{ah}{qs}{sa}{ss}{sts}{l}{n j}{md}{fK}{cD}{dK}{l'}(h:oL c b (Qs pk t ah) ah qs sa ss sts l n j md fK cD dK l'){r}(hS:lL c pk t ss r ah l n):∀d∈l',ie pk d.id:=fun d hd=>by have⟨i,Q⟩:=fx.1 hd;have cj:=(ao.1 Q).1;rw[b8 cj]at Q;obtain rfl:Z l' i=d:=mJ Q;rw[h.id i];exact(hS.h_ _ (od (by rw[<-h.vf];exact cj))).1.1
def amT(c)(P)(slot time lost)(rl)(nq ns)(pk)(ac)(lg)(tm:List (Int×Nat×Nat))(ck)(cd:List (Nat×Nat×List Cd))(k u cap n:Nat)(l) (o:cd[k]?=some (u,cap,l))(hn:n<=l.length)(hl:l.length<=1000)(hp:pk.length<=100000)(hid:∀c∈l,ie pk c.id):al prog 131 [.ptr 0 0,.rl u n cap] (MH c P slot time lost rl nq ns pk ac lg tm ck++[.asn (h_ cd)]) (fun s I=>s=.sl 10/\I=MH c P slot time lost rl nq ns pk ac lg tm ck++[.asn (h_ cd),.row 3 1 (dv (lens pk (l.take n)))]):=
 XS c P slot time lost rl nq ns pk ac lg tm ck cd k u cap n l o hn hl hp hid
def wB.init{K Q}{N ah}{rs}(h:cT K Q N (Z rs ah))(sts)(NL n):wB K Q N ah rs sts NL n 0 rs sts NL []:=
 ⟨cx _,.refl _ _,h,rfl,G,fun r D=>by simp at D,cx _⟩
def oM.init{c}{b}{aV}{nx}{ah}{ss}(h:cQ c b aV (Z ss ah) nx)(sts)(m):oM c b aV nx ah ss sts m 0 ss sts []:=
 ⟨cx _,.refl _ _,h,rfl,fun r D=>by simp at D,cx _⟩
structure mP(c:bT)(b:Int)(aV:Int->Prop)(nx:Int)(ah:Nat)(pk:List Pk)(Q:Int)(N:Nat)(s2:List b7)(rs:List dj)(cv:List fa)(st1:List Int)(NL:Nat)(j:Nat)(s4:List b7)(gP:List dj)(j1:List fa)(i1:List Int)(kE:Nat)(R4:List bG)(ex:List Se):Prop where
 qn:j<=ex.length
 os:e_ ah s2 s4
 r6:e_ ah rs gP
 oa:e_ ah cv j1
 Zc:(Z j1 ah).next=nx
 sg:cQ c b aV (Z s4 ah) nx
 rg:cT pk.length Q N (Z gP ah)
 st:i1.length=st1.length
 nl:kE<=NL+288000
 pl:∀r∈R4,plain r
 len:R4.length<=288000+j
 w6:ex.length<=64
 GP:∀p∈ex,aV p.id
section
variable{c:bT} {b:Int} {aV:Int->Prop} {nx:Int} {ah:Nat} {pk:List Pk} {Q:Int} {N:Nat} {s2:List b7} {rs:List dj} {cv:List fa} {st1:List Int} {NL:Nat} {j:Nat} {s4:List b7} {gP:List dj} {j1:List fa} {i1:List Int} {kE:Nat} {R4:List bG} {ex:List Se}
def mP.init(os:e_ ah s2 s4)(r6:e_ ah rs gP)(oa:e_ ah cv j1)(hn:(Z j1 ah).next=nx)(sg:cQ c b aV (Z s4 ah) nx)(rg:cT pk.length Q N (Z gP ah))(st:i1.length=st1.length)(nl:kE<=NL+288000)(pl:∀r∈R4,plain r)(len:R4.length<=288000)(p:Se->Bool):mP c b aV nx ah pk Q N s2 rs cv st1 NL 0 s4 gP j1 i1 kE R4 ((Z s4 ah).pend.filter p):=
 ⟨cx _,os,r6,oa,hn,sg,rg,st,nl,pl,len,dF (wg _ _) sg.len,fun q hq=>sg.ids q (oE.1 hq).1⟩
def mP.step(h:mP c b aV nx ah pk Q N s2 rs cv st1 NL j s4 gP j1 i1 kE R4 ex)(hj:j<ex.length)(ha:ah<s2.length)(q){st5}(hs:st5.length=i1.length)(u)(slot aR id bZ):mP c b aV nx ah pk Q N s2 rs cv st1 NL (j+1) (s4.set ah (mz (Z s4 ah) q).2.2) gP j1 st5 kE (R4++wF u slot aR id bZ) ex:=by have h5:=h.len;have h6:=(Ga (u:=u) (slot:=slot) (aR:=aR) (id:=id) (bZ:=bZ)).2;refine⟨hj,h.os.set _,h.r6,h.oa,h.Zc,by rw[nK (by rw[h.os.1];exact ha)];exact h.sg.drop q,h.rg,hs.trans h.st,h.nl,fun r D=>?_,by grind,h.w6,h.GP⟩;rcases eJ.1 D with D|D;exact h.pl r D;exact Ga.1 r D
end
def za(ah:Nat)(cv sf:List fa):Prop:=e_ ah cv sf/\(Z sf ah).next=(Z cv ah).next
def za.set{ah}{cv}(h:ah<cv.length)(a):za ah cv (cv.set ah ⟨(Z cv ah).next,a⟩):=⟨(e_.refl _ _).set _,by rw[nK h]⟩
abbrev SZ(P:Pl)(t:Tb)(NL:Nat)(sts:List Int)(qs:List Qu)(sa:List fa)(ss:List b7)(rs:List dj)(cd:List (Nat×Nat×List Cd)):Hp:=
 [.asn (cM P.t t),.asn (gn P.l NL sts),.asn (aI (fun i=>[P.q i]) (qs.map HQ)),.asn (fL P sa),.asn (aI (fun i=>[P.e i]) (ss.map HS)),.asn (aI (fun i=>[P.r i]) (rs.map HR)),.asn (h_ cd)]
abbrev S0(c:bT)(P:Pl)(slot time lost:Int)(rl:List Rl)(nq ns:Nat)(pk:List Pk)(ac:List Int)(lg:List bG)(tm:List (Int×Nat×Nat))(ck:Nat)(t:Tb)(NL:Nat)(sts:List Int)(qs:List Qu)(sa:List fa)(ss:List b7)(rs:List dj)(cd:List (Nat×Nat×List Cd)):Hp:=
 MH c P slot time lost rl nq ns pk ac lg tm ck++SZ P t NL sts qs sa ss rs cd
abbrev yZ(c:bT)(P:Pl)(slot time lost:Int)(rl:List Rl)(nq ns:Nat)(pk:List Pk)(ac:List Int)(lg:List bG)(tm:List (Int×Nat×Nat))(ck:Nat)(t:Tb)(NL:Nat)(sts:List Int)(qs:List Qu)(sa:List fa)(ss:List b7)(rs:List dj)(cd:List (Nat×Nat×List Cd)):Hp:=
 ML 16 c P slot time lost rl nq ns pk ac tm ck++SZ P t NL sts qs sa ss rs cd++[e5 lg]
abbrev S1x:=Nat×List Qu×List fa×List b7×List Int×List Cd×List (Nat×Nat×List Cd)
def RT{ab:Prop}(k:ab:=by refine B ?_;refine⟨(Z ex j4).cells,Jz xF,B ?_⟩;refine(Tf _ _ _ _ _ _ _ _ _ _ _ _ _ _ _ _ _ _ _ _ _ aM aM aM aM aM G G aM aM).call [0,1,2,3,4,5,16,7,8,10,12,13,14,18] Y Y5 (C8 (C8 (C8 (C8 Y2)))) ?_;rintro _ _ ⟨rfl,rfl⟩;refine B ?_;refine⟨⟨(j4+1,s4.set ah (mz (Z s4 ah) (Z ex j4).seq).2.2,gP,j1,(if(gone i1 (Z gP ah) (Z ex j4).id)then iZ i1 (Z ex j4).id 4 else i1),kE,R4++wF (gone i1 (Z gP ah) (Z ex j4).id) slot (ei pk (Z ex j4).id).aR (Z ex j4).id 3,ex),hv.step xF xT _ (show(if(gone i1 (Z gP ah) (Z ex j4).id)then iZ i1 (Z ex j4).id 4 else i1).length=i1.length from(by split;exact Iu _ _ _;rfl)) _ _ _ _ _⟩,by show ex.length-(j4+1)<ex.length-j4;omega,.of anc Y (B ?_)⟩;refine⟨by exact(a_ _ G G).trans sM,B ?_⟩;exact⟨by(rw[sw];rfl),wt⟩):ab:=k
def RW{ab:Prop}(k:ab:=by refine B ?_;(refine a6.cm ane _ _ Y Y ⟨kE+(fp (Z gP ah) (Z s4 ah).base).1.length,_,q1,j1,s4,gP.set ah (fp (Z gP ah) (Z s4 ah).base).2,sP,cz,R4++gx slot pk (fp (Z gP ah) (Z s4 ah).base).1,(‹List.length _=List.length i1›).trans (hv.st.trans hx.st),by have:=u5.2.2;omega,hx.q,hx.oa.trans hv.oa,(hx.os.trans hy.os).trans hv.os,hv.r6.set _,by rw[hv.Zc];exact hv.sg.mono G G (fun _ h=>h),by rw[nK NS];exact u5.1,atp hx.vf hx.id (akB▸hy.Qg),fun r D=>(eJ.1 D).elim (hv.pl r) (I2 r),by(have:=u5.2.2;rw[c_];simp only[gx,bh];omega),rfl,rfl⟩ ?_;(conv=>whnf);(repeat(first|exact trivial|rfl|(refine⟨rfl,?_⟩;(conv=>whnf))|(refine⟨by simp only[sw],?_⟩;(conv=>whnf)))))):ab:=k
def asN(c)(P)(slot time lost)(rl)(nq ns)(pk)(ac)(lg)(tm:List (Int×Nat×Nat))(ck)(t)(NL)(sts)(qs)(sa)(ss)(rs)(cd:List (Nat×Nat×List Cd))(k u cap n ah:Nat)(l)(zI)(b:Nat) (o:cd[k]?=some (u,cap,l))(hS:lL c pk t ss (fu c t ah) ah l n)(ht:oN c t)(a1:ah<ns)(E:sa.length=ns)(F:ss.length=ns)(h3:rs.length=ns)(h4:t.sts.length=ns)(h5:qs.length=nq)(h6:qs.length=t.fls.length) (hq:∀f,f<qs.length->(Z qs f).pk.length<=1000000)(hs:cQ c b (Qs pk t ah) (Z ss ah) (Z sa ah).next)(D:cT pk.length b b (Z rs ah))(M:b+64<=8900)(hp:pk.length<=100000)(Vw:NL<=900000000)(hl:lg.length<=900000000):al prog 75 [.ptr 0 0,.int .i64 (ah:Int),.rl u n cap,.bool zI] (S0 c P slot time lost rl nq ns pk ac lg tm ck t NL sts qs sa ss rs cd) (fun s I=>∃m7 dK md fK cD fq LD cz R,dK.length=sts.length/\m7<=NL+300000/\la qs md/\e_ ah sa fK/\e_ ah ss cD/\e_ ah rs fq/\cQ c ((b+64:Nat):Int) (Qs pk t ah) (Z cD ah) (Z fK ah).next/\cT pk.length ((b+64:Nat):Int) (b+64) (Z fq ah)/\mC pk cz (l.take n)/\(∀r∈R,plain r)/\R.length<=300000/\s=.tup []/\I=yZ c P slot time lost rl nq ns pk ac (lg++cz++R) tm ck t m7 dK md fK cD fq LD):=by
 refine al.ar aj func75 Y rfl ?_;have gJ:=kx P.s ns;have u4:=kx P.q nq;have hg:(pk.map Pk.cells).length=pk.length:=bh _;have awj:=hS.n32;have hH:=hS.nl;have awd:=hS.len;have has:ah<ss.length:=G;have VK:ah<sa.length:=G;have alg:cT pk.length ((b+64:Nat):Int) b (Z rs ah):=D.up (gF _) G G (aC _) G;have alh:cT pk.length ((b+64:Nat):Int) (b+64) (Z rs ah):=D.up (gF _) G G G G;refine B ?_;refine⟨_,mr a1,B ?_⟩;refine b6.cq aj 210 (fun x:{x:S1x//oL c b (Qs pk t ah) ah qs sa ss sts l n x.1 x.2.1 x.2.2.1 x.2.2.2.1 x.2.2.2.2.1 x.2.2.2.2.2.1/\x.2.2.2.2.2.2[k]?=some (u,cap,x.2.2.2.2.2.1)}=>[(0,.ptr 0 0),(1,.int .i64 (ah:Int)),(2,.rl u n cap),(3,.bool zI),(8,.ra (P.s ah) 0),(32,.rl u n cap),(33,.int .i64 (n:Int)),(34,.int .i64 (x.1.1:Int))]) (fun x=>S0 c P slot time lost rl nq ns pk ac lg tm ck t NL x.1.2.2.2.2.1 x.1.2.1 x.1.2.2.1 x.1.2.2.2.1 rs x.1.2.2.2.2.2.2) (fun x=>n-x.1.1) ⟨(0,qs,sa,ss,sts,l,cd),.init hs hS.sQ,o⟩ (.of OU Y wt) ?_
 ·skip;intro x;have⟨⟨j,q1,cv,s1,st1,l1,sP⟩,hx,bi⟩:=x;dsimp only;have hx:oL c b (Qs pk t ah) ah qs sa ss sts l n j q1 cv s1 st1 l1:=hx;have bi:sP[k]?=some (u,cap,l1):=bi;have tg:ah<s1.length:=by rw[hx.os.1];exact has
  have d6:ah<cv.length:=by rw[hx.oa.1];exact VK
  by_cases ai:j<n;rotate_left;have No:j=n:=by have:=hx.vc;omega
  have WS:cQ c ((b+n:Nat):Int) (Qs pk t ah) (Z s1 ah) (Z cv ah).next:=(hx.sg).mono G G (fun _ h=>h)
  rotate_left;have sY:=hS.wW _ (Pc hS.nl ai);have Hu:1<=(Z l j).id:=sY.1.1.1;have Nl:(Z l j).id<=pk.length:=sY.1.1.2;have⟨f,xx,zN,zO⟩:=sY.1.2;have hw:IntKind.i64.wrap ((Z l j).id-1)=(Z l j).id-1:=a_ _ G G;have jQ:(ei pk (Z l j).id).aR.toNat=f:=by rw[xx];rfl
  have xD:Z l1 j=Z l j:=hx.Q j (aC _);have dq:j<l1.length:=by rw[hx.vf];omega
  have o9:f<q1.length:=by rw[hx.q.1];omega
  have hqn:(Z q1 f).pk.length<=1000000:=dF (hx.q.2 f).length_le (hq f G);have aw:=hx.sg.ok;have km:=(ao.1 bi).1;have av2:(l1.map Cd.cells).length=l1.length:=bh _;have l9:=fun h:(Z l j).seq<0=>hx.take ai hS.nl sY Hu h G has VK rfl f (Z cv ah).mR;refine B ?_;refine cc.rows aj (p:=15) (i:=j) (f:=0) rfl (wV bi) sM (B ?_);refine⟨(Z l j).cells,by rw[<-xD];exact zq dq,B ?_⟩;refine dT (fun rH=>?_) fun rH=>?_;refine B ?_;refine⟨_,by rw[hw];exact vB Hu Nl,B ?_⟩;refine⟨_,by rw[jQ];exact mr (show f<nq by omega),B ?_⟩;refine aL.cA (p:=11) (apz _ _ _ aM aM) rfl (B ?_);refine cc.eX (p:=12) rfl d6 (B ?_);refine aL.cA (p:=13) (aft _ _ _ aM _ aM) rfl (B ?_);refine gV.cd (p:=15) (i:=j) (f:=1) (l1.set j ⟨(Z l j).id,(jA (Z s1 ah) (Z l j).id).1⟩) rfl bi sM trivial (B ?_);refine⟨(Z l j).cells,by rw[<-xD];exact zq dq,B ?_⟩;refine⟨by(rw[iH];rfl),B ?_⟩;(refine cc.rows aj (p:=15) (i:=j) (f:=1) rfl (wV (qK km)) sM ?_);refine B ?_;(refine⟨(⟨(Z l j).id,(jA (Z s1 ah) (Z l j).id).1⟩:Cd).cells,by rw[bz,qK dq];rfl,?_⟩);refine B ?_;refine(F5 _ (by(have h9:=l9 ‹_›;exact⟨h9.1,Int.lt_trans h9.2.1 dC⟩))).call ?_;rintro _ rfl;refine B ?_;refine gV.eX (p:=12) ⟨(jA (Z s1 ah) (Z l j).id).1+1,(Z cv ah).mR⟩ rfl (by have:=xD;exact d6) trivial (B ?_);refine aL.cA (p:=10) (anh _ _ _ _) rfl (B ?_);(refine⟨⟨(j+1,q1.set f (r_ (Z q1 f)).2.2,cv.set ah ⟨(jA (Z s1 ah) (Z l j).id).1+1,(Z cv ah).mR⟩,s1.set ah (jA (Z s1 ah) (Z l j).id).2.2,iZ st1 (Z l j).id 2,(l1.set j ⟨(Z l j).id,(jA (Z s1 ah) (Z l j).id).1⟩),sP.set k (u,cap,(l1.set j ⟨(Z l j).id,(jA (Z s1 ah) (Z l j).id).1⟩))),(l9 ‹_›).2.2,qK km⟩,by show n-(j+1)<n-j;omega,.of OU Y ?_⟩);refine B ?_;exact acx;refine B ?_;refine⟨⟨(j+1,q1,cv,s1,st1,l1,sP),hx.skip ai hS.nl sY ‹_› G,bi⟩,by show n-(j+1)<n-j;omega,.of OU Y (B ?_)⟩;exact acx
  ·refine B ?_;refine .same (B ?_);refine b6.cq aj 210 (fun y:{y:Nat×List b7×List bG//BV c ((b+n:Nat):Int) (Qs pk t ah) (Z cv ah).next ah s1 pk l1 n y.1 y.2.1 y.2.2}=>[(0,.ptr 0 0),(1,.int .i64 (ah:Int)),(2,.rl u n cap),(3,.bool zI),(8,.ra (P.s ah) 0),(93,.rl u n cap),(94,.int .i64 (n:Int)),(95,.int .i64 (y.1.1:Int))]) (fun y=>yZ c P slot time lost rl nq ns pk ac (lg++y.1.2.2) tm ck t NL st1 q1 cv y.1.2.1 rs sP) (fun y=>n-y.1.1) ⟨(0,s1,[]),⟨cx _,.refl _ _,WS,rfl⟩⟩ (.cm (lS [1,2,3,4,5,6,0,8,9,10,11,12,13,14,15,16,7]) Y Y ?_) ?_;exact ab4
   ·skip;intro y;have⟨⟨j2,s2,cz⟩,hy⟩:=y;dsimp only;have hy:BV c ((b+n:Nat):Int) (Qs pk t ah) (Z cv ah).next ah s1 pk l1 n j2 s2 cz:=hy
    have xT:ah<s2.length:=by rw[hy.os.1];exact tg
    have VF:cz.length<=32:=by have h9:=hy.Qg.len;rw[wb]at h9;have:=hy.vc;omega
    have ak0:=hy.sg.ok;have akG:n<=l1.length:=by rw[hx.vf];exact hH
    have awa:lg.length+cz.length<=900000100:=G;have av3:l1.length<=1000:=by rw[hx.vf];exact hS.len
    have avR:∀d∈l1,ie pk d.id:=hx.idk hS;by_cases kn:j2<n;rotate_left;have akB:j2=n:=by have:=hy.vc;omega
    have Ic:=(show mP c ((b+n:Nat):Int) (Qs pk t ah) (Z cv ah).next ah pk ((b+64:Nat):Int) (b+64) s2 rs cv st1 NL 0 s2 rs (cv.set ah ⟨(Z cv ah).next,(IntKind.i64.wrap ((Z cv ah).mR+qF (fu c t ah).1 (fu c t ah).2 (oA (lens pk (l1.take n)))))⟩) st1 NL [] ((Z s2 ah).pend.filter (fun p=> !gR (Z s2 ah).tries p))from .init (.refl _ _) (.refl _ _) (za.set d6 _).1 (za.set d6 _).2 hy.sg alh rfl (fw _ _) (fun r D=>by simp at D) (cx _) _);rotate_left;have Wc:(Z l1 j2).id=(Z l j2).id:=hx.id j2;have VX:=hS.wW _ (Pc hS.nl kn);have Hs:1<=(Z l1 j2).id:=by rw[Wc];exact VX.1.1.1
    have oW:(Z l1 j2).id<=pk.length:=by rw[Wc];exact VX.1.1.2
    have xX:IntKind.i64.wrap ((Z l1 j2).id-1)=(Z l1 j2).id-1:=a_ _ G G;refine B ?_;refine cc.rows aj (p:=15) (i:=j2) (f:=0) rfl (wV bi) sM (B ?_);refine⟨(Z l1 j2).cells,zq (show j2<l1.length by omega),B ?_⟩;refine cc.eX (p:=12) rfl d6 (B ?_);refine aL.cA (p:=13) (asM _ _ _ aM _ aM) rfl (B ?_);refine⟨_,by rw[xX];exact vB Hs oW,B ?_⟩;refine(pD _ _ _ _ _ _ _ _ _ _ _ _ _ _ _ _ _ _ _ (by(rw[c_];omega))).Gn [0,1,2,3,4,5,16,7,8] Y dC Y Y6 (C8 (C8 (C8 Y6))) Y (B ?_);refine⟨⟨(j2+1,s2.set ah (mA (Z s2 ah) (Z l1 j2).seq).2.2,cz++[⟨slot,3,(ei pk (Z l1 j2).id).aR,(Z l1 j2).id,0,(mA (Z s2 ah) (Z l1 j2).seq).1⟩]),hy.step kn akG tg _ _ rfl rfl rfl⟩,by show n-(j2+1)<n-j2;omega,.of (lS [1,2,3,4,5,6,7,8,9,10,11,12,13,14,15,16,20]) Y (B ?_)⟩;refine⟨by exact(a_ _ G G).trans sM,?_⟩;exact ab4
    ·refine B ?_;refine .same (B ?_);refine(amT _ _ _ _ _ _ _ _ _ _ _ _ _ _ _ _ _ _ _ aM aM aM aM aM).call [0,1,2,3,4,5,16,7,8,15,17] Y Y1 (C8 (C8 (C8 Y7))) ?_;rintro _ _ ⟨rfl,rfl⟩;refine B ?_;refine(QE _ (by(simp only[lens,bh,wb];omega))).amP Y1 ?_;rintro _ rfl;refine B ?_;refine(aal _ _ _ _ _ _ _ _ _ _ _ _ _ _ _ aM G).call [0,1,2,3,4,5,16,7,8,9] Y Y1 (C8 (C8 (C8 Y7))) ?_;rintro _ _ ⟨rfl,rfl⟩;refine B ?_;refine(abw _ _ _).call ?_;rintro _ rfl;refine B ?_;refine cc.eX (p:=12) rfl d6 (B ?_);refine gV.eX (p:=12) ⟨(Z cv ah).next,(IntKind.i64.wrap ((Z cv ah).mR+qF (fu c t ah).1 (fu c t ah).2 (oA (lens pk (l1.take n)))))⟩ rfl d6 trivial (B ?_);refine⟨fun akp=>?_,fun akp=>?_⟩
     ·refine B ?_;refine b6.cq aj 210 (fun z:{z:Nat×List dj×List Int×Nat×List bG×List fa//wB pk.length ((b+64:Nat):Int) b ah rs st1 NL n z.1 z.2.1 z.2.2.1 z.2.2.2.1 z.2.2.2.2.1/\za ah cv z.2.2.2.2.2}=>[(0,.ptr 0 0),(8,.ra (P.s ah) 0),(150,.rl u n cap),(151,.int .i64 (n:Int)),(152,.int .i64 (z.1.1:Int))]) (fun z=>yZ c P slot time lost rl nq ns pk ac (lg++cz++z.1.2.2.2.2.1) tm ck t z.1.2.2.2.1 z.1.2.2.1 q1 z.1.2.2.2.2.2 s2 z.1.2.1 sP) (fun z=>n-z.1.1) ⟨(0,rs,st1,NL,[],(cv.set ah ⟨(Z cv ah).next,(IntKind.i64.wrap ((Z cv ah).mR+qF (fu c t ah).1 (fu c t ah).2 (oA (lens pk (l1.take n)))))⟩)),.init alg _ _ _,.set d6 _⟩ (.of Ay Y ?_) ?_;exact ab4
      ·skip;intro z;have⟨⟨j3,d9,yz,ul,R3,sf⟩,hz,u6⟩:=z;dsimp only;have hz:wB pk.length ((b+64:Nat):Int) b ah rs st1 NL n j3 d9 yz ul R3:=hz;have u6:za ah cv sf:=u6;have z_:ah<sf.length:=by rw[u6.1.1];exact d6
       have awB:ah<d9.length:=by rw[hz.os.1];omega
       have Hg:=hy.sg.base;have WC:=hy.sg.n0;have awm:=hz.nl;have av5:=hz.len;have avY:=hz.vc;have lX:(lg++cz++R3).length=lg.length+cz.length+R3.length:=by rw[c_,c_]
       have Wv:(lg++cz++R3).length+9000<=1000000000:=by rw[lX];omega
       by_cases uW:j3<n;rotate_left;have avW:j3=n:=G;have HJ:cT pk.length ((b+64:Nat):Int) (b+64) (Z d9 ah):=hz.rg.up (gF _) (gF _) G G G;have awF:=HJ.ok.exp;have awy:=HJ.bits.2;have Vs:ul<=NL+288000:=G;have VB:R3.length<=288000:=G;have Hf:=(show cQ c ((b+n:Nat):Int) (Qs pk t ah) (Z (s2.set ah (ov (Z s2 ah) (Z d9 ah).exp (bitsOf (Z d9 ah).exp ((Z d9 ah).held.map (·.1))))) ah) (Z cv ah).next from(by rw[nK xT];exact hy.sg.Th _ _));have Ib:=(show mP c ((b+n:Nat):Int) (Qs pk t ah) (Z cv ah).next ah pk ((b+64:Nat):Int) (b+64) s2 rs cv st1 NL 0 s2 d9 sf yz ul R3 ((Z s2 ah).pend.filter (fun p=> !gR (Z s2 ah).tries p))from .init (.refl _ _) hz.os u6.1 u6.2 hy.sg HJ hz.st Vs hz.pl VB _);have Ia:=(show mP c ((b+n:Nat):Int) (Qs pk t ah) (Z cv ah).next ah pk ((b+64:Nat):Int) (b+64) s2 rs cv st1 NL 0 (s2.set ah (ov (Z s2 ah) (Z d9 ah).exp (bitsOf (Z d9 ah).exp ((Z d9 ah).held.map (·.1))))) d9 sf yz ul R3 ((Z (s2.set ah (ov (Z s2 ah) (Z d9 ah).exp (bitsOf (Z d9 ah).exp ((Z d9 ah).held.map (·.1))))) ah).pend.filter (fun p=> !gR (Z (s2.set ah (ov (Z s2 ah) (Z d9 ah).exp (bitsOf (Z d9 ah).exp ((Z d9 ah).held.map (·.1))))) ah).tries p))from .init ((e_.refl _ _).set _) hz.os u6.1 u6.2 Hf HJ hz.st Vs hz.pl VB _);rotate_left;have Wd:(Z l1 j3).id=(Z l j3).id:=hx.id j3;have VY:=hS.wW _ (Pc hS.nl uW);have akz:1<=(Z l1 j3).id:=by rw[Wd];exact VY.1.1.1
       have akA:(Z l1 j3).id<=pk.length:=by rw[Wd];exact VY.1.1.2
       have akO:=hx.lo j3 G;have akP:=akO.1;have mZ:=WS.n0;have WI:(Z l1 j3).seq<((b+64:Nat):Int):=G;have aj5:0<=(Z s2 ah).base:=Hg.1;have aj6:(Z s2 ah).base<=((b+64:Nat):Int):=G;have Aa:=fun(st2:List Int)(h:st2.length=yz.length)=>hz.step uW (show b+n<=9000 by omega) (show ah<rs.length by omega) aj5 aj6 akP WI akz akA slot pk h;have Hl:=Aa yz rfl;have avK:∀id∈(fT (Z d9 ah) (Z s2 ah).base (Z l1 j3).seq (Z l1 j3).id).1,ie pk id:=Hl.1;have avL:=Hl.2.1;have o_:=hz.rg;have hbj:b+j3+1<=9000:=G;have avt:ul+(fT (Z d9 ah) (Z s2 ah).base (Z l1 j3).seq (Z l1 j3).id).1.length<=1000000000:=G;have akL:(lg++cz++R3).length+(fT (Z d9 ah) (Z s2 ah).base (Z l1 j3).seq (Z l1 j3).id).1.length<=1000000000:=G;have avS:(fT (Z d9 ah) (Z s2 ah).base (Z l1 j3).seq (Z l1 j3).id).1.length<=100000:=G;refine B ?_;refine cc.rows aj (p:=15) (i:=j3) (f:=0) rfl (wV bi) sM (B ?_);refine⟨(Z l1 j3).cells,zq (show j3<l1.length by omega),B ?_⟩;refine cc.eX (p:=12) rfl z_ (B ?_);refine cc.eX (p:=12) rfl z_ (B ?_);refine aL.cA (p:=13) (Lu _ _ _ aM) rfl (B ?_);refine aL.cA (p:=14) (arp _ _ _ aM _ _ _ aM aM aM aM aM aM aM aM) rfl (B ?_);refine(Uk _ _ _ _ _ _ _ _ _ _ _ _ _ _ _ _ aM aM aM aM aM).call [0,1,2,3,4,5,16,7,8,10,20] Y Y1 (C8 (C8 (C8 Y7))) ?_;rintro _ _ ⟨atR,auY,rfl,rfl⟩;refine B ?_;refine⟨⟨(j3+1,d9.set ah (fT (Z d9 ah) (Z s2 ah).base (Z l1 j3).seq (Z l1 j3).id).2,atR,ul+(fT (Z d9 ah) (Z s2 ah).base (Z l1 j3).seq (Z l1 j3).id).1.length,R3++gx slot pk (fT (Z d9 ah) (Z s2 ah).base (Z l1 j3).seq (Z l1 j3).id).1,sf),(Aa _ ‹_›).2.2,u6⟩,by show n-(j3+1)<n-j3;omega,.of (lS [1,2,3,4,5,6,7,8,9,10,11,12,13,14,15,16,21]) Y (B ?_)⟩;refine⟨by exact(a_ _ G G).trans sM,?_⟩;exact ab4
       ·refine B ?_;refine .same (B ?_);refine dT (fun akr=>?_) fun akr=>?_
        ·refine B ?_;refine cc.eX (p:=12) rfl z_ (B ?_);refine cc.eX (p:=12) rfl z_ (B ?_);refine aL.cA (p:=14) (aeH _ _ _ aM aM) rfl (B ?_);refine aL.cA (p:=13) (aeD _ _ _ aM _ _ aM aM aM) rfl (B ?_);refine cc.eX (p:=12) rfl z_ (B ?_);refine aL.call (p:=13) (L5 _ _ _ (by(rw[fV];exact xT)) (by(rw[nK xT];exact(hy.sg.Th _ _).ok))) rfl (B ?_);refine b6.cq aj 210 (fun w:{w:Nat×List b7×List dj×List fa×List Int×Nat×List bG×List Se//mP c ((b+n:Nat):Int) (Qs pk t ah) (Z cv ah).next ah pk ((b+64:Nat):Int) (b+64) s2 rs cv st1 NL w.1 w.2.1 w.2.2.1 w.2.2.2.1 w.2.2.2.2.1 w.2.2.2.2.2.1 w.2.2.2.2.2.2.1 w.2.2.2.2.2.2.2}=>[(0,.ptr 0 0),(8,.ra (P.s ah) 0),(196,.rs 3 (w.1.2.2.2.2.2.2.2.map Se.cells)),(197,.int .i64 ((w.1.2.2.2.2.2.2.2.map Se.cells).length:Int)),(198,.int .i64 (w.1.1:Int))]) (fun w=>yZ c P slot time lost rl nq ns pk ac (lg++cz++w.1.2.2.2.2.2.2.1) tm ck t w.1.2.2.2.2.2.1 w.1.2.2.2.2.1 q1 w.1.2.2.2.1 w.1.2.1 w.1.2.2.1 sP) (fun w=>w.1.2.2.2.2.2.2.2.length-w.1.1) ⟨(0,(s2.set ah (ov (Z s2 ah) (Z d9 ah).exp (bitsOf (Z d9 ah).exp ((Z d9 ah).held.map (·.1))))),d9,sf,yz,ul,R3,((Z (s2.set ah (ov (Z s2 ah) (Z d9 ah).exp (bitsOf (Z d9 ah).exp ((Z d9 ah).held.map (·.1))))) ah).pend.filter (fun p=> !gR (Z (s2.set ah (ov (Z s2 ah) (Z d9 ah).exp (bitsOf (Z d9 ah).exp ((Z d9 ah).held.map (·.1))))) ah).tries p))),(by have _h:= ‹lost=0›;exact Ia)⟩ (.of Ay Y wt) ?_
         ·skip;intro w;have⟨⟨j4,s4,gP,j1,i1,kE,R4,ex⟩,hv⟩:=w;dsimp only;have hv:mP c ((b+n:Nat):Int) (Qs pk t ah) (Z cv ah).next ah pk ((b+64:Nat):Int) (b+64) s2 rs cv st1 NL j4 s4 gP j1 i1 kE R4 ex:=hv
          (try clear Ia Ib Hf);(try clear Aa);(try clear Ic);have V7:(ex.map Se.cells).length=ex.length:=bh _;have WP:ah<s4.length:=by rw[hv.os.1];exact xT
          have WQ:ah<j1.length:=by rw[hv.oa.1];exact d6
          have NS:ah<gP.length:=by rw[hv.r6.1];omega
          have VC:R4.length<=288064:=by have:=hv.len;have:=hv.qn;have:=hv.w6;omega
          have Vx:=hv.nl;have V8:=hv.w6;have Wj:=hv.qn;have o4:(lg++cz++R4).length=lg.length+cz.length+R4.length:=by rw[c_,c_]
          have Ww:(lg++cz++R4).length<=1000000000:=by rw[o4];omega
          have Wx:(lg++cz++R4).length+(b+64)<=1000000000:=by rw[o4];omega
          have Vy:kE+(b+64)<=1000000000:=G;have WF:=hv.sg.ok;have VP:=hv.sg.base.1;have CV:(Z s4 ah).base<=((b+64:Nat):Int):=by have h8:=hv.sg.base.2.1;have h9:=hv.sg.n0.2;omega
          have Dy:=hv.rg;have u5:=Dy.ET CV;by_cases xF:j4<ex.length;rotate_left;skip;rotate_left;have fD:ie pk (Z ex j4).id:=(hv.GP _ (od xF)).1;exact RT;refine B ?_;refine .same (B ?_);refine(JO _ _ _ _ _ _ _ _ _ _ _ _ _ _ _ _ _ _ _ _ _ aM aM aM aM aM aM aM aM aM).call [0,1,2,3,4,5,16,7,8,10,12,13,14,17] Y Y1 (C8 (C8 (C8 (C8 Y2)))) ?_;rintro _ _ ⟨axg,au0,rfl,rfl⟩;exact RW
        ·refine B ?_;refine cc.eX (p:=12) rfl z_ (B ?_);refine aL.call (p:=13) (L5 _ _ _ aM aM) rfl (B ?_);refine b6.cq aj 210 (fun w:{w:Nat×List b7×List dj×List fa×List Int×Nat×List bG×List Se//mP c ((b+n:Nat):Int) (Qs pk t ah) (Z cv ah).next ah pk ((b+64:Nat):Int) (b+64) s2 rs cv st1 NL w.1 w.2.1 w.2.2.1 w.2.2.2.1 w.2.2.2.2.1 w.2.2.2.2.2.1 w.2.2.2.2.2.2.1 w.2.2.2.2.2.2.2}=>[(0,.ptr 0 0),(8,.ra (P.s ah) 0),(196,.rs 3 (w.1.2.2.2.2.2.2.2.map Se.cells)),(197,.int .i64 ((w.1.2.2.2.2.2.2.2.map Se.cells).length:Int)),(198,.int .i64 (w.1.1:Int))]) (fun w=>yZ c P slot time lost rl nq ns pk ac (lg++cz++w.1.2.2.2.2.2.2.1) tm ck t w.1.2.2.2.2.2.1 w.1.2.2.2.2.1 q1 w.1.2.2.2.1 w.1.2.1 w.1.2.2.1 sP) (fun w=>w.1.2.2.2.2.2.2.2.length-w.1.1) ⟨(0,s2,d9,sf,yz,ul,R3,((Z s2 ah).pend.filter (fun p=> !gR (Z s2 ah).tries p))),(by have _h:= ‹¬lost=0›;exact Ib)⟩ (.of Ay Y wt) ?_
         ·skip;intro w;have⟨⟨j4,s4,gP,j1,i1,kE,R4,ex⟩,hv⟩:=w;dsimp only;have hv:mP c ((b+n:Nat):Int) (Qs pk t ah) (Z cv ah).next ah pk ((b+64:Nat):Int) (b+64) s2 rs cv st1 NL j4 s4 gP j1 i1 kE R4 ex:=hv
          (try clear Ia Ib Hf);(try clear Aa);(try clear Ic);have V7:(ex.map Se.cells).length=ex.length:=bh _;have WP:ah<s4.length:=by rw[hv.os.1];exact xT
          have WQ:ah<j1.length:=by rw[hv.oa.1];exact d6
          have NS:ah<gP.length:=by rw[hv.r6.1];omega
          have VC:R4.length<=288064:=by have:=hv.len;have:=hv.qn;have:=hv.w6;omega
          have Vx:=hv.nl;have V8:=hv.w6;have Wj:=hv.qn;have o4:(lg++cz++R4).length=lg.length+cz.length+R4.length:=by rw[c_,c_]
          have Ww:(lg++cz++R4).length<=1000000000:=by rw[o4];omega
          have Wx:(lg++cz++R4).length+(b+64)<=1000000000:=by rw[o4];omega
          have Vy:kE+(b+64)<=1000000000:=G;have WF:=hv.sg.ok;have VP:=hv.sg.base.1;have CV:(Z s4 ah).base<=((b+64:Nat):Int):=by have h8:=hv.sg.base.2.1;have h9:=hv.sg.n0.2;omega
          have Dy:=hv.rg;have u5:=Dy.ET CV;by_cases xF:j4<ex.length;rotate_left;skip;rotate_left;have fD:ie pk (Z ex j4).id:=(hv.GP _ (od xF)).1;exact RT;refine B ?_;refine .same (B ?_);refine(JO _ _ _ _ _ _ _ _ _ _ _ _ _ _ _ _ _ _ _ _ _ aM aM aM aM aM aM aM aM aM).call [0,1,2,3,4,5,16,7,8,10,12,13,14,17] Y Y1 (C8 (C8 (C8 (C8 Y2)))) ?_;rintro _ _ ⟨axn,ajv,rfl,rfl⟩;exact RW
     ·refine B ?_;refine cc.eX (p:=12) rfl (show ah<(cv.set ah ⟨(Z cv ah).next,(IntKind.i64.wrap ((Z cv ah).mR+qF (fu c t ah).1 (fu c t ah).2 (oA (lens pk (l1.take n)))))⟩).length by rw[fV];exact d6) (B ?_);refine aL.call (p:=13) (L5 _ _ _ aM aM) rfl (B ?_);refine b6.cq aj 210 (fun w:{w:Nat×List b7×List dj×List fa×List Int×Nat×List bG×List Se//mP c ((b+n:Nat):Int) (Qs pk t ah) (Z cv ah).next ah pk ((b+64:Nat):Int) (b+64) s2 rs cv st1 NL w.1 w.2.1 w.2.2.1 w.2.2.2.1 w.2.2.2.2.1 w.2.2.2.2.2.1 w.2.2.2.2.2.2.1 w.2.2.2.2.2.2.2}=>[(0,.ptr 0 0),(8,.ra (P.s ah) 0),(196,.rs 3 (w.1.2.2.2.2.2.2.2.map Se.cells)),(197,.int .i64 ((w.1.2.2.2.2.2.2.2.map Se.cells).length:Int)),(198,.int .i64 (w.1.1:Int))]) (fun w=>yZ c P slot time lost rl nq ns pk ac (lg++cz++w.1.2.2.2.2.2.2.1) tm ck t w.1.2.2.2.2.2.1 w.1.2.2.2.2.1 q1 w.1.2.2.2.1 w.1.2.1 w.1.2.2.1 sP) (fun w=>w.1.2.2.2.2.2.2.2.length-w.1.1) ⟨(0,s2,rs,(cv.set ah ⟨(Z cv ah).next,(IntKind.i64.wrap ((Z cv ah).mR+qF (fu c t ah).1 (fu c t ah).2 (oA (lens pk (l1.take n)))))⟩),st1,NL,[],((Z s2 ah).pend.filter (fun p=> !gR (Z s2 ah).tries p))),(by have _h:= ‹zI=false›;exact Ic)⟩ (.of Ay Y ?_) ?_;exact ab4
      ·skip;intro w;have⟨⟨j4,s4,gP,j1,i1,kE,R4,ex⟩,hv⟩:=w;dsimp only;have hv:mP c ((b+n:Nat):Int) (Qs pk t ah) (Z cv ah).next ah pk ((b+64:Nat):Int) (b+64) s2 rs cv st1 NL j4 s4 gP j1 i1 kE R4 ex:=hv
       (try clear Ia Ib Hf);(try clear Aa);(try clear Ic);have V7:(ex.map Se.cells).length=ex.length:=bh _;have WP:ah<s4.length:=by rw[hv.os.1];exact xT
       have WQ:ah<j1.length:=by rw[hv.oa.1];exact d6
       have NS:ah<gP.length:=by rw[hv.r6.1];omega
       have VC:R4.length<=288064:=by have:=hv.len;have:=hv.qn;have:=hv.w6;omega
       have Vx:=hv.nl;have V8:=hv.w6;have Wj:=hv.qn;have o4:(lg++cz++R4).length=lg.length+cz.length+R4.length:=by rw[c_,c_]
       have Ww:(lg++cz++R4).length<=1000000000:=by rw[o4];omega
       have Wx:(lg++cz++R4).length+(b+64)<=1000000000:=by rw[o4];omega
       have Vy:kE+(b+64)<=1000000000:=G;have WF:=hv.sg.ok;have VP:=hv.sg.base.1;have CV:(Z s4 ah).base<=((b+64:Nat):Int):=by have h8:=hv.sg.base.2.1;have h9:=hv.sg.n0.2;omega
       have Dy:=hv.rg;have u5:=Dy.ET CV;by_cases xF:j4<ex.length;rotate_left;skip;rotate_left;have fD:ie pk (Z ex j4).id:=(hv.GP _ (od xF)).1;exact RT;refine B ?_;refine .same (B ?_);refine(JO _ _ _ _ _ _ _ _ _ _ _ _ _ _ _ _ _ _ _ _ _ aM aM aM aM aM aM aM aM aM).call [0,1,2,3,4,5,16,7,8,10,12,13,14,17] Y Y1 (C8 (C8 (C8 (C8 Y2)))) ?_;rintro _ _ ⟨axu,avf,rfl,rfl⟩;exact RW
def ams(c)(P)(slot time lost)(rl)(nq ns)(pk)(ac)(lg)(tm:List (Int×Nat×Nat))(ck)(tb)(NR)(cp)(f:Fl)(st) (H:tb.k5 f.st=(st,true))(tg:tb.sts.length<=1000)(h0:0<=st.id)(E:st.id<16)(w0:1<=st.w)(w1:st.w<=16)(hN:NR+1<=100000)(rE:∀e∈tm,e.2.1<cp.length)(d6:ac.length<=100000)(hl:lg.length<=1000000000):al prog 123 [.ptr 0 0,.agg f.cells] (MH c P slot time lost rl nq ns pk ac lg tm ck++[.asn (cM P.t tb),.asn (fI P.d NR),.asn (iN P cp)]) (fun s I=>∃u wl,List.Perm wl (ac++[f.id])/\s=.tup []/\I=[MF c (P.nM cp.length u) slot time lost 1 2 3 4 12 13,j0 rl,nh P nq,nm P ns,nf pk,.dead,.dead,py (P.nM cp.length u),nn (P.nM cp.length u) (gb tm f.id cp.length ck) (pe tm f.id ck),.asn (cM P.t tb),.asn (fI P.d (NR+1)),.asn (iN (P.nM cp.length u) (cp++[st])),jn wl,e5 (lg++[⟨slot,8,f.id,0,0,f.w⟩])]):=by
 refine al.ar aj func123 Y rfl ?_;conv=>whnf
 refine cf.last mixed aj (nw rfl) ?_;conv=>whnf
 refine⟨sO,?_⟩;conv=>whnf
 refine⟨by kernel_rfl,?_⟩;conv=>whnf
 refine⟨Y,?_⟩;conv=>whnf
 refine⟨Y,?_⟩;conv=>whnf
 rw[H4];refine(ats _ (by(simp;omega))).call [14] Y trivial Y1 ?_;rintro _ _ ⟨u0,g1,rfl,rfl⟩;conv=>whnf
 refine cf.last mixed aj (nw rfl) ?_;conv=>whnf
 refine⟨by kernel_rfl,?_⟩;conv=>whnf
 refine⟨Y,?_⟩;conv=>whnf
 refine⟨Y,?_⟩;conv=>whnf
 refine⟨⟨486,anC,B ?_⟩⟩;refine(amr _ _ _ _ _ _ _ _ _ _ _ _ _ _ _ _ _ _ aM aM aM aM aM aM aM aM).call [0,1,2,3,4,14,6,7,8,9,10,11] Y Y7 (C8 (C8 (C8 (C8 Y1)))) ?_;rintro _ _ ⟨mH,rfl,rfl⟩;refine B ?_;refine(pD _ _ _ _ _ _ _ _ _ _ _ _ _ _ _ _ _ _ _ aM).call [0,1,2,3,4,14,6,7,8,15] Y Y6 (C8 (C8 (C8 Y6))) (rj (B ?_));(refine a6.cm (lS [1,2,3,4,5,0,0,8,9,10,11,12,15,16]) _ _ Y Y ⟨mH,_,‹List.Perm _ _›,rfl,rfl⟩ ?_;(conv=>whnf);(repeat(first|exact trivial|rfl|(refine⟨rfl,?_⟩;(conv=>whnf)))))
def map_eraseIdx{α β:Type}(f:α->β)(l:List α)(i):(l.eraseIdx i).map f=(l.map f).eraseIdx i:=by rw[v_,v_,dx,wa,Sd]
def XM(c)(P)(slot time lost)(rl)(nq ns)(pk)(ac)(lg)(tm:List (Int×Nat×Nat))(ck)(NR)(cp)(aR)(k j:Nat) (hj:idxOf (fun y=>decide (aR=y)) ac=(j:Int))(Dk:j<ac.length)(d6:ac.length<=100000)(o:dJ tm aR=some k)(rE:∀e∈tm,e.2.1<cp.length)(hl:lg.length<=1000000000):al prog 95 [.ptr 0 0,.int .i64 aR] (MH c P slot time lost rl nq ns pk ac lg tm ck++[.asn (fI P.d NR),.asn (iN P cp)]) (fun s I=>s=.tup []/\I=[MF c P slot time lost 1 2 3 4 11 12,j0 rl,nh P nq,nm P ns,nf pk,.dead,.dead,py P,nn P (iy tm aR) ck,.asn (fI P.d NR),.asn (iN P cp),jn (nH ac aR),e5 (lg++[⟨slot,7,aR,0,0,0⟩])]):=by
 refine al.ar aj func95 Y rfl ?_;have dl:(ac.map ic).length=ac.length:=bh _;have l9:List.take ((ac.map ic).length-1) ((ac.map ic).eraseIdx ((j:Int)).toNat++[[SV.int .i64 0]])=(nH ac aR).map ic:=by unfold nH;rw[hj,gh,<-map_eraseIdx ic,Fv (by simp[qJ,Dk]),j9 (by simp[qJ,Dk])]
 refine B ?_;simp only[hj];refine(Xj _ _ G).call [5] Y Y1 Y1 (rj (B ?_));simp only[hj];refine(ahx _ _ _ (by exact a_ _ G G) G G G).call [5] Y Y2 Y1 (rj (B ?_));refine⟨⟨487,anD,?_⟩⟩;refine B ?_;simp only[hj];(refine aq.as9 (p:=0) (i:=27) (b:=5) rfl rfl rfl sM (by simp[qJ,Dk]) ?_;rw[l9]);refine(amH _ _ _ _ _ _ _ _ _ _ _ _ _ _ _ _ _ G G).call [0,1,2,3,4,11,6,7,8,9,10] Y Y1 (C8 (C8 (C8 Y8))) (rj (B ?_));refine(pD _ _ _ _ _ _ _ _ _ _ _ _ _ _ _ _ _ _ _ G).call [0,1,2,3,4,11,6,7,8,12] Y Y6 (C8 (C8 (C8 Y6))) (rj (B ?_));refine a6.cm (lS [1,2,3,4,5,0,0,8,9,10,11,12,13]) _ _ Y Y ⟨rfl,rfl⟩ (B ?_);exact lF
def U1{c}{t}(ht:oN c t){f}(h:t.has f=true):∃k s:Nat,f=(k:Int)/\k<t.fls.length/\(t.aR f).1.id=(k:Int)/\(t.aR f).1.st=(s:Int)/\s<t.sts.length:=by
 have e:t.aR f=(t.fl f,true):=by unfold Tb.aR;rw[au h]
 simp only[Tb.has,bR,bs]at h;have⟨a,s,b,d⟩:=ht.fl f.toNat G;exact⟨f.toNat,s,G,G,by rw[e];exact a,by rw[e];exact b,d⟩
def Tl{c}{t}(ht:oN c t){f}(h:f∈db t):∃k s:Nat,f.id=(k:Int)/\k<t.fls.length/\f.st=(s:Int)/\s<t.sts.length/\t.has f.id=true:=by have⟨j,hj⟩:=fx.1 (Lb h);have dq:=(ao.1 hj).1;rw[uJ dq]at hj;have e:=mJ hj;have⟨a,s,b,d⟩:=ht.fl j dq;rw[e]at a b;refine⟨j,s,a,dq,b,d,?_⟩;have a:=a;unfold Tb.has;simp_all
abbrev SY(P:Pl)(t:Tb)(NR:Nat)(qs:List Qu)(sa:List fa)(ss:List b7)(cp:List St):Hp:=
 [.asn (cM P.t t),.asn (fI P.d NR),.asn (aI (fun i=>[P.q i]) (qs.map HQ)),.asn (fL P sa),.asn (aI (fun i=>[P.e i]) (ss.map HS)),.asn (iN P cp)]
abbrev KQ(c:bT)(P:Pl)(slot time lost:Int)(rl:List Rl)(nq ns:Nat)(pk:List Pk)(ac:List Int)(lg:List bG)(tm:List (Int×Nat×Nat))(ck:Nat)(t:Tb)(NR:Nat)(qs:List Qu)(sa:List fa)(ss:List b7)(cp:List St):Hp:=
 [MF c P slot time lost 1 2 3 4 15 16,j0 rl,nh P nq,nm P ns,nf pk,.dead,.dead,py P,nn P tm ck]++SY P t NR qs sa ss cp++[jn ac,e5 lg]
abbrev Pl.wp(P:Pl)(p:Nat->Nat):Pl:={P with p:=p}
def J8{ab:Prop}(k:ab:=by refine⟨⟨(j2+1,p2,qU,gM,vQ,Cj,BR,zy),hy.stay kn⟩,by show(db t).length-(j2+1)<(db t).length-j2;omega,.of Ay Y (B ?_)⟩;exact acx):ab:=k
def anz(c)(P)(slot time lost)(rl)(nq ns)(pk)(ac)(lg)(tm:List (Int×Nat×Nat))(ck)(t)(NR)(qs)(sa)(ss)(cp)(z b:Nat) (ht:oN c t)(E:sa.length=ns)(F:ss.length=ns)(h4:t.sts.length=ns)(h5:qs.length=nq)(h6:qs.length=t.fls.length)(hz:z<=100) (hq:∀f,f<qs.length->gu z (Qf pk f) (Z qs f))(hs:∀i,i<ss.length->cQ c b (Qs pk t i) (Z ss i) (Z sa i).next)(hp:pk.length<=100000)(hm:jk t cp tm ac)(d6:ac.length<=3200)(xj:NR<=3200)(hl:lg.length<=900000000):al prog 73 [.ptr 0 0] (MH c P slot time lost rl nq ns pk ac lg tm ck++SY P t NR qs sa ss cp) (fun s I=>∃p' wl R pi m9 m8 n8,jk t n8 pi wl/\wl.length<=ac.length+32/\m8<=NR+32/\(∀r∈R,plain r)/\R.length<=2*ac.length+32/\s=.tup []/\I=KQ c (P.wp p') slot time lost rl nq ns pk wl (lg++R) pi m9 t m8 qs sa ss n8):=by
 refine al.ar aj func73 Y rfl ?_;have VM:(ac.map ic).length=ac.length:=bh _;have avw:(ac.map ic).length<=1000000:=G;have jQ:=ht.n;have s5:t.fls.length<=1000:=G;have avz:(db t).length<=32:=by unfold db;rw[bh];exact dF (wg _ _) jQ
 have dl:((t.fls.filter (·.1)).map js).length=(db t).length:=by rw[GU,bh]
 refine B ?_;refine(agP _ aM).call [5,15] Y trivial Y1 (rj (B ?_));refine b6.cq aj 62 (fun x:{x:Nat×List Int×List bG×List (Int×Nat×Nat)//M1 t cp lg ac x.1 x.2.2.2 x.2.1 x.2.2.1}=>[(0,.ptr 0 0),(12,.sl 17),(13,.int .i64 ((ac.map ic).length:Int)),(14,.int .i64 (x.1.1:Int))]) (fun x=>KQ c P slot time lost rl nq ns pk x.1.2.1 x.1.2.2.1 x.1.2.2.2 ck t NR qs sa ss cp++[.row 3 1 (ac.map ic)]) (fun x=>ac.length-x.1.1) ⟨(0,ac,lg,tm),⟨cx _,hm,fun i u _ U=>bN U,aC _,[],(yM _).symm,fun r D=>by simp at D,cx _⟩⟩ (.cm (lS [1,2,3,4,5,0,0,8,9,10,11,12,13,14,15,6,7,16]) Y Y wt) ?_
 ·intro x;have⟨⟨j,zd,lg1,EQ⟩,hx⟩:=x;dsimp only;have hx:M1 t cp lg ac j EQ zd lg1:=hx;have VL:=hx.len;have⟨R1,Ha,VA,hR3⟩:=hx.log;have No:=hx.vc;have akJ:lg1.length<=1000000000:=by rw[Ha,c_];omega
  have avx:zd.length<=100000:=G;have avH:=hx.ok.cps;by_cases ai:j<ac.length;rotate_left;have be:M2 t ac.length NR lg (db t).length 0 cp EQ zd NR lg1:=⟨cx _,hx.ok,VL,aC _,R1,Ha,VA,G⟩;rotate_left;have dd:=hx.rest j _ (aC _) (b8 ai);have jR:=(hx.ok.acs _ dd).1;have⟨k,s,cF,bi,aU,dc,kR⟩:=U1 ht jR;have rI:k<nq:=G;have s9:k<qs.length:=G;have Dl:(Z qs k).pk.length<=1000000:=dF (hq k s9).len G;have cY:s<ns:=G;have jT:s<sa.length:=G;have xQ:s<ss.length:=G;have ju:=hs s xQ;have aw:=ju.ok;have ak9:∀p∈(Z ss s).pend,ie pk p.id:=fun p hp=>(ju.ids p hp).1;have⟨awY,hjj,dq,_⟩:=Og dd;have⟨kk,ga⟩:=(hx.ok.acs _ dd).2;refine B ?_;refine⟨ic (Z ac j),alN ai,B ?_⟩;refine aL.call (p:=9) (U2 _ _ _ aM) rfl (B ?_);refine(TA _ _ _ _ _ _ _ _ _ _ _ _ _ _ _ _ _ _ _ aM aM aM aM aM aM aM aM aM aM aM).call [0,1,2,3,4,15,16,7,8,11,12,13] Y Y7 (C8 (C8 (C8 (C8 Y1)))) (rj (B ?_));refine⟨fun s7=>?_,fun s7=>?_⟩;simp only[bs,bX,dN,dO,c5,dP,bR,dG,dH,dQ,dk,c6,dR,dL,dS,dh,ne_eq,dZ]at s7;refine B ?_;refine(XM _ _ _ _ _ _ _ _ _ _ _ _ _ _ _ _ _ _ aM aM aM aM aM aM).call [0,1,2,3,4,15,16,7,8,10,14,19,20] Y Y1 (C8 (C8 (C8 Y8))) (rj (B ?_));(refine⟨⟨(j+1,nH zd (Z ac j),lg1++[⟨slot,7,Z ac j,0,0,0⟩],iy EQ (Z ac j)),hx.leave hm.acd (b8 ai) slot⟩,by show ac.length-(j+1)<ac.length-j;omega,.of (lS [1,2,3,4,5,6,7,8,9,10,11,12,13,14,15,20,21,18]) Y ?_⟩);refine B ?_;exact sr;simp only[bs,bX,dN,dO,c5,dP,bR,dG,dH,dQ,dk,c6,dR,dL,dS,dh,ne_eq,dZ]at s7;refine B ?_;refine⟨⟨(j+1,zd,lg1,EQ),hx.stay ai⟩,by show ac.length-(j+1)<ac.length-j;omega,.of (lS [1,2,3,4,5,6,7,8,9,10,11,12,13,14,15,16,17,18]) Y (B ?_)⟩;exact acx
  ·refine B ?_;refine .same (B ?_);refine aL.call (p:=9) (Me _ _ aM) rfl (B ?_);refine b6.cq aj 62 (fun y:{y:Nat×(Nat->Nat)×List Int×List bG×List (Int×Nat×Nat)×Nat×Nat×List St//M2 t ac.length NR lg (db t).length y.1 y.2.2.2.2.2.2.2 y.2.2.2.2.1 y.2.2.1 y.2.2.2.2.2.2.1 y.2.2.2.1}=>[(0,.ptr 0 0),(39,.rs 7 ((t.fls.filter (·.1)).map js)),(40,.int .i64 (((t.fls.filter (·.1)).map js).length:Int)),(41,.int .i64 (y.1.1:Int))]) (fun y=>KQ c (P.wp y.1.2.1) slot time lost rl nq ns pk y.1.2.2.1 y.1.2.2.2.1 y.1.2.2.2.2.1 y.1.2.2.2.2.2.1 t y.1.2.2.2.2.2.2.1 qs sa ss y.1.2.2.2.2.2.2.2) (fun y=>(db t).length-y.1.1) ⟨(0,P.p,zd,lg1,EQ,ck,NR,cp),be⟩ (.of Ay Y wt) ?_
   ·intro y;have⟨⟨j2,p2,qU,gM,vQ,Cj,BR,zy⟩,hy⟩:=y;dsimp only;have hy:M2 t ac.length NR lg (db t).length j2 zy vQ qU BR gM:=hy;have⟨R2,Vz,hQ2,hQ3⟩:=hy.log;have aj0:=hy.len;have awr:=hy.nr;have avX:=hy.qn;have Wu:gM.length<=1000000000:=by rw[Vz,c_];omega
    have avy:qU.length<=100000:=G;have avA:qU.length<=1000000:=G;have V1:=hy.ok.cps;have avu:BR+1<=100000:=G;by_cases kn:j2<(db t).length;rotate_left;skip;rotate_left;have⟨k,s,bi,aU,dc,kR,xA⟩:=Tl ht (od kn);have rI:k<nq:=G;have s9:k<qs.length:=G;have Dl:(Z qs k).pk.length<=1000000:=dF (hq k s9).len G;have cY:s<ns:=G;have jT:s<sa.length:=G;have xQ:s<ss.length:=G;have ju:=hs s xQ;have aw:=ju.ok;have ak9:∀p∈(Z ss s).pend,ie pk p.id:=fun p hp=>(ju.ids p hp).1;have awL:t.k5 (Z (db t) j2).st=(Z t.sts s,true):=by rw[dc];exact abu kR
    have⟨NV,WY,Aa,_⟩:=ht.st s kR;have awJ:0<=(Z t.sts s).id:=G;have awK:(Z t.sts s).id<16:=by have:=ht.m;omega
    have gz:t.sts.length<=1000:=by have:=ht.m;omega
    refine B ?_;refine gX (by simp[*]) (B ?_);refine⟨(Z (db t) j2).cells,La kn,B ?_⟩;refine(TA _ _ _ _ _ _ _ _ _ _ _ _ _ _ _ _ _ _ _ aM aM aM aM aM aM aM aM aM aM aM).lP [0,1,2,3,4,15,16,7,8,11,12,13] Y dC Y7 (C8 (C8 (C8 (C8 Y1)))) Y (B ?_);refine⟨fun _=>B ?_,fun _=>B ?_⟩;refine(GA _ _ aM).lP [15] Y dC Y1 Y1 Y (B ?_);refine⟨fun Ni=>?_,fun Ni=>?_⟩;simp only[bs,bX,dN,dO,c5,dP,bR,dG,dH,dQ,dk,c6,dR,dL,dS,dh,ne_eq,dZ]at Ni;refine B ?_;refine(ams _ _ _ _ _ _ _ _ _ _ _ _ _ _ _ _ _ _ aM aM aM aM aM aM aM aM aM aM).call [0,1,2,3,4,15,16,7,8,9,10,14,20,21] Y Y7 (C8 (C8 (C8 (C8 Y1)))) ?_;rintro _ _ ⟨u77,Q_,g79,rfl,rfl⟩;refine B ?_;refine⟨⟨(j2+1,fg p2 zy.length u77,Q_,gM++[⟨slot,8,(Z (db t) j2).id,0,0,(Z (db t) j2).w⟩],gb vQ (Z (db t) j2).id zy.length Cj,pe vQ (Z (db t) j2).id Cj,BR+1,zy++[Z t.sts s]),hy.join kn (fun h9=>absurd (n_.2 h9) G) xA g79 _ Cj slot _⟩,by show(db t).length-(j2+1)<(db t).length-j2;omega,.of (lS [1,2,3,4,5,6,7,8,9,10,11,12,13,14,15,21,22]) Y (B ?_)⟩;exact acx;simp only[bs,bX,dN,dO,c5,dP,bR,dG,dH,dQ,dk,c6,dR,dL,dS,dh,ne_eq,dZ]at Ni;refine B ?_;exact J8;exact J8;refine B ?_;refine dV (by simp[*]) (B ?_);refine .same (B ?_);subst Vz;exact a6.cm (lS [1,2,3,4,5,0,0,8,9,10,11,12,13,14,15,16,17]) _ _ Y Y ⟨p2,qU,R2,vQ,Cj,BR,zy,hy.ok,G,G,hQ2,G,rfl,rfl⟩ wt
structure EA(qs:List Qu)(sts:List Int)(lg:List bG)(N:Nat)(cg:List Qu)(fh:List Int)(lg1:List bG):Prop where
 q:la qs cg
 st:fh.length=sts.length
 log:∃R,lg1=lg++R/\(∀r∈R,plain r)/\R.length<=N
def EA.init(qs)(sts)(lg):EA qs sts lg 0 qs sts lg:=⟨.refl _,rfl,[],(yM _).symm,fun r D=>by simp at D,aC _⟩
section
variable{qs:List Qu} {sts:List Int} {lg:List bG} {N:Nat} {cg:List Qu} {fh:List Int} {lg1:List bG}
def EA.le(h:EA qs sts lg N cg fh lg1){N'}(hn:N<=N'):EA qs sts lg N' cg fh lg1:=by have⟨R,a,b,c⟩:=h.log;exact⟨h.q,h.st,R,a,b,dF c hn⟩
def EA.drop(h:EA qs sts lg N cg fh lg1)(slot aR id bZ):EA qs sts lg (N+1) cg (iZ fh id 4) (lg1++[⟨slot,2,aR,id,bZ,0⟩]):=by have⟨R,a,b,c⟩:=h.log;refine⟨h.q,by rw[Iu];exact h.st,R++[⟨slot,2,aR,id,bZ,0⟩],by simp_all,fun r D=>?_,by simp_all⟩;exact R9
def EA.exp(h:EA qs sts lg N cg fh lg1)(k)(s):EA qs sts lg N (cg.set k (fG (Z cg k) s).2) fh lg1:=⟨h.q.set Fx,h.st,h.log⟩
def EA.len(h:EA qs sts lg N cg fh lg1):lg1.length<=lg.length+N:=by have⟨R,a,b,c⟩:=h.log;simp_all
end
def la.ok{qs cg}(h:la qs cg){z}{aV:Nat->Int->Prop}(hq:∀f,f<qs.length->gu z (aV f) (Z qs f)):∀f,f<cg.length->gu z (aV f) (Z cg f):=fun f hf=>(hq f (by rw[<-h.1];exact hf)).sub (h.2 f)
def aW.JH{c}{z b}{S}(h:aW c z b S)(hz:z+1<=100)(M:b+64<=8900){p'}{cg}{fh}{lg1}{wl}{pi}{m9 m8 m7}{n8}{fK}{cD}{fq} (hq:la S.qs cg)(bQ:fh.length=S.sts.length)(hm:jk S.t n8 pi wl)(uO:wl.length<=S.ac.length+32)(xj:m8<=S.NR+32)(Vw:m7<=S.NL+300000)(xR:fK.length=S.sa.length)(qi:cD.length=S.ss.length)(gK:fq.length=S.rs.length) (hs:∀i,i<cD.length->cQ c ((b+64:Nat):Int) (Qs S.pk S.t i) (Z cD i) (Z fK i).next)(D:∀i,i<fq.length->cT S.pk.length ((b+64:Nat):Int) (b+64) (Z fq i)) (rc:jj c (re c S) lg1)(d3:lH (S.pk.map (·.len)) lg1)(hl3:lg1.length<=S.lg.length+900000):aW c (z+1) (b+64) {S with P:=S.P.wp p',sts:=fh,qs:=cg,ac:=wl,lg:=lg1,tm:=pi,ck:=m9,NR:=m8,cp:=n8,NL:=m7,sa:=fK,ss:=cD,rs:=fq}:=by
 have h':=h.up (e7 z) hz (fw b 64) M;have E:=h.nl;have F:=h.nr;have h3:=h.acl;have h4:=h.lgn
 exact{h' with
  nq:=hq.1.trans h.nq
  ns:=xR.trans h.ns
  nss:=by show cD.length=fK.length;rw[qi,xR];exact h.nss
  nrs:=by show fq.length=fK.length;rw[gK,xR];exact h.nrs
  nch:=by show S.ch.length=fK.length;rw[xR];exact h.nch
  qs:=fun f hf=>(hq.ok h.qs f hf).mono (e7 z) fun _ h=>h
  ss:=hs
  rs:=D
  life:=bQ.trans h.life
  nl:=by grind
  nr:=by grind
  cps:=hm.cps
  acs:=hm.acs
  acd:=hm.acd
  acl:=by grind
  lgn:=by grind
  log:=rc
  acc:=d3}
def aW.QN{c}{z b}{S}(h:aW c z b S)(M:b+64<=8900):(∀i,i<S.ss.length->cQ c ((b+64:Nat):Int) (Qs S.pk S.t i) (Z S.ss i) (Z S.sa i).next)/\(∀i,i<S.rs.length->cT S.pk.length ((b+64:Nat):Int) (b+64) (Z S.rs i)):=
 ⟨fun i Q=>(h.ss i Q).mono G G fun _ h=>h,fun i Q=>(h.rs i Q).up (gF _) G G G G⟩
def aW.ato{c}{z b}{S}(h:aW c z b S)(M:b+64<=8900){ah}{fK}{cD}{fq}(oa:e_ ah S.sa fK)(os:e_ ah S.ss cD)(r6:e_ ah S.rs fq) (hs:cQ c ((b+64:Nat):Int) (Qs S.pk S.t ah) (Z cD ah) (Z fK ah).next)(D:cT S.pk.length ((b+64:Nat):Int) (b+64) (Z fq ah)):(∀i,i<cD.length->cQ c ((b+64:Nat):Int) (Qs S.pk S.t i) (Z cD i) (Z fK i).next)/\(∀i,i<fq.length->cT S.pk.length ((b+64:Nat):Int) (b+64) (Z fq i)):=by have⟨E,F⟩:=h.QN M;refine⟨fun i Q=>?_,fun i Q=>?_⟩;by_cases e:i=ah;subst e;exact hs;rw[os.2 i e,oa.2 i e];exact E i (by rw[<-os.1];exact Q);by_cases e:i=ah;subst e;exact D;rw[r6.2 i e];exact F i (by rw[<-r6.1];exact Q)
structure kb(c:bT)(z b:Nat)(S:Ms)(i:Nat)(M1:Ms):Prop where
 ok:aW c (z+1) (b+64) M1
 slot:M1.slot=S.slot
 t:M1.t=S.t
 ns:M1.sa.length=S.sa.length
 ch:∀j,i<=j->j<M1.ch.length->(Z M1.ch j).n<=z/\(Z M1.ch j).r<=z
def kb.step{c}{z b}{S}{i}{M1}(h:kb c z b S i M1)(Q:i<M1.ch.length)(k a d)(u):kb c z b S (i+1) {M1 with ch:=M1.ch.set i (Gu k a d (Z M1.ch i) u)}:=by
 have F:=h.ok.ch i Q
 refine⟨{h.ok with
  nch:=by show(M1.ch.set _ _).length=_;rw[fV];exact h.ok.nch
  ch:=fun j hj=>by
   have hj:j<M1.ch.length:=by simpa using hj
   show(Z (M1.ch.set i _) j).n<=z+1/\0<=(Z (M1.ch.set i _) j).r/\(Z (M1.ch.set i _) j).r<=((z+1:Nat):Int)
   rw[qp Q]
   split
   ·have hz:=h.ch i (aC _) Q
    unfold Gu
    grind
   ·exact h.ok.ch j hj},h.slot,h.t,h.ns,fun j hj hl=>?_⟩
 have hl:j<M1.ch.length:=by simpa using hl
 show(Z (M1.ch.set i _) j).n<=z/\(Z (M1.ch.set i _) j).r<=z;rw[qp Q,ay G];exact h.ch j G hl
section
variable{c:bT} {z b:Nat} {S:Ms} {N:Nat} {cg:List Qu} {fh:List Int} {lg1:List bG} {p':Nat->Nat} {wl:List Int} {pi:List (Int×Nat×Nat)} {m9 m8:Nat} {n8:List St} {R:List bG}
def EA.OR(h:aW c z b S)(hx:EA S.qs S.sts S.lg N cg fh lg1)(hR:∀r∈R,plain r):jj c (re c S) (lg1++R)/\lH (S.pk.map (·.len)) (lg1++R):=by have⟨R0,e,h0,_⟩:=hx.log;rw[e];exact⟨(h.log.Et R0 h0).Et R hR,(h.acc.others R0 fun r D=>(h0 r D).2.2).others R fun r D=>(hR r D).2.2⟩
def kb.none(h:aW c z b S)(hz:z+1<=100)(M:b+64<=8900)(hN:N<=3300)(hx:EA S.qs S.sts S.lg N cg fh lg1)(hm:jk S.t n8 pi wl)(uO:wl.length<=S.ac.length+32)(xj:m8<=S.NR+32)(hR:∀r∈R,plain r)(hl:R.length<=2*S.ac.length+32):kb c z b S 0 {S with P:=S.P.wp p',sts:=fh,qs:=cg,ac:=wl,lg:=lg1++R,tm:=pi,ck:=m9,NR:=m8,cp:=n8}:=by have⟨E,F⟩:=h.QN M;have⟨l1,rU⟩:=EA.OR h hx hR;have h3:=hx.len;have h4:=h.acl;exact⟨aW.JH h hz M hx.q hx.st hm uO xj (fw _ _) rfl rfl rfl E F l1 rU (by grind),rfl,rfl,rfl,fun j _ hj=>by have:=h.ch j hj;simp_all⟩
def kb.idle(h:aW c z b S)(hz:z+1<=100)(M:b+64<=8900)(hN:N<=3300)(hx:EA S.qs S.sts S.lg N cg fh lg1)(hm:jk S.t n8 pi wl)(uO:wl.length<=S.ac.length+32)(xj:m8<=S.NR+32)(hR:∀r∈R,plain r)(hl:R.length<=2*S.ac.length+32):kb c z b S 0 {S with P:=S.P.wp p',sts:=fh,qs:=cg,ac:=wl,lg:=lg1++R++[⟨S.slot,5,-1,0,6,-1⟩],tm:=pi,ck:=m9,NR:=m8,cp:=n8}:=by have⟨E,F⟩:=h.QN M;have⟨l1,rU⟩:=EA.OR h hx hR;have h3:=hx.len;have h4:=h.acl;exact⟨aW.JH h hz M hx.q hx.st hm uO xj (fw _ _) rfl rfl rfl E F (l1.other (by simp_all) (fun _=>by simp_all)) (rU.others _ fun r D=>by simp_all) (by grind),rfl,rfl,rfl,fun j _ hj=>by have:=h.ch j hj;simp_all⟩
def kb.asS(h:aW c z b S)(hz:z+1<=100)(M:b+64<=8900)(hN:N<=3300)(hx:EA S.qs S.sts S.lg N cg fh lg1)(hm:jk S.t n8 pi wl)(uO:wl.length<=S.ac.length+32)(xj:m8<=S.NR+32)(hR:∀r∈R,plain r)(hl:R.length<=2*S.ac.length+32) {ah n}{l}(ha:ah<S.sa.length)(hS:lL c S.pk S.t S.ss (fu c S.t ah) ah l n){m7}{iD}{qs2}{fK}{cD}{fq}{cz R2}(a1:iD.length=fh.length)(a2:m7<=S.NL+300000)(a3:la cg qs2)(a4:e_ ah S.sa fK)(a5:e_ ah S.ss cD)(eg:e_ ah S.rs fq) (ez:cQ c ((b+64:Nat):Int) (Qs S.pk S.t ah) (Z cD ah) (Z fK ah).next)(eA:cT S.pk.length ((b+64:Nat):Int) (b+64) (Z fq ah))(a9:mC S.pk cz (l.take n))(eo:∀r∈R2,plain r)(eG:R2.length<=300000):kb c z b S 0 {S with P:=S.P.wp p',sts:=iD,qs:=qs2,ac:=wl,lg:=lg1++R++[⟨S.slot,5,(ei S.pk (Z l 0).id).aR,0,1,(ah:Int)⟩]++cz++R2,tm:=pi,ck:=m9,NR:=m8,cp:=n8,NL:=m7,sa:=fK,ss:=cD,rs:=fq}:=by have⟨E,F⟩:=h.ato M a4 a5 eg ez eA;have⟨l1,rU⟩:=EA.OR h hx hR;have h3:=hx.len;have h4:=h.acl;have WR:sJ c (re c S) ⟨S.slot,5,(ei S.pk (Z l 0).id).aR,0,1,(ah:Int)⟩ cz:=asL hS (by rw[<-h.ns];exact ha) a9 rfl rfl rfl;have VF:=a9.len;rw[wb]at VF;have hn:=hS.n32;have Nt:=(l1.JA WR).Et R2 eo;have e:lg1++R++[⟨S.slot,5,(ei S.pk (Z l 0).id).aR,0,1,(ah:Int)⟩]++cz++R2=lg1++R++(⟨S.slot,5,(ei S.pk (Z l 0).id).aR,0,1,(ah:Int)⟩::cz)++R2:=sM;rw[e];have He:=(rU.others (⟨S.slot,5,(ei S.pk (Z l 0).id).aR,0,1,(ah:Int)⟩::cz) fun r D=>by rcases gE.1 D with rfl|D;simp_all;have:=(WR.kinds r D).1;omega).others R2 fun r D=>(eo r D).2.2;exact⟨aW.JH h hz M (hx.q.trans a3) (a1.trans hx.st) hm uO xj a2 a4.1 a5.1 eg.1 E F Nt He (by grind),rfl,rfl,a4.1,fun j _ hj=>by have:=h.ch j hj;simp_all⟩
end
def kb.done{c}{z b}{S}(h0:aW c z b S){i}{M1}(h:kb c z b S i M1){lost}(hl:0<=lost/\lost<=16384){slot}(hs:slot=M1.slot+1):aW c (z+1) (b+64) {M1 with lost:=lost,slot:=slot}:=by
 have E:=h0.slot;have F:=h.slot
 exact{h.ok with
  slot:=by grind
  lost:=hl}
