/- Lemmas for TopZ; tactic blocks in binders fill in some arguments. -/
import Derived.Shelf.Bits.Mul64
import Derived.Test.YtfkepgkmobgleaaGreatDoorP13
set_option linter.all false
noncomputable section
set_option maxHeartbeats 0
namespace Go.Proofs.YtfkepgkmobgleaaGreatDoor
open Go.Sx Go.Air Tryz
def LZ(c)(P)(slot time lost)(rl)(nq ns)(pk)(ac)(lg)(tm:List (Int×Nat×Nat))(ck)(NL)(sts)(id bZ) (w1:1<=bZ)(w2:bZ<=4)(E:1<=id)(F:id<=pk.length)(hp:pk.length<=100000)(hl:lg.length<=1000000000):al prog 72 [.ptr 0 0,.int .i64 id,.int .i64 bZ] (MH c P slot time lost rl nq ns pk ac lg tm ck++[.asn (gn P.l NL sts)]) (fun s I=>s=.tup []/\I=ML 10 c P slot time lost rl nq ns pk ac tm ck++[.asn (gn P.l NL (iZ sts id 4)),e5 (lg++[⟨slot,2,(ei pk id).aR,id,bZ,0⟩])]):=by refine al.ar aj func72 Y rfl ?_;have hw:IntKind.i64.wrap (id-1)=id-1:=a_ _ G G;refine B ?_;refine aL.call (p:=9) (amE _ _ _ _ _ G G) rfl (B ?_);(refine⟨_,by rw[hw];exact vB E F,B ?_⟩);refine(pD _ _ _ _ _ _ _ _ _ _ _ _ _ _ _ _ _ _ _ G).call [0,1,2,3,4,5,6,7,8,10] Y Y6 (C8 (C8 (C8 Y6))) (rj (B ?_));exact acv
def gx(slot:Int)(pk:List Pk)(ids:List Int):List bG:=ids.map fun id=>⟨slot,4,(ei pk id).aR,id,0,0⟩
def ahz(slot)(pk)(lg){ids}{i}(h:i<ids.length):lg++gx slot pk (ids.take i)++[⟨slot,4,(ei pk (Z ids i)).aR,Z ids i,0,0⟩]=lg++gx slot pk (ids.take (i+1)):=by unfold gx;rw[Ks,b8 h];simp
def alN{ids}{i}(h:i<ids.length):(ids.map ic)[i]?=some (ic (Z ids i)):=by rw[bz,b8 h];rfl
def Uk(c)(P)(slot time lost)(rl)(nq ns)(pk)(ac)(lg)(tm:List (Int×Nat×Nat))(ck)(NL)(sts)(ids) (Q:∀id∈ids,ie pk id)(hp:pk.length<=100000)(hN:NL+ids.length<=1000000000)(hl:lg.length+ids.length<=1000000000)(hn:ids.length<=100000):al prog 135 [.ptr 0 0,.rs 1 (ids.map ic)] (MH c P slot time lost rl nq ns pk ac lg tm ck++[.asn (gn P.l NL sts)]) (fun s I=>∃dK,dK.length=sts.length/\s=.tup []/\I=ML 10 c P slot time lost rl nq ns pk ac tm ck++[.asn (gn P.l (NL+ids.length) dK),e5 (lg++gx slot pk ids)]):=by
 refine al.ar aj func135 Y rfl ?_;have hg:(pk.map Pk.cells).length=pk.length:=bh _;refine B ?_;refine b6.cq aj 32 (fun x:{x:Nat×List Int//x.1<=ids.length/\x.2.length=sts.length}=>[(0,.ptr 0 0),(6,.rs 1 (ids.map ic)),(7,.int .i64 ((ids.map ic).length:Int)),(8,.int .i64 (x.1.1:Int))]) (fun x=>ML 10 c P slot time lost rl nq ns pk ac tm ck++[.asn (gn P.l (NL+x.1.1) x.1.2),e5 (lg++gx slot pk (ids.take x.1.1))]) (fun x=>ids.length-x.1.1) ⟨(0,sts),cx _,rfl⟩ (.cm (lS [1,2,3,4,5,6,0,8,9,10,7]) Y Y ?_) ?_;·refine B ?_;exact⟨by(simp[gx];done),wt⟩
 ·intro x;have⟨⟨i,st1⟩,d7,ix⟩:=x;dsimp only at*;have hy:(gx slot pk (ids.take i)).length<=ids.length:=by simp[gx];omega
  by_cases ai:i<ids.length;rotate_left;rotate_left;have hid:∀x,ids[i]?=some x->1<=x/\x<=(pk.length:Int)/\IntKind.i64.wrap (x-1)=x-1/\x=Z ids i:=fun x hx=>by have o:=Q x (bN hx);have E:=o.1;have F:=o.2;exact⟨E,F,a_ _ G G,by rw[b8 ai]at hx;simpa using hx.symm⟩
  refine B ?_;refine kd G fun x0 n5=>?_;refine B ?_;refine k9.call (p:=9) (ahK _ _ G _ _) rfl ?_;rintro _ _ ⟨u1,g2,rfl,rfl⟩;refine B ?_;refine⟨by(have hz:=hid _ n5;rw[hz.2.2.1];omega),?_⟩;refine B ?_;(have hz:=hid _ n5;refine⟨_,by rw[hz.2.2.1];exact vB hz.1 hz.2.1,?_⟩);refine B ?_;refine(pD _ _ _ _ _ _ _ _ _ _ _ _ _ _ _ _ _ _ _ (by(simp;omega))).call [0,1,2,3,4,5,10,7,8,11] Y Y6 (C8 (C8 (C8 Y6))) (rj (B ?_));(refine⟨⟨(i+1,u1),ai,g2.trans ix⟩,by show ids.length-(i+1)<ids.length-i;omega,.cm (lS [1,2,3,4,5,6,0,8,9,10,12]) Y Y ?_⟩);refine B ?_;refine⟨by exact(a_ _ G G).trans sM,?_⟩;refine B ?_;exact⟨by(have hz:=hid _ n5;rw[hz.2.2.2,<-ahz slot pk lg ai]),wt⟩;·refine B ?_;refine .same (B ?_);(obtain rfl:i=ids.length:=by omega);(simp only[yQ]);(refine a6.of X7 _ _ Y ⟨st1,ix,rfl,rfl⟩ ?_;(conv=>whnf);(repeat(first|exact trivial|rfl|(refine⟨rfl,?_⟩;(conv=>whnf)))))
end Go.Proofs.YtfkepgkmobgleaaGreatDoor
namespace Go.Air
open Go.Sx
structure cT(K Q:Int)(N:Nat)(r:dj):Prop where
 bn:1<=r.bn/\r.bn<=64
 exp:0<=r.exp/\r.exp<=Q
 top:Q<=20000
 keys:∀e∈r.held,r.exp<=e.1/\e.1<Q/\1<=e.2.1/\e.2.1<=K
 AI:∀e∈r.held,e.1<r.exp+64
 len:r.held.length<=N
 N:N<=9000
def cT.ok{K Q}{N}{r}(h:cT K Q N r):hU r:=
 ⟨h.bn,⟨h.exp.1,by have:=h.exp.2;have:=h.top;omega⟩,fun e H=>⟨by have:=h.exp.1;have:=(h.keys e H).1;omega,by have:=(h.keys e H).2.1;have:=h.top;omega⟩,dF h.len (dF h.N dC)⟩
def tk(K:Int)(l:List Int):Prop:=∀id∈l,1<=id/\id<=K
def IA{α:Type}{l}{k}{e:Int×α×Nat}(h:e∈iy l k):e∈l/\e.1≠k:=by unfold iy at h;simp_all
def anH{α:Type}{l:List (Int×α×Nat)}{k}(h:dJ l k=none):∀e∈l,e.1≠k:=fun e H o=>by unfold dJ at h;simp at h;unfold vj at h;grind
def cT.next{K Q}{N}{r}(h:cT K Q N r)(H:r.exp<Q)(out)(I:tk K out):cT K Q N (eE r out).2/\tk K (eE r out).1/\(eE r out).1.length+(eE r out).2.held.length<=out.length+r.held.length/\(eE r out).2.exp=r.exp+1:=by
 unfold eE;cases hm:dJ r.held r.exp with
 |some id=>obtain⟨e0,hs,_,e2⟩:=Ph hm;have hl:=Pa hm;have o:=h.keys _ hs;rw[e2]at o;refine⟨⟨h.bn,⟨by show 0<=r.exp+1;have:=h.exp.1;omega,by grind⟩,h.top,fun e hq=>?_,fun e hq=>by have:=h.AI e (IA hq).1;grind,?_,h.N⟩,fun x hx=>?_,?_,rfl⟩;obtain⟨a,b⟩:=IA hq;have:=h.keys e a;grind;show(iy r.held r.exp).length<=N;have:=h.len;omega;rcases eJ.1 hx with hx|hx;exact I x hx;simp_all;grind
 |none=>refine⟨⟨h.bn,⟨by show 0<=r.exp+1;have:=h.exp.1;omega,by grind⟩,h.top,fun e hq=>?_,fun e hq=>by have:=h.AI e hq;grind,h.len,h.N⟩,I,aC _,rfl⟩;have o:=h.keys e hq;have:=anH hm e hq;grind
def cT.skip{K Q}{N}(n:Nat):∀{r},cT K Q N r->r.exp+n<=Q->∀out,tk K out->cT K Q N (cI n r out).2/\tk K (cI n r out).1/\(cI n r out).1.length+(cI n r out).2.held.length<=out.length+r.held.length/\(cI n r out).2.exp=r.exp+n:=by induction n with|zero=>intro r h _ out I;exact⟨h,I,aC _,by simp[cI]⟩|succ n ih=>intro r h hn out I;obtain⟨a,b,c,d⟩:=h.next G out I;obtain⟨a',b',c',d'⟩:=ih a (by rw[d];omega) _ b;exact⟨a',b',dF c' c,by show(cI n _ _).2.exp=_;rw[d',d];omega⟩
def cT.rel{K Q}{N}(n):∀{r},cT K Q N r->∀out,tk K out->cT K Q N (ku n r out).2/\tk K (ku n r out).1/\(ku n r out).1.length+(ku n r out).2.held.length<=out.length+r.held.length:=by
 induction n with
 |zero=>intro r h out I;exact⟨h,I,aC _⟩
 |succ n ih=>
  intro r h out I;show cT K Q N (ku (n+1) r out).2/\_;unfold ku;cases hm:hC r.held r.exp with
  |false=>simp_all
  |true=>
   simp only[dw];have ai:r.exp<Q:=by unfold hC at hm;obtain⟨e,H,o⟩:=sv.1 hm;simp at o;have:=(h.keys e H).2.1;omega
   obtain⟨a,b,c,_⟩:=h.next ai out I;grind
def cT.ET{K Q}{N}{r}(h:cT K Q N r){b}(M:b<=Q):cT K Q N (fp r b).2/\tk K (fp r b).1/\(fp r b).1.length<=N:=by
 unfold fp;split;exact⟨h,fun x hx=>by simp at hx,cx _⟩;have H:r.exp+(b-r.exp).toNat<=Q:=by have:=h.exp.2;omega
 obtain⟨a,b1,c,_⟩:=h.skip (b-r.exp).toNat H [] (fun x hx=>by simp at hx);obtain⟨a',b',c'⟩:=a.rel (cI (b-r.exp).toNat r []).2.held.length _ b1;refine⟨a',b',?_⟩;have:=h.len;simp at c;show(ku _ _ _).1.length<=N;omega
def cT.aa6{K Q}{N}{r}(h:cT K Q N r){b}(M:b<=Q):cT K Q N (cI (b-r.exp).toNat r []).2/\(cI (b-r.exp).toNat r []).1.length+(cI (b-r.exp).toNat r []).2.held.length<=N:=by obtain⟨a,_,c,_⟩:=h.skip (b-r.exp).toNat (by have:=h.exp.2;omega) [] (fun x hx=>by simp at hx);have:=h.len;grind
def IF{α:Type}{l}{k}{a}{ck}{e:Int×α×Nat}(h:e∈gb l k a ck):e∈l\/(e.1=k/\e.2.1=a):=by unfold gb at h;grind
def Pp{α:Type}(l:List (Int×α×Nat))(k)(a)(ck):(gb l k a ck).length<=l.length+1:=by unfold gb;split<;>simp
def cT.put{K Q}{N}{r}(h:cT K Q N r)(hN:N+1<=9000){q id}(hq:q<Q)(HH:q<r.exp+64)(E:1<=id)(F:id<=K):cT K Q (N+1) (fS r q id):=by have hl:=h.len;unfold fS;split;refine⟨h.bn,h.exp,h.top,fun e H=>?_,fun e H=>?_,?_,hN⟩;rcases IF H with H|⟨e1,e2⟩;exact h.keys e H;simp_all;rcases IF H with H|⟨e1,e2⟩;exact h.AI e H;simp_all;show(gb r.held q id r.ck).length<=N+1;have:=Pp r.held q id r.ck;omega;exact⟨h.bn,h.exp,h.top,h.keys,h.AI,G,hN⟩
def cT.up{K Q}{N}{r}(h:cT K Q N r){K' f_}{N'}(hK:K<=K')(hh:Q<=f_)(ht:f_<=20000)(hN:N<=N')(hN':N'<=9000):cT K' f_ N' r:=
 ⟨h.bn,⟨h.exp.1,Int.le_trans h.exp.2 hh⟩,ht,fun e H=>by
  obtain⟨a,b,c,d⟩:=h.keys e H
  omega,h.AI,dF h.len hN,hN'⟩
def cT.recv{K Q}{N}{r}(h:cT K Q N r)(hN:N+1<=9000){b q id}(dn:0<=b)(n2:0<=q)(M:b<=Q)(hq:q<Q)(E:1<=id)(F:id<=K):cT K Q (N+1) (fT r b q id).2/\tk K (fT r b q id).1/\(fT r b q id).1.length<=N+1:=by
 unfold fT;split;exact⟨h.up (gF _) (gF _) h.top (e7 _) hN,fun x hx=>by simp at hx,cx _⟩;have H:r.exp+(b-r.exp).toNat<=Q:=by have:=h.exp.2;omega
 obtain⟨a,b1,c,d⟩:=h.skip (b-r.exp).toNat H [] (fun x hx=>by simp at hx);have HH:q<(cI (b-r.exp).toNat r []).2.exp+64:=by rename_i hc;have g7:¬r.bn<=bI b q:=fun hx=>hc (.inr hx);have hw:=h.bn.2;rw[d];unfold bI at g7;split at g7<;>omega
 have hp:=a.put hN hq HH E F;obtain⟨a',b',c'⟩:=hp.rel (fS (cI (b-r.exp).toNat r []).2 q id).held.length _ b1;refine⟨a',b',?_⟩;have h0:=h.len;have hm:(fS (cI (b-r.exp).toNat r []).2 q id).held.length<=(cI (b-r.exp).toNat r []).2.held.length+1:=by unfold fS;split;exact Pp _ _ _ _;omega
 simp at c;show(ku _ _ _).1.length<=N+1;omega
end Go.Air
namespace Go.Proofs.YtfkepgkmobgleaaGreatDoor
open Go.Sx Go.Air Tryz
def atd(u:Nat->Nat)(xs)(i)(Q:i<xs.length)(b){K t}{N}(h:cT K t N (Z xs i))(dn:0<=b)(M:b<=t):aL prog 214 [.ra (u i) 0,.int .i64 b] (aI (fun i=>[u i]) (xs.map HR)) (.tup [.rs 1 ((fp (Z xs i) b).1.map ic),.any]) (aI (fun i=>[u i]) ((xs.set i (fp (Z xs i) b).2).map HR)):=by obtain⟨E,F⟩:=h.aa6 M;have:=E.exp.2;have:=E.top;have:=E.len;have:=E.N;exact atc u xs i Q b h.ok ⟨dn,G⟩ G E.ok G
def JO(c)(P)(slot time lost)(rl)(nq ns)(pk)(ac)(lg)(tm:List (Int×Nat×Nat))(ck)(NL)(sts)(sa)(ss:List b7)(rs)(i)(t)(N) (E:i<sa.length)(F:i<ss.length)(h3:i<rs.length)(h:cT pk.length t N (Z rs i))(dn:0<=(Z ss i).base)(M:(Z ss i).base<=t)(hp:pk.length<=100000)(hN:NL+N<=1000000000)(hl:lg.length+N<=1000000000):al prog 140 [.ptr 0 0,.ra (P.s i) 0] (MH c P slot time lost rl nq ns pk ac lg tm ck++[.asn (gn P.l NL sts),.asn (fL P sa),.asn (aI (fun i=>[P.e i]) (ss.map HS)),.asn (aI (fun i=>[P.r i]) (rs.map HR))]) (fun s I=>∃dK,dK.length=sts.length/\s=.tup []/\I=ML 13 c P slot time lost rl nq ns pk ac tm ck++[.asn (gn P.l (NL+(fp (Z rs i) (Z ss i).base).1.length) dK),.asn (fL P sa),.asn (aI (fun i=>[P.e i]) (ss.map HS)),.asn (aI (fun i=>[P.r i]) ((rs.set i (fp (Z rs i) (Z ss i).base).2).map HR)),e5 (lg++gx slot pk (fp (Z rs i) (Z ss i).base).1)]):=by refine al.ar aj func140 Y rfl ?_;obtain⟨_,Hs,oW⟩:=h.ET M;have hN1:=h.N;refine B ?_;refine cc.eX (p:=10) rfl E (B ?_);refine cc.eX (p:=10) rfl E (B ?_);refine aL.cA (p:=11) (Lu _ _ _ G) rfl (B ?_);refine aL.cA (p:=12) (atd _ _ _ G _ G G G) rfl (B ?_);refine(Uk _ _ _ _ _ _ _ _ _ _ _ _ _ _ _ _ (by exact Hs) G G G G).call [0,1,2,3,4,5,6,7,8,9,15] Y Y1 (C8 (C8 (C8 Y7))) ?_;rintro _ _ ⟨tZ,g21,rfl,rfl⟩;refine B ?_;(refine a6.cm (lS [1,2,3,4,5,6,0,8,9,10,11,12,13,16]) _ _ Y Y ⟨_,‹_›,rfl,rfl⟩ ?_;(conv=>whnf);(repeat(first|exact trivial|rfl|(refine⟨rfl,?_⟩;(conv=>whnf)))))
def gone(sts:List Int)(r:dj)(id:Int):Bool:=decide (tx sts id=2)&& !(r.held.any fun e=>e.2.1==id)
def aco{ab:Prop}(k:ab:=by (simp only[show gone sts (Z rs i) p.id=false from by simp[gone, *],dI,ek,yM]);exact a6.cm ang _ _ Y Y ⟨rfl,rfl⟩ (B lF)):ab:=k
def Tf(c)(P)(slot time lost)(rl)(nq ns)(pk)(ac)(lg)(tm:List (Int×Nat×Nat))(ck)(NL)(sts)(sa)(ss)(rs)(i)(p:Se)(bZ) (E:i<sa.length)(F:i<ss.length)(h3:i<rs.length)(hs:hY (Z ss i))(hid:ie pk p.id)(w1:1<=bZ)(w2:bZ<=4)(hp:pk.length<=100000)(hl:lg.length<=1000000000):al prog 139 [.ptr 0 0,.ra (P.s i) 0,.agg p.cells,.int .i64 bZ] (MH c P slot time lost rl nq ns pk ac lg tm ck++[.asn (gn P.l NL sts),.asn (fL P sa),.asn (aI (fun i=>[P.e i]) (ss.map HS)),.asn (aI (fun i=>[P.r i]) (rs.map HR))]) (fun s I=>s=.tup []/\I=ML 13 c P slot time lost rl nq ns pk ac tm ck++[.asn (gn P.l NL (if gone sts (Z rs i) p.id then iZ sts p.id 4 else sts)),.asn (fL P sa),.asn (aI (fun i=>[P.e i]) ((ss.set i (mz (Z ss i) p.seq).2.2).map HS)),.asn (aI (fun i=>[P.r i]) (rs.map HR)),e5 (lg++if gone sts (Z rs i) p.id then[⟨slot,2,(ei pk p.id).aR,p.id,bZ,0⟩]else[])]):=by refine al.ar aj func139 Y rfl ?_;have hd1:1<=p.id:=hid.1;have hd2:p.id<=pk.length:=hid.2;refine B ?_;refine cc.eX (p:=10) rfl E (B ?_);refine aL.cA (p:=11) (aia _ _ _ G _ G) rfl (B ?_);refine aL.cA (p:=9) (anj _ _ _ _) rfl (B ?_);refine dT (fun _=>B ?_) fun _=>B ?_;refine cc.eX (p:=10) rfl E (B ?_);refine aL.cA (p:=12) (ak3 _ _ _ G _) rfl (B ?_);refine⟨fun s7=>?_,fun s7=>?_⟩;refine B ?_;refine(LZ _ _ _ _ _ _ _ _ _ _ _ _ _ _ _ _ _ G G G G G G).call [0,1,2,3,4,5,6,7,8,9,17] Y Y2 (C8 (C8 (C8 Y7))) (rj (B ?_));(simp only[show gone sts (Z rs i) p.id=true from by simp[gone, *],dw]);exact a6.cm (lS [1,2,3,4,5,6,0,8,9,10,11,12,13,18]) _ _ Y Y ⟨rfl,rfl⟩ (B lF);refine B ?_;exact aco;exact aco
def BQ(s:St):Hp:=[.fix 301 s.cells]
def AL(s):oJ 1 (BQ s):=⟨eW (qx Y) nc,by intro i Q;match i,Q with|0,_=>exact⟨_,_,rfl⟩,by(conv=>whnf);(repeat(first|exact trivial|rfl|(refine⟨rfl,?_⟩;(conv=>whnf))))⟩
def iN(P:Pl)(cp:List St):fy:=aI (fun i=>[P.p i]) (cp.map BQ)
def amH(c)(P)(slot time lost)(rl)(nq ns)(pk)(ac)(lg)(tm:List (Int×Nat×Nat))(ck)(NR)(cp)(aR)(k) (o:dJ tm aR=some k)(rE:∀e∈tm,e.2.1<cp.length):al prog 487 [.ptr 7 0,.int .i64 aR] (MH c P slot time lost rl nq ns pk ac lg tm ck++[.asn (fI P.d NR),.asn (iN P cp)]) (fun s I=>s=.int .i64 0/\I=MH c P slot time lost rl nq ns pk ac lg (iy tm aR) ck++[.asn (fI P.d NR),.asn (iN P cp)]):=by refine al.ar aj func487 Y rfl ?_;have⟨e0,lY,_,C3⟩:=Ph o;have cF:=C3▸rE e0 lY;have V1:∀q a st,(q,a,st)∈iy tm aR->a<cp.length:=fun q a st h=>rE _ (IA h).1;refine B ?_;(refine nG.of rfl (fun a ha=>?_) (fun dW=>absurd (dW.symm.trans o) sM);have e:k=a:=mJ (o.symm.trans ha);subst e);refine B ?_;refine b6.cq aj 46 (fun i:List Nat=>[(0,.ptr 7 0),(5,.ra (P.p k) 0),(23,.it 11)]) (fun i=>MH c P slot time lost rl nq ns pk ac lg (iy tm aR) ck++[.asn (fI P.d NR),.asn (iN P cp),.mit (some 8) ck i ck]) (fun i=>Bi (iy tm aR) i) [] (.of DZ Y ?_) ?_;refine B ?_;exact⟨by exact O0 _ _ _,wt⟩;intro i;refine B ?_;refine wu.of rfl (fun q a st dd bQ=>?_) (fun dl=>?_);refine B ?_;refine⟨⟨_,_,_,O4 dd,OK,B ?_⟩⟩;refine cc.pool aj AL (p:=10) rfl (b8 (V1 _ _ _ dd)) rfl (B ?_);refine cc.pool aj AL (p:=10) rfl (b8 cF) rfl (B ?_);refine dT (fun _=>B ?_) fun _=>B ?_;refine .same (B ?_);exact acv;exact⟨i++[_],Rc dd bQ,.of DZ Y wt⟩;refine B ?_;refine .same (B ?_);refine cc.pool aj AL (p:=10) rfl (b8 cF) rfl (B ?_);refine aL.cA (p:=9) (amG _ _ _) rfl (B ?_);exact acv
def anD:y5 prog 130 "airshare/machine.leave" 487:=fun w v=>by kernel_rfl
def anC:y5 prog 130 "airshare/machine.join" 486:=fun w v=>by kernel_rfl
def anE:y5 prog 130 "airshare/machine.weight" 488:=fun w v=>by kernel_rfl
def nH(ac:List Int)(f:Int):List Int:=ac.eraseIdx (idxOf (fun y=>decide (f=y)) ac).toNat
end Go.Proofs.YtfkepgkmobgleaaGreatDoor
namespace Go.Sx
def cf.mono{P}{m id}{ops}{J}{h}{K K'}(hd:cf P m id ops J h K)(hm:∀F' h',K F' h'->K' F' h'):cf P m id ops J h K':=
 ⟨fun w X g tmps O hF=>j8 (hd.ok w X g tmps O hF) fun e a w'⟨C1,x,F',I,V,hx,⟨hn,o⟩,aE,cB,hS⟩=>⟨C1,x,F',I,V,hx,⟨hn,hm F' I o⟩,aE,cB,hS⟩⟩
end Go.Sx
namespace Go.Proofs.YtfkepgkmobgleaaGreatDoor
open Go.Sx Go.Air Go.Sort Go.Shelf Tryz
def fg(p:Nat->Nat)(n u:Nat):Nat->Nat:=fun i=>if i=n then u else p i
def Pl.nM(P:Pl)(n u:Nat):Pl:={P with p:=fg P.p n u}
def Mr(p:Nat->Nat)(n u):xh (fun i=>[p i]) n [u]=fun i=>[fg p n u i]:=by funext i;unfold xh fg;split<;>rfl
def ahk(P)(cp)(s)(u):fW (iN P cp) (cL (BQ s) [u]) (iN (P.nM cp.length u) (cp++[s])):=by have:=fW.pool (gs:=fun i=>[P.p i]) (hs:=cp.map BQ) (hc:=BQ s) (l:=[u]);rw[bh,Mr]at this;unfold iN;rw[dx];exact this
def ahj(P)(cp):gv (iN P cp):=pq (AT AL cp)
def ajb(s:St):∀x∈s.cells,FM x:=w_ Y
def cf.nM{m id}{ops}{J}{h}{K}(P)(cp)(s)(b p)(ii:b≠p) (hd:cf prog m id ops J h fun F' I=>I[b]?=some (.fix 301 s.cells)/\I[p]?=some (.asn (iN P cp))/\∀u,K (F'.map (kA b u)) ((I.set b .dead).set p (.asn (iN (P.nM cp.length u) (cp++[s]))))):cf prog m id ops J h K:=by refine cf.fold (hd.mono fun F' I⟨E,F,h3⟩=>⟨b,p,_,_,iN P cp,fun u=>iN (P.nM cp.length u) (cp++[s]),fun _=>I.set b .dead,E,ajb s,fun u=>?_,fun u=>ahk P cp s u,fun u=>ahj _ _,fun u=>mO.of (ao.1 E).1,h3⟩)<;>simp_all
def auc{p}{tm}{n}(h:∀e∈tm,e.2.1<n)(f)(u ck):lx (mE (fun i=>SV.ra (p i) 0) tm) f (.ra u 0) ck=mE (fun i=>SV.ra (fg p n u i) 0) (gb tm f n ck):=by
 have e:mE (fun i=>SV.ra (p i) 0) tm=mE (fun i=>SV.ra (fg p n u i) 0) tm:=by unfold mE;refine k8 fun x hx=>?_;have:=h x hx;show(x.1,SV.ra (p x.2.1) 0,x.2.2)=(x.1,SV.ra (if x.2.1=n then u else p x.2.1) 0,x.2.2);rw[ay (Nat.ne_of_lt this)]
 rw[e,<-O5];unfold fg;rw[au rfl]
def amr(c)(P)(slot time lost)(rl)(nq ns)(pk)(ac)(lg)(tm:List (Int×Nat×Nat))(ck)(tb)(NR)(cp)(f:Fl)(st) (H:tb.k5 f.st=(st,true))(tg:tb.sts.length<=1000)(h0:0<=st.id)(E:st.id<16)(w0:1<=st.w)(w1:st.w<=16)(hN:NR+1<=100000)(rE:∀e∈tm,e.2.1<cp.length):al prog 486 [.ptr 7 0,.agg f.cells] (MH c P slot time lost rl nq ns pk ac lg tm ck++[.asn (cM P.t tb),.asn (fI P.d NR),.asn (iN P cp)]) (fun s I=>∃u,s=.tup []/\I=MH c (P.nM cp.length u) slot time lost rl nq ns pk ac lg (gb tm f.id cp.length ck) (pe tm f.id ck)++[.asn (cM P.t tb),.asn (fI P.d (NR+1)),.asn (iN (P.nM cp.length u) (cp++[st]))]):=by
 refine al.ar aj func486 Y rfl ?_;conv=>whnf
 refine cf.nM P cp st 14 11 dC (cf.fQ mixed aj ?_);conv=>whnf
 refine aL.cA (p:=9) (abi _ _ _ G) rfl (B ?_);refine⟨by(simp only[H];rfl),B ?_⟩;refine fun u=>?_;conv=>whnf
 refine cf.fQ mixed aj ?_;conv=>whnf
 refine cc.pool aj AL (p:=11) (i:=cp.length) (x:=st) rfl sM (by simp[Pl.nM,fg]) (B ?_);refine cc.pool aj AL (p:=11) (i:=cp.length) (x:=st) rfl sM (by simp[Pl.nM,fg]) (B ?_);refine aL.cA (p:=10) (amq _ _ G _ _ G G G G) rfl ?_;conv=>whnf
 refine⟨by kernel_rfl,?_⟩;conv=>whnf
 refine cf.fQ mixed aj ?_;conv=>whnf
 refine⟨by kernel_rfl,?_⟩;conv=>whnf
 (refine a6.of DZ _ _ Y ⟨u,rfl,rfl⟩ ?_;(conv=>whnf);(repeat(first|exact trivial|rfl|(refine⟨rfl,?_⟩;(conv=>whnf))|(refine⟨by first|exact auc rE _ _ _|exact qw _ _ _ _,?_⟩;(conv=>whnf)))))
open Go.Sort Go.Shelf
def api{α:Type}[Inhabited α]{l}{d':Array α}(h:PermIn 0 l.toArray.size l.toArray d'):d'.toList.Perm l:=by
 have⟨E,_,F⟩:=h;have e1:d'.extract 0 l.toArray.size=d':=by rw[<-E];simp
 grind
def ats(l)(hl:l.length<=1000000):al prog 185 [.sl 0] [.row 3 1 (l.map ic)] fun s I=>∃l',List.Perm l' l/\s=.tup []/\I=[.row 3 1 (l'.map ic)]:=by
 refine al.ts func185 Y rfl fun w X g vs O D=>?_;have cY:g.length=1:=O.len;obtain⟨e,rfl⟩:∃e,g=[e]:=by match g,cY with|[e],_=>simp_all
 obtain⟨rN,hv⟩:=D;have rN:vs.length=1:=rN.symm;obtain⟨v,rfl⟩:∃v,vs=[v]:=by match vs,rN with|[v],_=>simp_all
 have m2:=hv 0 _ v rfl rfl;have M:=O.ok 0 _ _ rfl rfl;have qk:af w (Ex X [e]) [e] (.tup []) (.tuple #[]):=.tup rfl sM;cases e<;>simp only[aB]at M;case rownil=>
  have o6:l=[]:=by simpa using M
  subst o6;cases m2 with|dE _=>exact(AnyG.slices_Sort_int_none sortI none 0 w).mono fun e w'⟨E,F⟩=>by subst F;exact⟨_,E,_,_,_,⟨[],.refl _,rfl,rfl⟩,qk,O,Step.refl _ _ _⟩|sl h=>simp at h|c9 h=>simp at h
 case row u z n cap=>
  obtain⟨rfl,hn,xK,mX,cw,⟨fr,U,dp,MY⟩,dY,rD⟩:=M;rw[bh]at hn;subst hn;cases m2 with
  |dE h=>simp at h
  |c9 h=>simp at h
  |sl h=>
   simp at h;obtain⟨rfl,rfl,rfl,rfl⟩:=h;have iR:Holds (Value.int .i64) w u 0 l.toArray:=fun j hj=>by
    have p9:j<l.length:=by simpa using hj
    obtain⟨_,hc⟩:=rD j (ic (l[j])) (by simp_all);obtain⟨x,hx,D,_⟩:=hc 0 _ rfl;cases D;have ai:j<cw.size:=G;refine⟨?_,?_⟩;unfold World.cell?;grind;unfold World.frozen?;grind
   have o:=AnyG.slices_Sort_int sortI u 0 cap l w iR (iF.1 U).1 G;exact o.mono fun e w'⟨E,m,os,F⟩=>by
    subst F;have hp:(l.mergeSort fun x y=>decide (x<=y)).Perm l:=List.mergeSort_perm _ _;obtain⟨k1,k2⟩:=aaJ (Value.int .i64) O (aS:=(l.mergeSort fun x y=>decide (x<=y)).map ic) (l.mergeSort fun x y=>decide (x<=y)).toArray (by simp_all) (by simp_all)
     (fun e H=>by obtain⟨x,_,rfl⟩:=ew.1 H;rfl)
     (fun i e H j s hs=>by
      rw[bz]at H
      obtain⟨x,hx,rfl⟩:=BC.1 H
      match j,hs with
      |0,hs=>
       obtain rfl:SV.int .i64 x=s:=mJ hs
       have Q:=(ao.1 hx).1
       have ex:(l.mergeSort fun x y=>decide (x<=y)).toArray[i*1+0]! =x:=by
        rw[show i*1+0=i by omega,getElem!_pos _ i (by simpa using Q)]
        simpa using(ao.1 hx).2
       rw[ex]
       exact⟨by simpa using Q,fun _ _=>.int,rfl⟩
      |j+1,hs=>exact absurd (show([]:List SV)[j]?=some s from hs) sM) m os
    exact⟨_,E,_,_,_,⟨_,hp,rfl,rfl⟩,.tup rfl sM,k1,k2⟩
def rn(c:Cd):List Value:=[.int .i64 c.id,.int .i64 c.seq]
def OY(x y):ltOf (fun x y:Cd=>Go.Lib.compareInt x.id y.id) x y=decide (x.id<y.id):=by unfold ltOf Go.Lib.compareInt;grind
def atO:SWO (ltOf fun x y:Cd=>Go.Lib.compareInt x.id y.id)where
 irrefl x:=by rw[OY];simp
 trans x y z E F:=by rw[OY]at*;simp at*;omega
 ntrans x y z E F:=by rw[OY]at*;simp at*;omega
def agW(x y:Cd)(W):Calls prog 255 #[.agg #[.int .i64 x.id,.int .i64 x.seq],.agg #[.int .i64 y.id,.int .i64 y.seq]] W fun e w'=>e=.returned (.int .i64 (Go.Lib.compareInt x.id y.id))/\∃q os',w'=grow (W.drewN q) os':=by have MR:=fun W'=>AnyG.cmp_Compare_int cmpI x.id y.id W';change∀W',Calls prog 256 _ _ _ at MR;generalize Go.Lib.compareInt x.id y.id=r at MR⊢;go_enter func255,ntmps255;go_wp2_with (go_at_call 256;refine(MR _).mono ?_;rintro e w' ⟨rfl,rfl⟩);go_ret;exact⟨rfl,0,_,by rw[alloc_eq_grow,alloc_eq_grow,grow_grow];rfl⟩
def ai7(d)(i)(Q:i<d.size):(flatK rn 2 d)[i*2+0]! =.int .i64 (d[i]!).id/\(flatK rn 2 d)[i*2+1]! =.int .i64 (d[i]!).seq:=by constructor;rw[get_flatK rn 2 d (i*2+0) G,show(i*2+0)/2=i by omega,show(i*2+0)% 2=0 by omega];rfl;rw[get_flatK rn 2 d (i*2+1) G,show(i*2+1)/2=i by omega,show(i*2+1)% 2=1 by omega];rfl
def atr(l)(hl:l.length<=1000000):al prog 254 [.sl 0,.fn 255 []] [.row 274 2 (l.map Cd.cells)] fun s I=>∃l',List.Perm l' l/\s=.tup []/\I=[.row 274 2 (l'.map Cd.cells)]:=by
 refine al.ts func254 Y rfl fun w X g vs O D=>?_;have cY:g.length=1:=O.len;obtain⟨e,rfl⟩:∃e,g=[e]:=by match g,cY with|[e],_=>simp_all
 obtain⟨rN,hv⟩:=D;have rN:vs.length=2:=rN.symm;obtain⟨v,ag,rfl⟩:∃v ag,vs=[v,ag]:=by match vs,rN with|[v,ag],_=>simp_all
 have m2:=hv 0 _ v rfl rfl;have lv:=hv 1 _ ag rfl rfl;obtain rfl:ag=.func (.func 255) #[] #[]:=by cases lv<;>grind
 have M:=O.ok 0 _ _ rfl rfl;have qk:af w (Ex X [e]) [e] (.tup []) (.tuple #[]):=.tup rfl sM;cases e<;>simp only[aB]at M;case rownil=>
  have o6:l=[]:=by simpa using M
  subst o6;cases m2 with|dE _=>exact(AnyF.slices_SortFunc_none sortK none 0 _ w).mono fun e w'⟨E,F⟩=>by subst F;exact⟨_,E,_,_,_,⟨[],.refl _,rfl,rfl⟩,qk,O,Step.refl _ _ _⟩|sl h=>simp at h|c9 h=>simp at h
 case row u z n cap=>
  obtain⟨rfl,hn,xK,mX,cw,⟨fr,U,dp,MY⟩,dY,rD⟩:=M;rw[bh]at hn;subst hn;cases m2 with
  |dE h=>simp at h
  |c9 h=>simp at h
  |sl h=>
   simp at h;obtain⟨rfl,rfl,rfl,rfl⟩:=h;have iR:HoldsK rn 2 w u 0 l.toArray:=fun j hj=>by
    have p9:j<l.length*2:=by simpa using hj
    have Q:j/2<l.length:=G;have⟨_,hc⟩:=rD (j/2) (l[j/2]).cells (by simp_all);have ai:j<cw.size:=G;have h2:l.toArray[j/2]! =l[j/2]:=by rw[getElem!_pos _ _ (by simpa using Q)];simp
    refine⟨?_,?_⟩;have hx:∃x,cw[j]?=some x/\x=(flatK rn 2 l.toArray)[j]!:=by rw[get_flatK rn 2 l.toArray j (by simpa using p9),h2];by_cases F:j % 2=0;have⟨x,hx,D,_⟩:=hc 0 _ rfl;cases D;exact⟨_,by rw[show j=j/2*2+0 by omega];exact hx,by rw[F];rfl⟩;have⟨x,hx,D,_⟩:=hc 1 _ rfl;cases D;exact⟨_,by rw[show j=j/2*2+1 by omega];exact hx,by rw[show j % 2=1 by omega];rfl⟩
    obtain⟨x,hx,rfl⟩:=hx;unfold World.cell?;grind;unfold World.frozen?;grind
   have iO:=Go.Proofs.enters_of func255 (by kernel_rfl) rfl;have o:=AnyQ.slices_SortFunc sortK 2 isAgg274 sizeOf274 rn (fun _=>rfl) (fun x v hv=>by simp[rn]at hv;rcases hv with rfl|rfl<;>rfl) (fun x y=>Go.Lib.compareInt x.id y.id) atO 255 #[] u 0 cap l.toArray w iO
    (fun _ _ _ _ x y=>agW x y _) iR (iF.1 U).1 sO
   have HY:l.toArray.size=l.length:=FC;rw[HY]at o;exact o.mono fun e w'⟨E,d',m,os,hp,_,F⟩=>by
    subst F;have xN:=api (by omega);have Hl:d'.size=l.length:=by have:=xN.length_eq;simpa using this
    obtain⟨k1,k2⟩:=aaJ id O (aS:=d'.toList.map Cd.cells) (flatK rn 2 d') (by rw[size_flatK,Hl];omega) (by grind)
     (fun e H=>by obtain⟨x,_,rfl⟩:=ew.1 H;rfl)
     (fun i e H j s hs=>by
      rw[bz]at H
      obtain⟨x,hx,rfl⟩:=BC.1 H
      have Q:i<d'.size:=by have:=(ao.1 hx).1;simpa using this
      have ex:d'[i]! =x:=by
       rw[getElem!_pos _ i Q]
       have:=(ao.1 hx).2
       simpa using this
      obtain⟨f1,f2⟩:=ai7 d' i Q
      rw[ex]at f1 f2
      rw[size_flatK]
      match j,hs with
      |0,hs=>
       simp[Cd.cells]at hs;subst hs
       exact⟨G,by rw[f1];exact fun _ _=>.int,by rw[f1];rfl⟩
      |1,hs=>
       simp[Cd.cells]at hs;subst hs
       exact⟨G,by rw[f2];exact fun _ _=>.int,by rw[f2];rfl⟩
      |j+2,hs=>simp[Cd.cells]at hs) m os
    exact⟨_,E,_,_,_,⟨_,xN,rfl,rfl⟩,.tup rfl sM,k1,k2⟩
def ar5(P)(sa)(ss:List b7)(i)(w)(E:i<sa.length)(F:i<ss.length)(M:small (Z ss i).base)(hn:small (Z sa i).next)(w0:0<=w)(w1:w<=64):al prog 257 [.ra (P.s i) 0,.int .i64 w] [.asn (fL P sa),.asn (aI (fun i=>[P.e i]) (ss.map HS))] (fun s I=>s=.int .i64 (w-bI (Z ss i).base (Z sa i).next)/\I=[.asn (fL P sa),.asn (aI (fun i=>[P.e i]) (ss.map HS))]):=by
 refine al.ar aj func257 Y rfl ?_;have hd:0<=bI (Z ss i).base (Z sa i).next/\bI (Z ss i).base (Z sa i).next<100000:=by have h3:=M.1;have h4:=M.2;have h5:=hn.1;have h6:=hn.2;unfold bI;split<;>omega
 have hw:IntKind.i64.wrap (w-bI (Z ss i).base (Z sa i).next)=w-bI (Z ss i).base (Z sa i).next:=a_ _ G G
 refine B ?_;refine cc.eX (p:=0) rfl E (B ?_);refine aL.cA (p:=1) (Lu _ _ _ G) rfl (B ?_);refine cc.eX (p:=0) rfl E (B ?_);refine(uo _ _ G G).cA (B ?_);(rw[hw]);exact Kl
def still(tries:Int)(p:Se):Bool:=decide (p.tries<tries)
def et(tries:Int)(l:List Se):List Cd:=(l.filter (still tries)).map Gs
def tN(t:Tb)(qs:List Qu)(i:Nat)(d:Cd):Prop:=d.seq= -1/\∃e∈t.fls,e.1=true/\e.2.st=(i:Int)/\∃q∈(Z qs e.2.id.toNat).pk,d.id=q.id
def aeW{tries}{l:List Se}{j}(h:j<l.length)(hp:(Z l j).tries<tries):(et tries (l.take j)).map Cd.cells++[[SV.int .i64 (Z l j).id,SV.int .i64 (Z l j).seq]]=(et tries (l.take (j+1))).map Cd.cells:=by unfold et;rw[CE (p:=still tries) (b8 h) (by simpa[still]using hp)];simp[Gs,Cd.cells]
def aeV{tries}{l:List Se}{j}(h:j<l.length)(hp:¬(Z l j).tries<tries):(et tries (l.take j)).map Cd.cells=(et tries (l.take (j+1))).map Cd.cells:=by unfold et;rw[CD (p:=still tries) (b8 h) (by simpa[still]using hp)]
def K9(tries)(l:List Se)(j):(et tries (l.take j)).length<=l.length:=by unfold et;grind
def db(t:Tb):List Fl:=(t.fls.filter (·.1)).map (·.2)
def GU(t):(t.fls.filter (·.1)).map js=(db t).map Fl.cells:=by unfold db;rw[pJ];rfl
def La{t}{j}(h:j<(db t).length):((t.fls.filter (·.1)).map js)[j]?=some (Z (db t) j).cells:=by rw[GU,bz,b8 h];rfl
def Lb{t}{f}(h:f∈db t):(true,f)∈t.fls:=by unfold db at h;simp_all
def ng(l:List Pk):List Cd:=l.map fun p=>⟨p.id,-1⟩
def aq2{l:List Pk}{k}(h:k<l.length)(aZ):(aZ++ng (l.take k)).map Cd.cells++[[SV.int .i64 (Z l k).id,SV.int .i64 (-1)]]=(aZ++ng (l.take (k+1))).map Cd.cells:=by unfold ng;rw[tW (b8 h)];simp[Cd.cells]
def PY{l:List Pk}{i}(h:i<l.length):(l.map Pk.cells)[i]?=some (Z l i).cells:=by rw[bz,b8 h];rfl
def aq1{t}{qs}{i:Nat}{f}(hf:(true,f)∈t.fls)(hs:f.st=(i:Int)):∀d∈ng (Z qs f.id.toNat).pk,tN t qs i d:=fun d hd=>by obtain⟨p,hp,rfl⟩:=ew.1 hd;exact⟨rfl,_,hf,rfl,hs,p,hp,rfl⟩
def Ye(ab iK){R}(h0:0<=R):List.map Cd.cells ab++List.drop (0+((0:Nat):Int).toNat) (List.take (0+((0:Nat):Int).toNat+((if R<((List.map Cd.cells iK).length:Int)then R else((List.map Cd.cells iK).length:Int))-((0:Nat):Int)).toNat) (List.map Cd.cells iK))=List.map Cd.cells (ab++iK.take (min R.toNat iK.length)):=by rw[dx,wa];grind
def ani{L}{aQ}(h:L=List.map Cd.cells aQ):((if(32:Int)<(L.length:Int)then 32 else(L.length:Int))-((0:Nat):Int)).toNat=min aQ.length 32:=by grind
abbrev sE(c:bT)(P:Pl)(slot time lost:Int)(rl:List Rl)(nq ns:Nat)(pk:List Pk)(ac:List Int)(lg:List bG)(tm:List (Int×Nat×Nat))(ck:Nat)(t:Tb)(qs:List Qu)(sa:List fa)(ss:List b7):Hp:=
 MH c P slot time lost rl nq ns pk ac lg tm ck++[.asn (cM P.t t),.asn (aI (fun i=>[P.q i]) (qs.map HQ)),.asn (fL P sa),.asn (aI (fun i=>[P.e i]) (ss.map HS))]
def am0(c)(P)(slot time lost)(rl)(nq ns)(pk)(ac)(lg)(tm:List (Int×Nat×Nat))(ck)(t)(qs)(sa)(ss)(i) (E:i<ns)(F:i<sa.length)(h3:i<ss.length)(aw:hY (Z ss i))(hn:small (Z sa i).next)(w1:c.bn<=64)(fd:0<=c.bn-bI (Z ss i).base (Z sa i).next)(Ad:0<=c.bn) (jQ:t.fls.length<=32)(g8:∀f,(true,f)∈t.fls->∃k:Nat,f.id=(k:Int)/\k<nq/\k<qs.length/\(Z qs k).pk.length<=900):al prog 188 [.ptr 0 0,.int .i64 (i:Int)] (sE c P slot time lost rl nq ns pk ac lg tm ck t qs sa ss) (fun s I=>∃aZ,(∀d∈aZ,tN t qs i d)/\(aZ.length:Int)<=c.bn-bI (Z ss i).base (Z sa i).next/\s=.ss 13 0 (min (et c.tries (Z ss i).pend++aZ).length 32)/\I=sE c P slot time lost rl nq ns pk ac lg tm ck t qs sa ss++[.row 274 2 ((et c.tries (Z ss i).pend++aZ).map Cd.cells)]):=by
 refine al.ar aj func188 Y rfl ?_;have gJ:=kx P.s ns;have u4:=kx P.q nq;have mZ:=aw.len;have VV:small (Z ss i).base:=aw.base;have d6:(db t).length<=32:=by unfold db;rw[bh];exact dF (wg _ _) jQ
 have dl:((t.fls.filter (·.1)).map js).length=(db t).length:=by rw[GU,bh]
 refine B ?_;refine⟨_,mr E,B ?_⟩;refine cc.eX (p:=11) rfl F (B ?_);refine aL.call (p:=12) (PW _ _ _ G aM) rfl (B ?_);refine b6.cq aj 105 (fun j:{j:Nat//j<=(Z ss i).pend.length}=>[(0,.ptr 0 0),(1,.int .i64 (i:Int)),(5,.ra (P.s i) 0),(6,.sl 13),(25,.rs 3 ((Z ss i).pend.map Se.cells)),(26,.int .i64 (((Z ss i).pend.map Se.cells).length:Int)),(27,.int .i64 (j.1:Int))]) (fun j=>sE c P slot time lost rl nq ns pk ac lg tm ck t qs sa ss++[.row 274 2 ((et c.tries ((Z ss i).pend.take j.1)).map Cd.cells)]) (fun j=>(Z ss i).pend.length-j.1) ⟨0,cx _⟩ (.of (lS [1,2,3,4,5,6,7,8,9,10,11,12,13,0]) Y wt) ?_
 ·intro j;have hy:=K9 c.tries (Z ss i).pend j.1;by_cases ai:j.1<(Z ss i).pend.length;refine B ?_;refine⟨(Z (Z ss i).pend j.1).cells,Jz ai,B ?_⟩;refine dT (fun _=>B ?_) fun _=>B ?_;refine⟨⟨j.1+1,G⟩,by show(Z ss i).pend.length-(j.1+1)<(Z ss i).pend.length-j.1;omega,.of (lS [1,2,3,4,5,6,7,8,9,10,11,12,13,17]) Y (B ?_)⟩;refine⟨by exact(a_ _ G G).trans sM,B ?_⟩;exact⟨by exact aeW ai ‹_›,wt⟩;refine⟨⟨j.1+1,G⟩,by show(Z ss i).pend.length-(j.1+1)<(Z ss i).pend.length-j.1;omega,.of (lS [1,2,3,4,5,6,7,8,9,10,11,12,13,14]) Y (B ?_)⟩;refine⟨by exact(a_ _ G G).trans sM,B ?_⟩;exact⟨by exact aeV ai ‹_›,wt⟩
  ·refine B ?_;refine .same (B ?_);refine aL.call (p:=9) (Me _ _ G) rfl (B ?_);refine b6.cq aj 105 (fun x:{x:Nat×List Cd//x.1<=(db t).length/\(∀d∈x.2,tN t qs i d)/\x.2.length<=900*x.1}=>[(0,.ptr 0 0),(1,.int .i64 (i:Int)),(5,.ra (P.s i) 0),(6,.sl 13),(9,.sl 14),(52,.rs 7 ((t.fls.filter (·.1)).map js)),(53,.int .i64 (((t.fls.filter (·.1)).map js).length:Int)),(54,.int .i64 (x.1.1:Int))]) (fun x=>sE c P slot time lost rl nq ns pk ac lg tm ck t qs sa ss++[.row 274 2 ((et c.tries (Z ss i).pend).map Cd.cells),.row 274 2 (x.1.2.map Cd.cells)]) (fun x=>(db t).length-x.1.1) ⟨(0,[]),cx _,fun d hd=>by simp at hd,cx _⟩ (.of (lS [1,2,3,4,5,6,7,8,9,10,11,12,13,14,0]) Y ?_) ?_;refine B ?_;exact⟨by(rw[j9 (show(Z ss i).pend.length<=j.1 by omega)]),wt⟩
   ·intro x;have⟨⟨j2,aZ⟩,d7,ix,N9⟩:=x;have d7:=d7;have N9:aZ.length<=900*j2:=N9;have hBx:aZ.length<=1000000:=G;have hBl:(aZ.map Cd.cells).length=aZ.length:=bh _;by_cases kn:j2<(db t).length;rotate_left;skip;rotate_left;have⟨k,bi,aU,dc,kR⟩:=g8 _ (Lb (bN (b8 kn)));have kS:(Z (db t) j2).id.toNat=k:=by rw[bi];rfl
    refine B ?_;refine gX (by simp[*]) (B ?_);refine⟨by simp[*],B ?_⟩;refine⟨(Z (db t) j2).cells,La kn,B ?_⟩;refine dT (fun _=>B ?_) fun _=>B ?_;refine⟨⟨(j2+1,aZ),by show j2+1<=_;omega,ix,by show aZ.length<=900*(j2+1);omega⟩,by show(db t).length-(j2+1)<(db t).length-j2;omega,.of OV Y (B ?_)⟩;exact⟨by(show IntKind.i64.wrap ((j2:Int)+1)=((j2+1:Nat):Int);exact(a_ _ G G).trans sM),wt⟩;refine⟨_,by rw[kS];exact mr aU,B ?_⟩;refine aL.cA (p:=10) (ao6 _ _ _ G G) rfl (B ?_);refine b6.cq aj 105 (fun n3:{n3:Nat//n3<=(Z qs k).pk.length}=>[(0,.ptr 0 0),(1,.int .i64 (i:Int)),(5,.ra (P.s i) 0),(6,.sl 13),(9,.sl 14),(52,.rs 7 ((t.fls.filter (·.1)).map js)),(53,.int .i64 (((t.fls.filter (·.1)).map js).length:Int)),(54,.int .i64 (j2:Int)),(70,.rs 5 ((Z qs k).pk.map Pk.cells)),(71,.int .i64 (((Z qs k).pk.map Pk.cells).length:Int)),(72,.int .i64 (n3.1:Int))]) (fun n3=>sE c P slot time lost rl nq ns pk ac lg tm ck t qs sa ss++[.row 274 2 ((et c.tries (Z ss i).pend).map Cd.cells),.row 274 2 ((aZ++ng ((Z qs k).pk.take n3.1)).map Cd.cells)]) (fun n3=>(Z qs k).pk.length-n3.1) ⟨0,cx _⟩ (.of OV Y ?_) ?_;refine B ?_;exact⟨by(show List.map Cd.cells aZ=List.map Cd.cells (aZ++ng (List.take 0 (Z qs k).pk));simp[ng]),wt⟩;skip;intro n3;have WC:=n3.2;have hqc:(ng ((Z qs k).pk.take n3.1)).length=n3.1:=by unfold ng;rw[bh,wb];omega
    have aww:((Z qs k).pk.map Pk.cells).length=(Z qs k).pk.length:=bh _;by_cases uW:n3.1<(Z qs k).pk.length;refine B ?_;refine⟨(Z (Z qs k).pk n3.1).cells,PY uW,B ?_⟩;refine⟨⟨n3.1+1,G⟩,by show(Z qs k).pk.length-(n3.1+1)<(Z qs k).pk.length-n3.1;omega,.of (lS [1,2,3,4,5,6,7,8,9,10,11,12,13,14,18]) Y (B ?_)⟩;refine⟨by exact(a_ _ G G).trans sM,B ?_⟩;exact⟨by exact aq2 uW aZ,wt⟩;refine B ?_;refine .same (B ?_);refine⟨⟨(j2+1,aZ++ng (Z qs k).pk),by show j2+1<=_;omega,fun d hd=>(eJ.1 hd).elim (ix d) (fun h=>aq1 (Lb (bN (b8 kn))) (dk.1 ‹_›) d (by rw[kS];exact h)),by show(aZ++ng _).length<=900*(j2+1);unfold ng;simp;omega⟩,by show(db t).length-(j2+1)<(db t).length-j2;omega,.of OV Y (B ?_)⟩;refine⟨by exact(a_ _ G G).trans sM,B ?_⟩;exact⟨by(show List.map Cd.cells (aZ++ng (List.take n3.1 (Z qs k).pk))=List.map Cd.cells (aZ++ng (Z qs k).pk);rw[j9 (show(Z qs k).pk.length<=n3.1 by omega)]),wt⟩;·refine B ?_;refine dV (by simp[*]) (B ?_);refine .same (B ?_);refine(atr _ G).call [14] Y trivial Y1 ?_;rintro _ _ ⟨t6,CL,rfl,rfl⟩;refine B ?_;refine(ar5 _ _ _ _ _ G G G G G G).call [11,12] Y Y2 Y2 (rj (B ?_));refine dt sO ?_;refine B ?_;refine dt (by(have hz:_=aZ.length:=List.Perm.length_eq ‹List.Perm _ _›;have dz:=K9 c.tries (Z ss i).pend (Z ss i).pend.length;rw[yQ]at dz;simp only[jr,bs,bh,Fu,wb];split<;>omega)) (B ?_);refine dt sO (B ?_);(refine a6.of (lS [1,2,3,4,5,6,7,8,9,10,11,12,13,16]) _ _ Y ⟨t6.take (min (c.bn-bI (Z ss i).base (Z sa i).next).toNat t6.length),fun d hd=>ix d ((List.Perm.mem_iff ‹List.Perm _ _›).1 (Sm hd)),by rw[wb];omega,rfl,rfl⟩ ?_;(conv=>whnf);(repeat(first|exact trivial|rfl|(refine⟨rfl,?_⟩;(conv=>whnf))|(refine⟨ani (Ye _ _ fd),?_⟩;(conv=>whnf))|(refine⟨Ye _ _ fd,?_⟩;(conv=>whnf)))))
def XY{l:List Int}{k}{i:Int}(h0:0<=i)(E:i<l.length):(l.map fun z=>[SV.int k z])[i.toNat]?=some [SV.int k (l.getD i.toNat 0)]:=by simp_all
def J0:List Int:=[1,2,1,3,4,16,7,1,5]
def E9(ls:List Int)(ah:Int):Int:=J0.getD (cr ls ah 9).toNat 0
def auF(ls)(ah):1<=E9 ls ah/\E9 ls ah<=16:=by have E:=eH ls ah 9 G;have key:∀j:Nat,j<9->1<=J0.getD j 0/\J0.getD j 0<=16:=dC;exact key _ G
def abP(ls)(ah)(h0:0<=ah)(E:ah<9223372036854775800):eL prog 41 [.ptr 0 0] [eP ls ah] fun s I=>s=.int .i64 (E9 ls ah)/\I=[eP ls (ah+1)]:=by refine .ar aj func41 Y rfl trivial ?_;have n0:=eR ls ah 9;have n1:=eH ls ah 9 G;refine B ?_;refine(e6 _ _ _ G G G).call [0] dC Y1 Y1 (rj (B ?_));refine⟨_,XY (l:=J0) n0 n1,?_⟩;exact adh
def as6(a:Int):a.fdiv (2 ^min (Int.toNat 32) IntKind.u64.bits)=a/4294967296:=by show a.fdiv 4294967296=a/4294967296;grind
def Lc(a:Nat)(ha:a<18446744073709551616):IntKind.u64.wrap ((BitVec.ofInt IntKind.u64.bits (a:Int)&&&BitVec.ofInt IntKind.u64.bits 4294967295).toNat:Int)=((a % 4294967296:Nat):Int):=
 Mul64.maskN a ha
def anP(x y:Nat)(hx:x<18446744073709551616)(hy:y<18446744073709551616):aY prog 228 [.int .u64 (x:Int),.int .u64 (y:Int)] (· =.tup [.int .u64 ((x*y/18446744073709551616:Nat):Int),.int .u64 ((x*y % 18446744073709551616:Nat):Int)]):=by
 refine .ar aj func228 Y rfl trivial (B ?_);repeat(refine⟨dC,?_⟩;conv=>whnf)
 have⟨afG,TO,agd,l3⟩:=Lib.mul64_hi x y hx hy;have afE:=Lib.half_mul_le (a:=x/4294967296) (b:=y/4294967296) G G;have ba':x/4294967296*(y/4294967296)<18446744073709551616:=by omega
 have bb':x/4294967296*(y % 4294967296)<18446744073709551616:=by omega
 have bc':x % 4294967296*(y/4294967296)<18446744073709551616:=by omega
 have bh1:x/4294967296*(y/4294967296)+(x/4294967296*(y % 4294967296)+x % 4294967296*(y % 4294967296)/4294967296)/4294967296<18446744073709551616:=by omega
 have afO:x/4294967296*(y/4294967296)+(x/4294967296*(y % 4294967296)+x % 4294967296*(y % 4294967296)/4294967296)/4294967296+((x/4294967296*(y % 4294967296)+x % 4294967296*(y % 4294967296)/4294967296)% 4294967296+x % 4294967296*(y/4294967296))/4294967296<18446744073709551616:=by rw[l3];omega
 simp only[Lc x hx,Lc y hy,as6,Mul64.divN,Mul64.mulN,Mul64.addN,Mul64.wrapN _ afG,Mul64.wrapN _ bb',Mul64.wrapN _ TO,Lc _ TO,Mul64.wrapN _ bc',Mul64.wrapN _ agd,Mul64.wrapN _ ba',Mul64.wrapN _ bh1,Mul64.wrapN _ afO,Mul64.wrapM (x*y)];rw[l3]
def anQ(x y)(x0:0<=x)(x1:x<18446744073709551616)(y0:0<=y)(y1:y<18446744073709551616):aY prog 228 [.int .u64 x,.int .u64 y] (· =.tup [.int .u64 (x*y/18446744073709551616),.int .u64 (x*y % 18446744073709551616)]):=by obtain⟨a,rfl⟩:=oD x0;obtain⟨b,rfl⟩:=oD y0;have:=anP a b G G;simp_all
def auI(x y)(x0:0<=x)(x1:x<18446744073709551616)(y0:0<=y)(y1:y<18446744073709551616):aY prog 163 [.int .u64 x,.int .u64 y] (· =.agg [.int .u64 (x*y/18446744073709551616),.int .u64 (x*y % 18446744073709551616)]):=by refine .ar aj func163 Y rfl trivial (B ?_);refine(anQ x y x0 x1 y0 y1).call (ri ?_);conv=>whnf
def ah2(h l d)(hh:h=0)(l0:0<=l)(l1:l<18446744073709551616)(zz:0<d):aY prog 227 [.int .u64 h,.int .u64 l,.int .u64 d] (· =.tup [.int .u64 (l/d),.int .u64 (l % d)]):=by refine .ar aj func227 Y rfl trivial (B ?_);have q1:=Sr d l0;have q0:=Sq l0 (Int.le_of_lt zz);rw[Int.tdiv_eq_ediv_of_nonneg l0,uk l0,Ss,Int.emod_eq_of_lt G G]
def auA(h l d)(hh:h=0)(l0:0<=l)(l1:l<18446744073709551616)(zz:0<d):aY prog 162 [.agg [.int .u64 h,.int .u64 l],.int .u64 d] (· =.tup [.int .u64 (l/d),.int .u64 (l % d),.int .i64 0]):=by subst hh;refine .ar aj func162 Y rfl trivial (B ?_);refine(ah2 _ _ _ rfl l0 l1 zz).call (ri ?_);exact B rfl
def QF(a)(a0:0<=a)(a1:a<9223372036854775808):aY prog 161 [.int .i64 a] (· =.int .u64 a):=by refine .ar aj func161 Y rfl trivial (B ?_);rw[Ss,Int.emod_eq_of_lt G G]
def afz(x d)(neg):aY prog 164 [.int .u64 x,.int .u64 d,.int .i64 1,.bool neg] (· =.bool (!neg)):=by refine .ar aj func164 Y rfl trivial (B ?_);rfl
def aa5(n)(h0:0<=n)(E:n<9223372036854775808):aY prog 165 [.int .u64 n,.bool false] (· =.tup [.int .i64 n,.int .i64 0]):=by refine .ar aj func165 Y rfl trivial (B ?_);rw[a_ _ G G]
def anu(b k)(fb:0<=b)(b1:b<=262144)(ma:1<=k)(k1:k<=10000000):aY prog 101 [.int .i64 8000,.int .i64 b,.int .i64 k,.int .i64 1] (· =.tup [.int .i64 (8000*b/k+if 0<8000*b % k then 1 else 0),.int .i64 0]):=by refine .ar aj func101 Y rfl trivial (B ?_);have rY:=Sr k (show 0<=8000*b by omega);have m1:=Sq (show 0<=8000*b by omega) (show 0<=k by omega);refine(QF _ G G).call (ri (B ?_));refine(QF _ G G).call (ri (B ?_));refine(QF _ G G).call (ri (B ?_));refine(auI _ _ G G G G).call (ri ?_);rw[show 8000*b/18446744073709551616=0 by omega,show 8000*b % 18446744073709551616=8000*b by omega];refine B ?_;refine(auA _ _ _ rfl G G G).call (ri ?_);rw[show decide (b<0)=false by simp;omega,show decide (k<0)=false by simp;omega];refine B ?_;refine dT (fun hh=>B ?_) fun hh=>B ?_;refine(afz _ _ _).call (ri (B ?_));rw[show IntKind.u64.wrap (8000*b/k+1)=8000*b/k+1 by rw[Ss];omega];refine B ?_;refine(aa5 _ G G).call (ri (B ?_));rw[au hh];refine(aa5 _ G G).call (ri (B ?_));rw[ay hh,Int.add_zero]
abbrev A6(k aa:Int):SV:=.agg [.int .i64 k,.int .i64 aa]
def ja(k aa:Int):Bool:=decide (1<=k)&&decide (k<=10000000)&&decide (0<=aa)&&decide (aa<=100000)
def Jw(k aa):ja k aa=true↔(1<=k/\k<=10000000)/\0<=aa/\aa<=100000:=by simp[ja];omega
def wN(k aa):aY prog 29 [A6 k aa] (· =.bool (ja k aa)):=by refine .ar aj func29 Y rfl trivial (B ?_);refine dT (fun _=>B ?_) fun _=>B ?_;refine dT (fun _=>B ?_) fun _=>B ?_;refine dT (fun _=>B ?_) fun _=>B ?_;simp[ja, *];simp[ja, *];simp[ja, *];simp[ja, *]
def agt{x k:Int}(o:0<k):x/k+(if 0<x % k then 1 else 0)=(x+k-1)/k:=by have e:=Int.mul_ediv_add_emod x k;have rY:=Kz x (b:=k) G;have m1:=KA x o;split;symm;rw[show x+k-1=(x % k-1)+k*(x/k+1) by grind,Int.add_mul_ediv_left _ _ G,Int.ediv_eq_zero_of_lt G G];omega;symm;rw[show x+k-1=(k-1)+k*(x/k) by omega,Int.add_mul_ediv_left _ _ G,Int.ediv_eq_zero_of_lt G G];omega
def sk(k aa b:Int):Bool:=ja k aa&&decide (0<=b)&&decide (b<=262144)
def Q0(k aa b):sk k aa b=true↔((1<=k/\k<=10000000)/\0<=aa/\aa<=100000)/\0<=b/\b<=262144:=by simp[sk,Jw];omega
def jC(k aa b:Int):Int:=aa+(8000*b+k-1)/k
def qF(k aa b:Int):Int:=if sk k aa b=true then jC k aa b else 0
def Bf(k aa b:Int):Int:=if sk k aa b=true then 0 else 1
def abA{k aa b}(h:sk k aa b=true):qF k aa b=jC k aa b/\Bf k aa b=0:=by simp[qF,Bf,h]
def aub{k aa b}(h:sk k aa b=false):qF k aa b=0/\Bf k aa b=1:=by simp[qF,Bf,h]
def auf{k aa b}(h:sk k aa b=true):aa<=jC k aa b/\jC k aa b<=2097352000/\0<=(8000*b+k-1)/k/\(8000*b+k-1)/k<=2097152000/\8000*b/k<=2097152000:=by
 have⟨⟨⟨E,F⟩,h3,h4⟩,h5,h6⟩:=(Q0 k aa b).1 h;have a0:0<=(8000*b+k-1)/k:=Sq G G;have a1:(8000*b+k-1)/k<=8000*b:=by have:(8000*b+k-1)/k<8000*b+1:=(Int.ediv_lt_iff_lt_mul G).2 (by have:8000*b*1<=8000*b*k:=Int.mul_le_mul_of_nonneg_left E G;grind);omega
 have a2:8000*b/k<=8000*b:=Sr _ G;unfold jC;omega
def abw(k aa b):aY prog 52 [A6 k aa,.int .i64 b] (· =.tup [.int .i64 (qF k aa b),.int .i64 (Bf k aa b)]):=by
 refine .ar aj func52 Y rfl trivial ?_;by_cases h:sk k aa b=true;have⟨t1,t2⟩:=abA h;have⟨g1,g2,g3,g4,iP⟩:=auf h;have⟨E,F,h3⟩:=(Q0 k aa b).1 h;have hv:=(Jw k aa).2 E;have OZ:=agt (x:=8000*b) (k:=k) G;have e:IntKind.i64.wrap ((8000*b/k+if 0<8000*b % k then 1 else 0)+aa)=jC k aa b:=by rw[OZ,a_ _ G G];unfold jC;omega
 refine B ?_;refine(wN _ _).call (ri (B ?_));refine(anu _ _ G G G G).call (ri (B ?_));exact JS (e.trans t1.symm) t2.symm;have h:sk k aa b=false:=by simpa using h
 have⟨t1,t2⟩:=aub h;have hn:ja k aa=true->0<=b->b<=262144->False:=fun p q r=>by simp[sk,p,q,r]at h
 refine B ?_;refine(wN _ _).call (ri (B ?_));refine⟨fun fZ=>?_,fun fZ=>?_⟩;refine B ?_;exact JS t1.symm t2.symm;simp only[bs,bX,dN,dO,c5,dP,bR,dG,dH,dQ,dk,c6,dR,dL,dS,dh,ne_eq,dZ]at fZ;refine B ?_;refine dT (fun _=>B (JS t1.symm t2.symm)) fun _=>B ?_;refine dT (fun _=>B ?_) fun _=>B ?_;exact JS t1.symm t2.symm;exact(hn aM G G).elim
abbrev kg(l:List (Int×Int))(i:Nat):Int×Int:=l.getD i (0,0)
abbrev Cl(p b t:Int):SV:=.agg [.int .i64 p,.int .i64 b,.int .i64 t]
def jq(p b t:Int):Bool:=decide (1<=p)&&decide (p<=32)&&decide (1<=b)&&decide (b<=262144)&&decide (1<=t)&&decide (t<=1048576)
def Ug(p b t):jq p b t=true↔(1<=p/\p<=32)/\(1<=b/\b<=262144)/\1<=t/\t<=1048576:=by simp[jq];omega
def zJ(p b t):aY prog 28 [Cl p b t] (· =.bool (jq p b t)):=by refine .ar aj func28 Y rfl trivial (B ?_);refine dT (fun _=>B ?_) fun _=>B ?_;refine dT (fun _=>B ?_) fun _=>B ?_;refine dT (fun _=>B ?_) fun _=>B ?_;refine dT (fun _=>B ?_) fun _=>B ?_;refine dT (fun _=>B ?_) fun _=>B ?_;simp[jq, *];simp[jq, *];simp[jq, *];simp[jq, *];simp[jq, *];simp[jq, *]
def YQ{ls}{i:Nat}(h:i<ls.length):(dv ls)[(i:Int).toNat]?=some [SV.int .i64 (ls.getD i 0)]:=by have:=XY (l:=ls) (k:=.i64) (i:=(i:Int)) G G;rw[gh]at*;exact this
def qv(ls:List Int):Prop:=∀i,i<ls.length->1<=ls.getD i 0/\ls.getD i 0<=4096
open Classical in
def vg(ls:List Int):Bool:=decide (qv ls)
def OP{ls}(h:qv ls):vg ls=true:=by simp[vg,h]
def OO{ls}(h:¬qv ls):vg ls=false:=by simp[vg,h]
def Bb(ls)(hlen:ls.length<=1000000):aY prog 100 [.rs 1 (dv ls)] (· =.bool (vg ls)):=by
 refine .ar aj func100 Y rfl trivial ?_;have hl:=qz ls;refine B ?_;refine b6.cq aj 18 (fun i:{i:Nat//i<=ls.length/\∀j,j<i->1<=ls.getD j 0/\ls.getD j 0<=4096}=>[(5,.rs 1 (dv ls)),(6,.int .i64 ((dv ls).length:Int)),(7,.int .i64 (i.1:Int))])
  (fun _=>[]) (fun i=>ls.length-i.1) ⟨0,G,by intro j hj;omega⟩ (.of [] dC ?_) ?_
 exact wt;intro i;obtain⟨Q,U⟩:=i.2;refine B ?_;refine⟨fun M=>?_,fun M=>?_⟩;have M:i.1<ls.length:=by simpa[hl]using M
 refine B ?_;refine⟨_,YQ M,B ?_⟩;refine dT (fun _=>B ?_) fun _=>B ?_;refine .same (B ?_);exact gH (OO fun h=>by have:=h i.1 M;omega).symm;refine dT (fun _=>B ?_) fun _=>B ?_;refine .same (B ?_);exact gH (OO fun h=>by have:=h i.1 M;omega).symm;refine⟨⟨i.1+1,G,fun j hj=>(by grind)⟩,by grind,.of [] dC (B ?_)⟩;exact acx;have M:i.1=ls.length:=by simp[hl]at M;omega
 refine B ?_;refine .same (B ?_);exact gH (OP fun j hj=>U j G).symm
def fv(ls:List Int):Nat->Int|0=> -4|i+1=>fv ls i+4+ls.getD i 0
def px(ls:List Int):Prop:=ls.length<=32/\qv ls
open Classical in
def oA(ls:List Int):Int:=if px ls/\ls.length≠0 then fv ls ls.length else 0
open Classical in
def tV(ls:List Int):Int:=if px ls then(if ls.length=0 then 5 else 0)else 1
def abp{ls}(h:¬px ls):oA ls=0/\tV ls=1:=by simp[oA,tV,h]
def abo{ls}(h:px ls)(h0:ls.length=0):oA ls=0/\tV ls=5:=by simp[oA,tV,h,h0]
def QT{ls}(h:px ls)(h0:ls.length≠0):oA ls=fv ls ls.length/\tV ls=0:=by simp[oA,tV,h,h0]
def abm{ls}(h:qv ls):∀i,i<=ls.length-> -4+5*(i:Int)<=fv ls i/\fv ls i<=4100*(i:Int):=by intro i;induction i with|zero=>intro _;simp[fv]|succ i ih=>intro Q;have:=ih G;have:=h i G;simp only[fv];omega
def atQ{ls}(h:tV ls=0):px ls/\ls.length≠0:=by by_cases hO:px ls;by_cases h0:ls.length=0;rw[(abo hO h0).2]at h;omega;simp_all;rw[(abp hO).2]at h;omega
def QE(ls)(hlen:ls.length<=1000000):aY prog 51 [.rs 1 (dv ls)] (· =.tup [.int .i64 (oA ls),.int .i64 (tV ls)]):=by
 refine .ar aj func51 Y rfl trivial ?_;have hl:=qz ls;by_cases hO:px ls;have o1:=hO.1;have o2:=OP hO.2;by_cases h0:ls.length=0;have G6:=pH h0;obtain⟨z1,z2⟩:=abo hO h0;conv=>whnf
 refine dV sO ?_;conv=>whnf
 refine(Bb _ G).call (ri ?_);conv=>whnf
 refine dV sO ?_;conv=>whnf
 refine gX (by simp_all) ?_;conv=>whnf
 simp_all;obtain⟨z1,z2⟩:=QT hO h0;conv=>whnf
 refine dV (by grind) ?_;conv=>whnf
 refine(Bb _ G).call (ri ?_);conv=>whnf
 refine dV (by rw[o2];rfl) ?_;conv=>whnf
 refine dV (by simp_all) ?_;conv=>whnf
 refine b6.cq aj 32 (fun i:{i:Nat//i<=ls.length}=>[(4,.int .i64 (fv ls i.1)),(20,.rs 1 (dv ls)),(21,.int .i64 ((dv ls).length:Int)),(22,.int .i64 (i.1:Int))])
  (fun _=>[]) (fun i=>ls.length-i.1) ⟨0,G⟩ (.of [] dC ?_) ?_
 exact wt;intro i;have Q:=i.2;have atu:=abm hO.2 i.1 Q;refine B ?_;refine⟨fun M=>?_,fun M=>?_⟩;have M:i.1<ls.length:=by simpa[hl]using M
 have hw:=hO.2 i.1 M;refine B ?_;refine⟨_,YQ M,B ?_⟩;refine⟨⟨i.1+1,G⟩,by grind,.of [] dC (B ?_)⟩;refine⟨by(rw[a_ (4+_) G G,a_ _ G G];simp only[fv];omega),?_⟩;conv=>whnf
 refine⟨Y,?_⟩;conv=>whnf
 refine⟨Y,?_⟩;conv=>whnf
 exact acx;have M:i.1=ls.length:=by simp[hl]at M;omega
 refine B ?_;refine .same (B ?_);simp_all;obtain⟨z1,z2⟩:=abp hO;by_cases E:ls.length<=32;have o2:vg ls=false:=OO fun h=>hO ⟨E,h⟩;conv=>whnf
 refine dV sO ?_;conv=>whnf
 refine(Bb _ G).call (ri ?_);conv=>whnf
 refine gX sO ?_;conv=>whnf
 simp_all;conv=>whnf
 refine gX sO ?_;conv=>whnf
 simp_all
def AS(ls:List Int)(p b t k aa:Int):Prop:=px ls/\ls.length≠0/\(ls.length:Int)<=p/\fv ls ls.length<=b/\jC k aa (fv ls ls.length)<=t
open Classical in
def w7(ls:List Int)(p b t k aa:Int):Int:=if px ls/\ls.length≠0/\(ls.length:Int)<=p/\fv ls ls.length<=b then jC k aa (fv ls ls.length)else 0
open Classical in
def rq(ls:List Int)(p b t k aa:Int):Bool:=decide (AS ls p b t k aa)
def axd{k}{a c}{b d}(E:a=c)(F:b=d):SV.tup [.int k a,.bool b]=.tup [.int k c,.bool d]:=by rw[E,F]
def L7(ls:List Int)(p b:Int):Prop:=px ls/\ls.length≠0/\(ls.length:Int)<=p/\fv ls ls.length<=b
def UW{ls}{p b}(t k aa)(h:L7 ls p b):w7 ls p b t k aa=jC k aa (fv ls ls.length)/\rq ls p b t k aa=decide (jC k aa (fv ls ls.length)<=t):=by have h':=h;obtain⟨E,F,h3,h4⟩:=h';refine⟨by unfold w7;simp_all,?_⟩;unfold rq AS;simp_all
def aiT{ls}{p b}(t k aa)(h:¬L7 ls p b):w7 ls p b t k aa=0/\rq ls p b t k aa=false:=by have hp:¬AS ls p b t k aa:=fun q=>h ⟨q.1,q.2.1,q.2.2.1,q.2.2.2.1⟩;exact⟨by unfold w7;exact ay h,by simp[rq,hp]⟩
def aua{k aa b}(h:ja k aa=true)(h0:0<=b)(E:b<=262144):qF k aa b=jC k aa b/\Bf k aa b=0:=abA ((Q0 _ _ _).2 ⟨(Jw k aa).1 h,h0,E⟩)
def UY(ls)(hlen:ls.length<=1000000)(p b t k aa)(D:ja k aa=true)(M:b<=262144):aY prog 30 [.rs 1 (dv ls),Cl p b t,A6 k aa] (· =.tup [.int .i64 (w7 ls p b t k aa),.bool (rq ls p b t k aa)]):=by
 refine .ar aj func30 Y rfl trivial ?_;have hl:=qz ls;by_cases zK:L7 ls p b;obtain⟨y1,Fc⟩:=UW t k aa zK;obtain⟨E,F,h3,h4⟩:=zK;obtain⟨z1,z2⟩:=QT E F;have atu:=abm E.2 ls.length (aC _);obtain⟨m1,aw0⟩:=aua D (b:=fv ls ls.length) G G;refine B ?_;refine(QE _ G).call (ri ?_);conv=>whnf
 refine dV sO ?_;conv=>whnf
 refine dV sO ?_;conv=>whnf
 refine dV sO ?_;conv=>whnf
 refine(abw _ _ _).call (ri ?_);conv=>whnf
 refine cf.fQ mixed aj ?_;conv=>whnf
 refine gX (by simp[*]) (B ?_);simp_all;obtain⟨y1,Fc⟩:=aiT t k aa zK;have h':tV ls=0->(ls.length:Int)<=p->oA ls<=b->False:=fun q1 q2 q3=>by obtain⟨u1,u2⟩:=atQ q1;rw[(QT u1 u2).1]at q3;exact zK ⟨u1,u2,q2,q3⟩
 refine B ?_;refine(QE _ G).call (ri (B ?_));refine dT (fun _=>?_) fun _=>?_;refine B ?_;simp_all;refine B ?_;refine dT (fun _=>?_) fun _=>?_;refine B ?_;simp_all;refine B ?_;refine dT (fun _=>?_) fun _=>?_;refine B ?_;simp_all;simp_all
open Classical in
def mi(ls:List Int)(p b t k aa:Int):Bool:=jq p b t&&ja k aa&&decide (AS ls p b t k aa)
def apw{ls}{p b t k aa}(h:jq p b t=true)(D:ja k aa=true):rq ls p b t k aa=mi ls p b t k aa:=by simp[mi,rq,h,D]
def apv{ls}{p b t k aa}(h:jq p b t=false):false=mi ls p b t k aa:=by simp[mi,h]
def apy{ls}{p b t k aa}(h:ja k aa=false):false=mi ls p b t k aa:=by simp[mi,h]
def apj(ls)(hlen:ls.length<=1000000)(p b t k aa):aY prog 11 [.rs 1 (dv ls),Cl p b t,A6 k aa] (· =.bool (mi ls p b t k aa)):=by
 refine .ar aj func11 Y rfl trivial ?_;by_cases h:jq p b t=true;have M:b<=262144:=((Ug _ _ _).1 h).2.1.2;by_cases D:ja k aa=true;refine B ?_;refine(zJ _ _ _).call (ri (B ?_));refine(wN _ _).call (ri (B ?_));refine(UY _ G _ _ _ _ _ G G).call (ri (B ?_));exact gH (apw h D);have D:ja k aa=false:=by simpa using D
 refine B ?_;refine(zJ _ _ _).call (ri (B ?_));refine(wN _ _).call (ri (B ?_));exact gH (apy D);have h:jq p b t=false:=by simpa using h
 refine B ?_;exact(zJ _ _ _).call (ri (B (gH (apv h))))
def getD_take{ls:List Int}{n i}(h:i<n):(ls.take n).getD i 0=ls.getD i 0:=by simp_all
def aow(ls)(n):(dv ls).take n=dv (ls.take n):=by simp[dv,wa]
def am2{ls}(h:qv ls)(n):qv (ls.take n):=by
 intro i Q;have f_:i<n/\i<ls.length:=by simp at Q;omega
 rw[getD_take f_.1];exact h i f_.2
def abn{ls}{n}:∀i,i<=n->fv (ls.take n) i=fv ls i:=by intro i;induction i with|zero=>intro _;rfl|succ i ih=>intro Q;simp only[fv];grind
def mj(ls:List Int)(p b t k aa:Int)(n:Nat):Prop:=n<=32/\n≠0/\(n:Int)<=p/\fv ls n<=b/\jC k aa (fv ls n)<=t
def P0{ls}(h:qv ls){p b t k aa}{n}(hn:n<=ls.length):AS (ls.take n) p b t k aa↔mj ls p b t k aa n:=by have e:(ls.take n).length=n:=sO;unfold AS mj px;rw[e,abn n (aC _)];have:=am2 h n;simp_all
def aue{k aa x y}(o:1<=k)(h:x<=y):jC k aa x<=jC k aa y:=by have:(8000*x+k-1)/k<=(8000*y+k-1)/k:=Int.ediv_le_ediv G G;unfold jC;omega
def apu{ls}(h:qv ls){p b t k aa}(o:1<=k){n m}(hn:n<=ls.length)(hm:m<=n)(rY:m≠0)(hp:mj ls p b t k aa n):mj ls p b t k aa m:=by
 have mono:∀j,m<=j->j<=n->fv ls m<=fv ls j:=by intro j;induction j with|zero=>omega|succ j ih=>intro a b;by_cases e:m=j+1;subst e;omega;have:=ih G G;have:=h j G;simp only[fv];omega
 have s:=mono n hm (aC _);obtain⟨a1,a2,a3,a4,a5⟩:=hp;have:=aue (aa:=aa) o s;exact⟨G,rY,G,G,G⟩
open Classical in
def pO(ls:List Int)(p b t k aa:Int):Nat->Nat|0=>0|n+1=>if mj ls p b t k aa (n+1)then n+1 else pO ls p b t k aa n
def sL(ls:List Int):Nat:=if ls.length<=32 then ls.length else 32
def qZ(ls:List Int)(p b t k aa:Int):Nat:=pO ls p b t k aa (sL ls)
def Gf(ls:List Int)(p b t k aa:Int):Int:=if qZ ls p b t k aa=0 then 0 else jC k aa (fv ls (qZ ls p b t k aa))
def wO(ls:List Int)(p b t k aa:Int):Prop:=jq p b t=true/\ja k aa=true/\ls.length<=128/\qv ls
open Classical in
def q7(ls:List Int)(p b t k aa:Int):Int:=if wO ls p b t k aa then(qZ ls p b t k aa:Int)else 0
open Classical in
def wP(ls:List Int)(p b t k aa:Int):Int:=if wO ls p b t k aa then Gf ls p b t k aa else 0
open Classical in
def zi(ls:List Int)(p b t k aa:Int):Int:=if wO ls p b t k aa then(if ls.length=0 then 5 else 0)else 1
def TC{ls}{p b t k aa}(h:¬wO ls p b t k aa):q7 ls p b t k aa=0/\wP ls p b t k aa=0/\zi ls p b t k aa=1:=by simp[q7,wP,zi,h]
def TD{ls}{p b t k aa}(h:wO ls p b t k aa):q7 ls p b t k aa=(qZ ls p b t k aa:Int)/\wP ls p b t k aa=Gf ls p b t k aa/\zi ls p b t k aa=(if ls.length=0 then 5 else 0):=by simp[q7,wP,zi,h]
def afH{ls}{p b t k aa}{n}:∀m,n<=m->(n=0\/mj ls p b t k aa n)->(∀j,n<j->j<=m->¬mj ls p b t k aa j)->pO ls p b t k aa m=n:=by intro m;induction m with|zero=>intro a b c;simp[pO];omega|succ m ih=>intro a b c;simp only[pO];grind
def afJ{ls}(h:qv ls){p b t k aa}(o:1<=k)(hp:p<=32){n}(hn:n<=ls.length)(hnp:(n:Int)<=p)(fD:n=0\/mj ls p b t k aa n)(bQ:(n:Int)=p\/n=ls.length\/ ¬mj ls p b t k aa (n+1)):qZ ls p b t k aa=n:=by
 refine afH _ (by unfold sL;split<;>omega) fD fun j E F hj=>?_;have dq:j<=ls.length:=by unfold sL at F;split at F<;>omega
 rcases bQ with e|e|e;have:=hj.2.2.1;omega;omega;exact e (apu h o dq G G hj)
def afI{ls}{p b t k aa}:∀m,pO ls p b t k aa m<=m/\(pO ls p b t k aa m=0\/mj ls p b t k aa (pO ls p b t k aa m)):=by intro m;induction m with|zero=>simp[pO]|succ m ih=>simp only[pO];grind
def abE{a b c x y z}(E:a=x)(F:b=y)(h3:c=z):SV.tup [.int .i64 a,.int .i64 b,.int .i64 c]=.tup [.int .i64 x,.int .i64 y,.int .i64 z]:=by rw[E,F,h3]
def atg{ls}{n:Nat}{z:Int}(hz:z=n):(List.drop (Int.toNat 0) (List.take z.toNat (dv ls)))=dv (ls.take n):=by subst hz;rw[gh,aow];rfl
def ai5{es}{ls}(h:es=dv ls)(hlen:ls.length<=1000000)(p b t k aa)(D:ja k aa=true)(M:b<=262144):aY prog 30 [.rs 1 es,Cl p b t,A6 k aa] (· =.tup [.int .i64 (w7 ls p b t k aa),.bool (rq ls p b t k aa)]):=by subst h;exact UY ls hlen p b t k aa D M
def agb(ls)(hlen:ls.length<=1000000)(p b t k aa):aY prog 189 [.rs 1 (dv ls),Cl p b t,A6 k aa] (· =.tup [.int .i64 (q7 ls p b t k aa),.int .i64 (wP ls p b t k aa),.int .i64 (zi ls p b t k aa)]):=by
 refine .ar aj func189 Y rfl trivial ?_;have hl:=qz ls;by_cases hO:wO ls p b t k aa;obtain⟨y1,Fc,abW⟩:=TD hO;obtain⟨hc,D,h8,hn⟩:=hO;have tc:=OP hn;obtain⟨⟨qr,axR⟩,⟨fb,b1⟩,t0,t1⟩:=(Ug _ _ _).1 hc;obtain⟨⟨ma,k1⟩,o0,o1⟩:=(Jw _ _).1 D;by_cases h0:ls.length=0;have z1:qZ ls p b t k aa=0:=by unfold qZ sL;rw[h0];rfl
 refine B ?_;refine(zJ _ _ _).call (ri ?_);conv=>whnf
 refine dV sO ?_;conv=>whnf
 refine(wN _ _).call (ri ?_);conv=>whnf
 refine dV sO ?_;conv=>whnf
 refine dV sO (B ?_);refine(Bb _ G).call (ri ?_);conv=>whnf
 refine dV sO ?_;conv=>whnf
 refine gX (by simp[*]) ?_;conv=>whnf
 exact abE (by rw[y1,z1];rfl) (by rw[Fc,Gf,au z1]) (by omega);refine B ?_;refine(zJ _ _ _).call (ri ?_);conv=>whnf
 refine dV (by rw[hc];rfl) ?_;conv=>whnf
 refine(wN _ _).call (ri ?_);conv=>whnf
 refine dV (by rw[D];rfl) ?_;conv=>whnf
 refine dV (by grind) (B ?_);refine(Bb _ G).call (ri ?_);conv=>whnf
 refine dV (by rw[tc];rfl) (B ?_);refine dV (by simp_all) (B ?_);refine b6.cq aj 60 (fun n:{n:Nat//n<=ls.length/\(n:Int)<=p/\(n=0\/mj ls p b t k aa n)}=>[(0,.rs 1 (dv ls)),(4,.ptr 0 0),(5,.ptr 1 0),(9,.int .i64 (n.1:Int)),(10,.int .i64 (if n.1=0 then 0 else jC k aa (fv ls n.1)))])
  (fun _=>[.fix 30 [.int .i64 p,.int .i64 b,.int .i64 t],.fix 49 [.int .i64 k,.int .i64 aa]]) (fun n=>ls.length-n.1) ⟨0,G,G,.inl rfl⟩ (.of gB dC ?_) ?_
 exact wt;intro n;obtain⟨Q,hp,o⟩:=n.2;have fin:∀h,SV.tup [.int .i64 (n.1:Int),.int .i64 (if n.1=0 then 0 else jC k aa (fv ls n.1)),.int .i64 0]=.tup [.int .i64 (q7 ls p b t k aa),.int .i64 (wP ls p b t k aa),.int .i64 (zi ls p b t k aa)]:=fun h=>by have e:=afJ hn ma axR Q hp o h;exact abE (by rw[y1,e]) (by rw[Fc,Gf,e]) (by rw[abW,ay h0])
 refine B ?_;refine⟨fun M=>?_,fun M=>?_⟩;have M:(n.1:Int)<ls.length/\(n.1:Int)<p:=by rw[hl]at M;simp only[bs]at M;split at M<;>omega
 have e1:IntKind.i64.wrap ((n.1:Int)+1)=((n.1+1:Nat):Int):=by rw[a_ _ G G];omega
 have Cv:rq (ls.take (n.1+1)) p b t k aa=true↔mj ls p b t k aa (n.1+1):=by rw[<-P0 hn G];simp[rq]
 have hq:((ls.take (n.1+1)).length:Int)=n.1+1:=by simp;omega
 have hs:fv (ls.take (n.1+1)) (n.1+1)=fv ls (n.1+1):=abn _ (aC _);have hv:mj ls p b t k aa (n.1+1)->w7 (ls.take (n.1+1)) p b t k aa=jC k aa (fv ls (n.1+1)):=fun h=>by have F:=(P0 hn G).2 h;have e:=(UW t k aa (p:=p) (b:=b) (ls:=ls.take (n.1+1)) ⟨F.1,F.2.1,F.2.2.1,F.2.2.2.1⟩).1;grind
 conv=>whnf
 refine cf.fQ mixed aj ?_;conv=>whnf
 refine⟨by omega,?_⟩;conv=>whnf
 refine(ai5 (ls:=ls.take (n.1+1)) (by exact atg e1) G p b t k aa D b1).cA ?_;conv=>whnf
 refine⟨by kernel_rfl,?_⟩;conv=>whnf
 refine⟨fun hf=>?_,fun hf=>?_⟩;have hf:¬mj ls p b t k aa (n.1+1):=fun h=>by simp_all
 conv=>whnf
 refine .same ?_;conv=>whnf
 simp_all;have hf:mj ls p b t k aa (n.1+1):=Cv.1 (by simpa using hf);conv=>whnf
 refine⟨⟨n.1+1,G,G,.inr hf⟩,by grind,.of gB dC ?_⟩;conv=>whnf
 refine⟨Y,?_⟩;conv=>whnf
 refine⟨G,?_⟩;conv=>whnf
 refine⟨by simp[*],?_⟩;exact act;have M:(n.1:Int)=p\/n.1=ls.length:=by rw[hl]at M;simp only[bX]at M;split at M<;>omega
 conv=>whnf
 refine .same ?_;conv=>whnf
 exact fin (by rcases M with h|h;exact .inl h;exact .inr (.inl h));obtain⟨y1,Fc,abW⟩:=TC hO;have h':jq p b t=true->ja k aa=true->(ls.length:Int)<=128->vg ls=true->False:=fun q1 q2 q3 q4=>hO ⟨q1,q2,G,by simpa[vg]using q4⟩;conv=>whnf
 refine(zJ _ _ _).call (ri ?_);conv=>whnf
 refine⟨fun fZ=>?_,fun fZ=>?_⟩;simp only[bs,bX,dN,dO,c5,dP,bR,dG,dH,dQ,dk,c6,dR,dL,dS,dh,ne_eq,dZ]at fZ;conv=>whnf
 simp_all;simp only[bs,bX,dN,dO,c5,dP,bR,dG,dH,dQ,dk,c6,dR,dL,dS,dh,ne_eq,dZ]at fZ;conv=>whnf
 refine(wN _ _).call (ri ?_);conv=>whnf
 refine⟨fun l2=>?_,fun l2=>?_⟩;simp only[bs,bX,dN,dO,c5,dP,bR,dG,dH,dQ,dk,c6,dR,dL,dS,dh,ne_eq,dZ]at l2;conv=>whnf
 simp_all;simp only[bs,bX,dN,dO,c5,dP,bR,dG,dH,dQ,dk,c6,dR,dL,dS,dh,ne_eq,dZ]at l2;conv=>whnf
 refine dT (fun _=>?_) fun _=>?_;conv=>whnf
 simp_all;conv=>whnf
 refine(Bb _ G).call (ri ?_);conv=>whnf
 refine⟨fun Wa=>?_,fun Wa=>?_⟩;simp only[bs,bX,dN,dO,c5,dP,bR,dG,dH,dQ,dk,c6,dR,dL,dS,dh,ne_eq,dZ]at Wa;conv=>whnf
 simp_all;simp_all
def qp{α:Type}[Inhabited α]{l}{i j}{x:α}(Q:i<l.length):Z (l.set i x) j=if i=j then x else Z l j:=by unfold Z;grind
def oe{α:Type}[Inhabited α]{l}{j}{x:α}(hj:j<l.length+1):Z (l++[x]) j=if j=l.length then x else Z l j:=by unfold Z;grind
def od{α:Type}[Inhabited α]{l:List α}{i}(h:i<l.length):Z l i∈l:=bN (b8 h)
structure cQ(c:bT)(b:Int)(aV:Int->Prop)(s:b7)(nx:Int):Prop where
 bn:s.bn=c.bn
 tries:s.tries=c.tries
 c1:1<=c.bn/\c.bn<=64
 c2:1<=c.tries/\c.tries<=16
 nx:nx=s.next
 n0:0<=s.next/\s.next<=b
 top:b<=20000
 Bd:(s.pend.map Se.seq).Pairwise (· < ·)
 lt:∀p∈s.pend,0<=p.seq/\p.seq<s.next
 room:s.next-s.base<=c.bn
 vR:∀p∈s.pend,0<=p.tries/\p.tries<=s.tries
 ids:∀p∈s.pend,aV p.id
def cQ.base{c}{b}{aV}{s}{nx}(h:cQ c b aV s nx):0<=s.base/\s.base<=s.next/\∀p∈s.pend,s.base<=p.seq:=by have E:=h.lt;have F:=h.n0.1;have h3:=h.Bd;unfold b7.base;cases hp:s.pend with|nil=>simp_all|cons p l=>rw[hp]at E h3;have:=E p sM;refine⟨this.1,by grind,fun q hq=>?_⟩;rcases gE.1 hq with rfl|hq;simp_all;rw[mI,List.pairwise_cons]at h3;exact Int.le_of_lt (h3.1 _ (ew.2 ⟨q,hq,rfl⟩))
def afr:∀(l:List Int)(lo Q:Int),l.Pairwise (· < ·)->(∀x∈l,lo<=x/\x<Q)->lo<=Q->(l.length:Int)<=Q-lo:=by intro l;induction l with|nil=>simp_all|cons a l ih=>intro lo Q E F h3;rw[List.pairwise_cons]at E;have ha:=F a sM;have:=ih (a+1) Q E.2 (fun x hx=>⟨by grind,(F x (by simp[hx])).2⟩) G;grind
def cQ.len{c}{b}{aV}{s}{nx}(h:cQ c b aV s nx):s.pend.length<=64:=by have M:=h.base;have:=afr (s.pend.map Se.seq) s.base s.next h.Bd (fun x hx=>by obtain⟨p,hp,rfl⟩:=ew.1 hx;exact⟨M.2.2 p hp,(h.lt p hp).2⟩) M.2.1;rw[bh]at this;have:=h.room;have:=h.c1;omega
def cQ.ok{c}{b}{aV}{s}{nx}(h:cQ c b aV s nx):hY s:=by have h0:=h.n0;have ht:=h.top;refine⟨by rw[h.bn];exact h.c1,by rw[h.tries];exact h.c2,⟨h0.1,G⟩,dF h.len dC,fun p hp=>?_,h.vR⟩;have:=h.lt p hp;exact⟨this.1,G⟩
def cQ.mono{c}{b}{aV}{s}{nx}(h:cQ c b aV s nx){b'}{Q'}(M:b<=b')(ht:b'<=20000)(xl:∀id,aV id->Q' id):cQ c b' Q' s nx:=
 ⟨h.bn,h.tries,h.c1,h.c2,h.nx,⟨h.n0.1,Int.le_trans h.n0.2 M⟩,ht,h.Bd,h.lt,h.room,h.vR,fun p hp=>xl _ (h.ids p hp)⟩
def cQ.sub{c}{b}{aV}{s}{nx}(h:cQ c b aV s nx){l}(hl:l.Sublist s.pend):cQ c b aV {s with pend:=l} nx:=by have M:=h.base;refine⟨h.bn,h.tries,h.c1,h.c2,h.nx,h.n0,h.top,(h.Bd.sublist (hl.map _)),fun p hp=>h.lt p (hl.subset hp),?_,fun p hp=>h.vR p (hl.subset hp),fun p hp=>h.ids p (hl.subset hp)⟩;have D:=h.room;show s.next-(l.map Se.seq).headD s.next<=c.bn;cases l<;>grind
def cQ.drop{c}{b}{aV}{s}{nx}(h:cQ c b aV s nx)(q):cQ c b aV (mz s q).2.2 nx:=by unfold mz;split;exact h;split;exact h;exact h.sub (Si _ _)
def cQ.Th{c}{b}{aV}{s}{nx}(h:cQ c b aV s nx)(q)(n):cQ c b aV (ov s q n) nx:=by unfold ov;split;exact h;exact h.sub Fx
def cQ.send{c}{b}{aV}{s}{nx}(h:cQ c b aV s nx)(q):cQ c b aV (mA s q).2.2 nx:=by
 unfold mA;split;exact h;split;exact h;rename_i p hp;split;exact h;have hm:(s.pend.set (s.find q).toNat {p with tries:=p.tries+1}).map Se.seq=s.pend.map Se.seq:=by
  rw[iH];obtain⟨ai,U⟩:=ao.1 hp;have:(s.pend.map Se.seq)[(s.find q).toNat]?=some p.seq:=by rw[bz,hp];rfl
  obtain⟨kn,oU⟩:=ao.1 this;show(s.pend.map Se.seq).set _ p.seq=_;rw[<-oU];exact List.set_getElem_self kn
 have fD:=bN hp;have M:({s with pend:=s.pend.set (s.find q).toNat {p with tries:=p.tries+1}}:b7).base=s.base:=by unfold b7.base;show(List.map Se.seq (s.pend.set (s.find q).toNat {p with tries:=p.tries+1})).headD s.next=_;rw[hm]
 refine⟨h.bn,h.tries,h.c1,h.c2,h.nx,h.n0,h.top,by show List.Pairwise _ (List.map Se.seq (s.pend.set _ _));rw[hm];exact h.Bd,fun p' iV=>?_,by rw[M];exact h.room,fun p' iV=>?_,fun p' iV=>?_⟩;rcases Kt iV with iV|rfl;exact h.lt _ iV;have:=h.lt _ fD;exact this;rcases Kt iV with iV|rfl;exact h.vR _ iV;have:=h.vR _ fD;grind;rcases Kt iV with iV|rfl;exact h.ids _ iV;have:=h.ids _ fD;exact this
def cQ.Aq{c}{b}{aV}{s}{nx}(h:cQ c b aV s nx)(D:1<=c.bn-(s.next-s.base)):s.Aq=true:=by have M:=h.base;unfold b7.Aq bI;rw[au M.2.1,h.bn];simp;omega
def cQ.bI{c}{b}{aV}{s}{nx}(h:cQ c b aV s nx):Go.Air.bI s.base nx=s.next-s.base:=by unfold Go.Air.bI;rw[h.nx,au h.base.2.1]
def cQ.assign{c}{b}{aV}{s}{nx}(h:cQ c b aV s nx)(D:1<=c.bn-(s.next-s.base)){id}(hid:1<=id)(xl:aV id)(ht:b+1<=20000):jA s id=(s.next,0,{s with pend:=s.pend++[⟨s.next,id,0⟩],next:=s.next+1})/\cQ c (b+1) aV {s with pend:=s.pend++[⟨s.next,id,0⟩],next:=s.next+1} (s.next+1)/\({s with pend:=s.pend++[⟨s.next,id,0⟩],next:=s.next+1}:b7).base=s.base:=by
 have h0:=h.n0;have aj8:({s with pend:=s.pend++[⟨s.next,id,0⟩],next:=s.next+1}:b7).base=s.base:=by unfold b7.base;show(List.map Se.seq (s.pend++[⟨s.next,id,0⟩])).headD (s.next+1)=_;cases s.pend<;>rfl
 refine⟨by unfold jA;rw[ay G,h.Aq D];rfl,⟨h.bn,h.tries,h.c1,h.c2,rfl,⟨by grind,by simp_all⟩,ht,?_,fun p hp=>?_,?_,fun p hp=>?_,fun p hp=>?_⟩,aj8⟩;show List.Pairwise _ (List.map Se.seq (s.pend++[_]));rw[dx,List.pairwise_append];refine⟨h.Bd,sM,fun x hx y hy=>?_⟩;obtain⟨p,hp,rfl⟩:=ew.1 hx;simp at hy;subst hy;exact(h.lt p hp).2;rcases eJ.1 hp with hp|hp;have:=h.lt p hp;grind;grind;grind;rcases eJ.1 hp with hp|hp;exact h.vR p hp;simp at hp;subst hp;exact⟨gF _,by show 0<=s.tries;rw[h.tries];have:=h.c2;omega⟩;rcases eJ.1 hp with hp|hp;exact h.ids p hp;simp_all
structure gu(z:Nat)(aV:Int->Prop)(q:Qu):Prop where
 len:q.pk.length<=z
 ids:∀p∈q.pk,aV p.id
def gu.sub{z}{aV}{q}(h:gu z aV q){q'}(hl:q'.pk.Sublist q.pk):gu z aV q':=
 ⟨dF hl.length_le h.len,fun p hp=>h.ids p (hl.subset hp)⟩
def gu.expire{z}{aV}{q}(h:gu z aV q)(s):gu z aV (fG q s).2/\(∀p∈(fG q s).1,aV p.id)/\(fG q s).1.length<=z:=
 ⟨h.sub Fx,fun p hp=>h.ids p (oE.1 hp).1,dF (wg _ _) h.len⟩
def gu.push{z}{aV}{q}(h:gu z aV q){p}(hp:aV p.id):gu (z+1) aV (lC q p).2:=by have E:=h.len;unfold lC;split;exact⟨Fw E,h.ids⟩;split;exact⟨Fw E,h.ids⟩;refine⟨by simp_all,fun x hx=>?_⟩;rcases eJ.1 hx with hx|hx;exact h.ids x hx;simp_all
def gu.lj{z}{aV}{q}(h:gu z aV q)(a b):gu z aV (r9 q a b).2:=by unfold r9;split;exact h;exact⟨h.len,h.ids⟩
def gu.mono{z z'}{aV Q'}{q}(h:gu z aV q)(hz:z<=z')(xl:∀id,aV id->Q' id):gu z' Q' q:=⟨dF h.len hz,fun p hp=>xl _ (h.ids p hp)⟩
structure Ctx where
 fs:List Int
 rt:List (Int×Int)
 pl:List Int
def Ctx.le(x y:Ctx):Prop:=x.fs<+:y.fs/\x.rt<+:y.rt/\x.pl<+:y.pl
def wC(x:Ctx)(f v:Int):Prop:=∃i j:Nat,f=(i:Int)/\v=(j:Int)/\x.fs[i]?=some v/\j<x.rt.length
def po(l:List Int)(id:Int):Int:=Z l (id-1).toNat
structure sJ(c:bT)(x:Ctx)(r:bG)(l:List bG):Prop where
 kind:r.kind=5
 aR:wC x r.aR r.val
 kinds:∀q∈l,q.kind=3/\wC x q.aR r.val/\1<=q.fR/\q.fR<=x.pl.length
 fits:mi (l.map fun q=>po x.pl q.fR) c.cp c.hZ c.gY (Z x.rt r.val.toNat).1 (Z x.rt r.val.toNat).2=true
inductive jj(c:bT)(x:Ctx):List bG->Prop where
 |nil:jj c x []
 |other {l:List bG} {r:bG} (h:jj c x l) (E:r.kind≠3) (F:r.kind=5->r.aR<0):jj c x (l++[r])
 |JA {l s:List bG} {r:bG} (h:jj c x l) (E:sJ c x r s):jj c x (l++(r::s))
def ZN{α:Type}{l l'}(h:l<+:l'){i:Nat}{a:α}(Q:l[i]?=some a):l'[i]?=some a:=by obtain⟨t,rfl⟩:=h;grind
def ZO{α:Type}[Inhabited α]{l l':List α}(h:l<+:l'){i}(Q:i<l.length):Z l' i=Z l i:=by have E:=ZN h (b8 Q);have F:=b8 (fj Q h.length_le);simp_all
def wC.mono{x y}(h:x.le y){f v}(hs:wC x f v):wC y f v:=by obtain⟨i,j,E,F,h3,h4⟩:=hs;exact⟨i,j,E,F,ZN h.1 h3,fj h4 h.2.1.length_le⟩
def sJ.mono{c}{x y}(h:x.le y){r}{l}(hs:sJ c x r l):sJ c y r l:=by
 refine⟨hs.kind,hs.aR.mono h,fun q hq=>?_,?_⟩;obtain⟨a,b,c1,d⟩:=hs.kinds q hq;exact⟨a,b.mono h,c1,by have:=h.2.2.length_le;omega⟩;have e1:(l.map fun q=>po y.pl q.fR)=l.map fun q=>po x.pl q.fR:=k8 fun q hq=>by obtain⟨_,_,c1,d⟩:=hs.kinds q hq;exact ZO h.2.2 G
 obtain⟨i,j,_,F,_,h4⟩:=hs.aR;have e2:Z y.rt r.val.toNat=Z x.rt r.val.toNat:=ZO h.2.1 (by omega);rw[e1,e2];exact hs.fits
def jj.mono{c}{x y}(h:x.le y){l}(hs:jj c x l):jj c y l:=by induction hs with|nil=>exact .nil|other _ E F ih=>exact .other ih E F|JA _ E ih=>exact .JA ih (E.mono h)
def plain(r:bG):Prop:=r.kind≠3/\r.kind≠5/\r.kind≠1
def jj.Et{c}{x}{l}(h:jj c x l)(rs)(D:∀r∈rs,plain r):jj c x (l++rs):=by induction rs generalizing l with|nil=>simpa using h|cons r rs ih=>have E:=D r sM;have:=ih (h.other E.1 fun e=>absurd e E.2.1) fun q hq=>D q (by simp[hq]);simpa using this
def vb(r:bG):Bool:=decide (r.kind=1)
def lH(pl:List Int)(l:List bG):Prop:=(l.filter vb).map (fun r=>(r.fR,r.val))=(List.range pl.length).map fun(i:Nat)=>((i:Int)+1,Z pl i)
def lH.others{pl}{l}(h:lH pl l)(rs)(D:∀r∈rs,r.kind≠1):lH pl (l++rs):=by unfold lH at*;rw[yO,Sh (l:=rs) (p:=vb)|>.2 (fun r E=>by simpa[vb]using D r E),yM];exact h
def lH.acc{pl}{l}(h:lH pl l){r:bG}(E:r.kind=1)(F:r.fR=pl.length+1):lH (pl++[r.val]) (l++[r]):=by unfold lH at*;rw[yO,dx,h,c_,pK,Sj,dx];congr 1;refine k8 fun i Q=>?_;have Q:=pG.1 Q;rw[oe G,ay G];rw[show[r].filter vb=[r] by simp[vb,E]];simp only[mI,Kp];rw[oe G,au rfl,F]
def e_{α:Type}[Inhabited α](i:Nat)(l l':List α):Prop:=l'.length=l.length/\∀j,j≠i->Z l' j=Z l j
def e_.refl{α:Type}[Inhabited α](i)(l:List α):e_ i l l:=⟨rfl,fun _ _=>rfl⟩
def e_.set{α:Type}[Inhabited α]{i}{l l'}(h:e_ i l l')(x:α):e_ i l (l'.set i x):=by refine⟨by rw[fV];exact h.1,fun j hj=>?_⟩;rw[<-h.2 j hj];unfold Z;grind
def e_.trans{α:Type}[Inhabited α]{i}{l l' rU:List α}(h:e_ i l l')(F:e_ i l' rU):e_ i l rU:=⟨F.1.trans h.1,fun j hj=>(F.2 j hj).trans (h.2 j hj)⟩
def nK{α:Type}[Inhabited α]{l:List α}{i}{x}(Q:i<l.length):Z (l.set i x) i=x:=by rw[qp Q,au rfl]
def la(qs md:List Qu):Prop:=md.length=qs.length/\∀f,(Z md f).pk.Sublist (Z qs f).pk
def la.refl(qs):la qs qs:=⟨rfl,fun _=>List.Sublist.refl _⟩
def la.trans{a b c}(h:la a b)(F:la b c):la a c:=⟨F.1.trans h.1,fun f=>(F.2 f).trans (h.2 f)⟩
def la.set{a b}(h:la a b){f}{q}(hq:q.pk.Sublist (Z b f).pk):la a (b.set f q):=by refine⟨by rw[fV];exact h.1,fun j=>?_⟩;by_cases hf:f<b.length;rw[qp hf];by_cases hj:f=j;subst hj;rw[au rfl];exact hq.trans (h.2 f);rw[ay hj];exact h.2 j;rw[List.set_eq_of_length_le G];exact h.2 j
def apB(q):(r_ q).2.2.pk.Sublist q.pk:=by unfold r_;grind
def sQ(l:List Cd):Nat:=(l.filter fun d=>decide (d.seq<0)).length
def Uv{α:Type}[Inhabited α]{l:List α}{j}(h:j<l.length):l.drop j=Z l j::l.drop (j+1):=by rw[List.drop_eq_getElem_cons h];congr 1;have:=b8 h;simp_all
def Ik{α:Type}[Inhabited α]{l:List α}{n j}(h:j<n):Z (l.take n) j=Z l j:=by unfold Z;simp_all
def Ub{l:List Cd}{n j}(hj:j<n)(hn:n<=l.length):sQ ((l.take n).drop j)=(if(Z l j).seq<0 then 1 else 0)+sQ ((l.take n).drop (j+1)):=by rw[Uv (l:=l.take n) (j:=j) sO,Ik hj];unfold sQ;grind
structure oL(c:bT)(b:Int)(aV:Int->Prop)(ah:Nat)(qs:List Qu)(sa:List fa)(ss:List b7)(sts:List Int)(l:List Cd)(n:Nat)(j:Nat)(md:List Qu)(fK:List fa)(cD:List b7)(dK:List Int)(l':List Cd):Prop where
 vc:j<=n
 q:la qs md
 oa:e_ ah sa fK
 os:e_ ah ss cD
 st:dK.length=sts.length
 vf:l'.length=l.length
 id:∀i,(Z l' i).id=(Z l i).id
 lo:∀i,i<j->0<=(Z l' i).seq/\(Z l' i).seq<(Z cD ah).next
 Q:∀i,j<=i->Z l' i=Z l i
 aaD:(sQ ((l.take n).drop j):Int)<=c.bn-((Z cD ah).next-(Z cD ah).base)
 nx:(Z ss ah).next<=(Z cD ah).next
 sg:cQ c (b+j) aV (Z cD ah) (Z fK ah).next
def yV(aV:Int->Prop)(s:b7)(d:Cd):Prop:=aV d.id/\(d.seq= -1\/0<=d.seq/\d.seq<s.next)
section
variable{c:bT} {b:Int} {aV:Int->Prop} {ah:Nat} {qs:List Qu} {sa:List fa} {ss:List b7} {sts:List Int} {l:List Cd} {n:Nat}
def oL.init(hs:cQ c b aV (Z ss ah) (Z sa ah).next)(D:(sQ (l.take n):Int)<=c.bn-((Z ss ah).next-(Z ss ah).base)):oL c b aV ah qs sa ss sts l n 0 qs sa ss sts l:=
 ⟨cx _,.refl _,.refl _ _,.refl _ _,rfl,rfl,fun _=>rfl,fun i Q=>by omega,fun _ _=>rfl,by simpa using D,gF _,by simpa using hs⟩
variable{j:Nat} {md:List Qu} {fK:List fa} {cD:List b7} {dK:List Int} {l':List Cd}
def oL.skip(h:oL c b aV ah qs sa ss sts l n j md fK cD dK l')(hj:j<n)(hn:n<=l.length)(hd:yV aV (Z ss ah) (Z l j))(hq:¬(Z l j).seq<0)(ht:b+j+1<=20000):oL c b aV ah qs sa ss sts l n (j+1) md fK cD dK l':=by refine⟨hj,h.q,h.oa,h.os,h.st,h.vf,h.id,fun i Q=>?_,fun i Q=>h.Q i G,?_,h.nx,h.sg.mono G G fun _ h=>h⟩;by_cases H:i<j;exact h.lo i H;have:i=j:=G;subst this;rw[h.Q i (aC _)];have:=h.nx;rcases hd.2 with e|e<;>omega;have:=h.aaD;rw[Ub hj hn,ay hq]at this;simpa using this
def oL.take(h:oL c b aV ah qs sa ss sts l n j md fK cD dK l')(hj:j<n)(hn:n<=l.length)(hd:yV aV (Z ss ah) (Z l j))(hid:1<=(Z l j).id)(hq:(Z l j).seq<0)(ht:b+j+1<=20000)(ha:ah<ss.length)(ha2:ah<sa.length){v}(hv:v=(jA (Z cD ah) (Z l j).id).1)(f)(mR):0<=v/\v<20000/\oL c b aV ah qs sa ss sts l n (j+1) (md.set f (r_ (Z md f)).2.2) (fK.set ah ⟨v+1,mR⟩) (cD.set ah (jA (Z cD ah) (Z l j).id).2.2) (iZ dK (Z l j).id 2) (l'.set j ⟨(Z l j).id,v⟩):=by
 have D:=h.aaD;rw[Ub hj hn,au hq]at D;obtain⟨e1,e2,e3⟩:=h.sg.assign G hid hd.1 G;have lq:=h.sg.n0;have nV:ah<cD.length:=by rw[h.os.1];exact ha
 have akH:ah<fK.length:=by rw[h.oa.1];exact ha2
 have xD:j<l'.length:=by rw[h.vf];omega
 have ev:v=(Z cD ah).next:=by rw[hv,e1]
 refine⟨G,G,?_⟩;have es:(jA (Z cD ah) (Z l j).id).2.2={(Z cD ah)with pend:=(Z cD ah).pend++[⟨(Z cD ah).next,(Z l j).id,0⟩],next:=(Z cD ah).next+1}:=by rw[e1]
 rw[es];refine⟨hj,h.q.set (apB _),h.oa.set _,h.os.set _,by rw[Iu];exact h.st,by rw[fV];exact h.vf,fun i=>?_,fun i Q=>?_,fun i Q=>?_,?_,?_,?_⟩;rw[qp xD];by_cases H:j=i;grind;rw[ay H];exact h.id i;rw[qp xD,nK nV];by_cases H:j=i;grind;rw[ay H];have:=h.lo i G;grind;rw[qp xD,ay G];exact h.Q i G;rw[nK nV,e3];grind;rw[nK nV];have:=h.nx;grind;rw[nK nV,nK akH];grind
end
def arp(u:Nat->Nat)(xs)(i)(Q:i<xs.length)(b q id){K t}{N}(h:cT K t N (Z xs i))(hN:N+1<=9000)(dn:0<=b)(M:b<=t)(n2:0<=q)(hq:q<t)(E:1<=id)(F:id<=K):aL prog 133 [.ra (u i) 0,.int .i64 b,.int .i64 q,.int .i64 id] (aI (fun i=>[u i]) (xs.map HR)) (.tup [.rs 1 ((fT (Z xs i) b q id).1.map ic),.any]) (aI (fun i=>[u i]) ((xs.set i (fT (Z xs i) b q id).2).map HR)):=by
 obtain⟨a,l1⟩:=h.aa6 M;have hx:=a.exp;have ht:=a.top;have hp:(fS (cI (b-(Z xs i).exp).toNat (Z xs i) []).2 q id).held.length<=(cI (b-(Z xs i).exp).toNat (Z xs i) []).2.held.length+1:=by unfold fS;split;exact Pp _ _ _ _;omega
 have H:=aag (cI (b-(Z xs i).exp).toNat (Z xs i) []).2 q id;have aw:hU (fS (cI (b-(Z xs i).exp).toNat (Z xs i) []).2 q id):=by refine⟨?_,?_,fun e hm=>?_,G⟩;unfold fS;split<;>exact a.bn;rw[H];exact a.ok.exp;unfold fS at hm;split at hm;rcases IF hm with hm|⟨e1,_⟩;exact a.ok.keys e hm;rw[e1];exact⟨n2,G⟩;exact a.ok.keys e hm
 exact aro u xs i Q b q id h.ok ⟨dn,G⟩ ⟨n2,G⟩ E aw a.ok (by rw[H];omega) G
def afT{b}{l}(h:∀k∈l,0<=bI b k/\bI b k<64):bitsOf b l<18446744073709551616:=by
 have key:∀(l:List Int)(n:Nat),(∀k∈l,0<=bI b k/\bI b k<64)->n<2 ^64->l.foldl (fun n k=>n|||2 ^(bI b k).toNat) n<2 ^64:=by intro l;induction l with|nil=>simp_all|cons k l ih=>intro n hl hn;have o:=hl k sM;exact ih _ (fun x hx=>hl x (by simp[hx])) (Sp hn (Sn dC G))
 exact key l 0 h dC
end Go.Proofs.YtfkepgkmobgleaaGreatDoor
namespace Go.Air
open Go.Proofs.YtfkepgkmobgleaaGreatDoor Go.Sx Go.Air
def cT.bits{K t}{N}{r}(h:cT K t N r):(∀e∈r.held,0<=bI r.exp e.1/\bI r.exp e.1<64)/\bitsOf r.exp (r.held.map (·.1))<18446744073709551616:=by
 have E:∀e∈r.held,0<=bI r.exp e.1/\bI r.exp e.1<64:=fun e H=>by have a:=(h.keys e H).1;have b:=h.AI e H;unfold bI;omega
 refine⟨E,afT fun k o=>?_⟩;grind
end Go.Air
namespace Go.Proofs.YtfkepgkmobgleaaGreatDoor
open Go.Sx Go.Air Tryz
def aeH(u:Nat->Nat)(xs)(i)(Q:i<xs.length){K t}{N}(h:cT K t N (Z xs i)):aL prog 137 [.ra (u i) 0] (aI (fun i=>[u i]) (xs.map HR)) (.agg [.int .i64 (Z xs i).exp,.int .u64 (bitsOf (Z xs i).exp ((Z xs i).held.map (·.1)):Int)]) (aI (fun i=>[u i]) (xs.map HR)):=
 aeG u xs i Q h.ok fun e H=>(h.bits.1 e H).2
def mC(pk:List Pk)(cz:List bG)(l:List Cd):Prop:=cz.map (fun r=>(r.kind,r.aR,r.fR))=l.map fun d=>((3:Int),(ei pk d.id).aR,d.id)
def mC.snoc{pk}{cz}{l:List Cd}{j}(h:mC pk cz (l.take j))(hj:j<l.length)(r)(E:r.kind=3)(F:r.aR=(ei pk (Z l j).id).aR)(h3:r.fR=(Z l j).id):mC pk (cz++[r]) (l.take (j+1)):=by unfold mC at*;rw[dx,h,tW (b8 hj),dx];simp[E,F,h3]
def mC.len{pk}{cz}{l}(h:mC pk cz l):cz.length=l.length:=by have:=fU List.length h;simpa using this
structure BV(c:bT)(b:Int)(aV:Int->Prop)(nx:Int)(ah:Nat)(ss:List b7)(pk:List Pk)(l:List Cd)(n:Nat)(j:Nat)(cD:List b7)(cz:List bG):Prop where
 vc:j<=n
 os:e_ ah ss cD
 sg:cQ c b aV (Z cD ah) nx
 Qg:mC pk cz (l.take j)
def BV.step{c}{b}{aV}{nx}{ah}{ss}{pk}{l}{n j}{cD}{cz}(h:BV c b aV nx ah ss pk l n j cD cz)(hj:j<n)(hn:n<=l.length)(ha:ah<ss.length)(q)(r) (E:r.kind=3)(F:r.aR=(ei pk (Z l j).id).aR)(h3:r.fR=(Z l j).id):BV c b aV nx ah ss pk l n (j+1) (cD.set ah (mA (Z cD ah) q).2.2) (cz++[r]):=
 ⟨hj,h.os.set _,by rw[nK (by rw[h.os.1];exact ha)];exact h.sg.send q,h.Qg.snoc G r E F h3⟩
structure wB(K Q:Int)(N:Nat)(ah:Nat)(rs:List dj)(sts:List Int)(NL:Nat)(n:Nat)(j:Nat)(fq:List dj)(dK:List Int)(m7:Nat)(R:List bG):Prop where
 vc:j<=n
 os:e_ ah rs fq
 rg:cT K Q (N+j) (Z fq ah)
 st:dK.length=sts.length
 nl:m7<=NL+j*9000
 pl:∀r∈R,plain r
 len:R.length<=j*9000
def I2{slot}{pk}{ids}:∀r∈gx slot pk ids,plain r:=fun r D=>by obtain⟨id,_,rfl⟩:=ew.1 D;exact⟨by simp_all,by simp_all,by simp_all⟩
def wB.step{K Q}{N ah}{rs}{sts}{NL n j}{fq}{dK}{m7}{R}(h:wB K Q N ah rs sts NL n j fq dK m7 R)(hj:j<n)(hN:N+n<=9000)(ha:ah<rs.length) {b q id}(dn:0<=b)(M:b<=Q)(n2:0<=q)(hq:q<Q)(E:1<=id)(F:id<=K)(slot)(pk){iD}(hs:iD.length=dK.length):tk K (fT (Z fq ah) b q id).1/\(fT (Z fq ah) b q id).1.length<=9000/\wB K Q N ah rs sts NL n (j+1) (fq.set ah (fT (Z fq ah) b q id).2) iD (m7+(fT (Z fq ah) b q id).1.length) (R++gx slot pk (fT (Z fq ah) b q id).1):=by
 obtain⟨e1,e2,e3⟩:=h.rg.recv (show N+j+1<=9000 by omega) dn n2 M hq E F;have h4:=h.nl;have h5:=h.len;have h6:(gx slot pk (fT (Z fq ah) b q id).1).length=(fT (Z fq ah) b q id).1.length:=by simp[gx]
 refine⟨e2,G,hj,h.os.set _,?_,hs.trans h.st,by omega,fun r D=>?_,by grind⟩;rw[nK (by rw[h.os.1];exact ha)];exact e1;rcases eJ.1 D with D|D;exact h.pl r D;exact I2 r D
structure oM(c:bT)(b:Int)(aV:Int->Prop)(nx:Int)(ah:Nat)(ss:List b7)(sts:List Int)(m:Nat)(j:Nat)(cD:List b7)(dK:List Int)(R:List bG):Prop where
 qn:j<=m
 os:e_ ah ss cD
 sg:cQ c b aV (Z cD ah) nx
 st:dK.length=sts.length
 pl:∀r∈R,plain r
 len:R.length<=j
def wF(u:Bool)(slot aR id bZ:Int):List bG:=if u then[⟨slot,2,aR,id,bZ,0⟩]else[]
def Ga{u}{slot aR id bZ}:(∀r∈wF u slot aR id bZ,plain r)/\(wF u slot aR id bZ).length<=1:=by unfold wF;cases u;simp_all;refine⟨fun r D=>?_,sM⟩;simp at D;subst D;exact⟨by simp_all,by simp_all,by simp_all⟩
def oM.step{c}{b}{aV}{nx}{ah}{ss}{sts}{m j}{cD}{dK}{R}(h:oM c b aV nx ah ss sts m j cD dK R)(hj:j<m)(ha:ah<ss.length)(q){iD}(hs:iD.length=dK.length)(u)(slot aR id bZ):oM c b aV nx ah ss sts m (j+1) (cD.set ah (mz (Z cD ah) q).2.2) iD (R++wF u slot aR id bZ):=by have h5:=h.len;have h6:=(Ga (u:=u) (slot:=slot) (aR:=aR) (id:=id) (bZ:=bZ)).2;refine⟨hj,h.os.set _,by rw[nK (by rw[h.os.1];exact ha)];exact h.sg.drop q,hs.trans h.st,fun r D=>?_,by grind⟩;rcases eJ.1 D with D|D;exact h.pl r D;exact Ga.1 r D
def atp{pk}{cz}{l l1:List Cd}{n}(hl:l1.length=l.length)(hid:∀i,(Z l1 i).id=(Z l i).id)(h:mC pk cz (l1.take n)):mC pk cz (l.take n):=by unfold mC at*;rw[h];refine jh fun i=>?_;rw[bz,bz,je,je];by_cases Q:i<n;rw[au Q,au Q];by_cases xE:i<l.length;rw[b8 xE,b8 (show i<l1.length by omega)];simp_all;simp_all;grind
structure Ms where
 P:Pl
 slot:Int
 time:Int
 lost:Int
 rl:List Rl
 pk:List Pk
 ac:List Int
 lg:List bG
 tm:List (Int×Nat×Nat)
 ck:Nat
 t:Tb
 NL:Nat
 sts:List Int
 NR:Nat
 qs:List Qu
 sa:List fa
 ss:List b7
 rs:List dj
 ch:List Ch
 cp:List St
def B1(c:bT)(S:Ms):Hp:=[.asn (cM S.P.t S.t),.asn (gn S.P.l S.NL S.sts),.asn (fI S.P.d S.NR),.asn (aI (fun i=>[S.P.q i]) (S.qs.map HQ)),.asn (fL S.P S.sa),.asn (aI (fun i=>[S.P.e i]) (S.ss.map HS)),
 .asn (aI (fun i=>[S.P.r i]) (S.rs.map HR)),.asn (aI (fun i=>[S.P.c i]) (S.ch.map (gi c.kind c.pk c.pn))),.asn (iN S.P S.cp)]
def HM(c:bT)(S:Ms):Hp:=MH c S.P S.slot S.time S.lost S.rl S.qs.length S.sa.length S.pk S.ac S.lg S.tm S.ck++B1 c S
def fk(c:bT)(S:Ms):Hp:=[MF c S.P S.slot S.time S.lost 18 19 20 21 22 23,.dead,.dead,.dead,.dead,.dead,.dead,py S.P,nn S.P S.tm S.ck]++B1 c S++
 [j0 S.rl,nh S.P S.qs.length,nm S.P S.sa.length,nf S.pk,jn S.ac,e5 S.lg]
def bE(t:Tb):List Int:=t.fls.map (·.2.st)
def re(c:bT)(S:Ms):Ctx:=⟨bE S.t,S.t.sts.map (fun s=>Z c.cJ s.iC.toNat),S.pk.map (·.len)⟩
def Qf(pk:List Pk)(f:Nat)(id:Int):Prop:=ie pk id/\(ei pk id).aR=(f:Int)
def Qs(pk:List Pk)(t:Tb)(i:Nat)(id:Int):Prop:=ie pk id/\∃f:Nat,(ei pk id).aR=(f:Int)/\f<t.fls.length/\(cV t.fls f).2.st=(i:Int)
def pt(r:Rl):Prop:=r.st=[]/\r.cls= -1/\r.fst=r.fl/\r.Yd=r.fl/\rv r.fl
structure oN(c:bT)(t:Tb):Prop where
 n:t.fls.length<=32
 m:t.sts.length<=16
 fl:∀f,f<t.fls.length->(cV t.fls f).2.id=(f:Int)/\∃s:Nat,(cV t.fls f).2.st=(s:Int)/\s<t.sts.length
 st:∀i,i<t.sts.length->(Z t.sts i).id=(i:Int)/\1<=(Z t.sts i).w/\(Z t.sts i).w<=16/\∃r:Nat,(Z t.sts i).iC=(r:Int)/\r<c.cJ.length
 rt:t.cJ=(c.cJ.length:Int)
structure d_(c:bT):Prop where
 mode:c.mode=3
 bn:1<=c.bn/\c.bn<=64
 tries:1<=c.tries/\c.tries<=16
 P3:jZ c.kind c.pk c.pn=true
 cJ:1<=c.cJ.length/\c.cJ.length<=12
 lj:jq c.cp c.hZ c.gY=true
 rt:∀r∈c.cJ,ja r.1 r.2=true
 fH:256<=c.fH/\c.fH<=1048576
 cap:c.cap=512
structure aW(c:bT)(z b:Nat)(S:Ms):Prop where
 zb:z<=100/\b<=8900/\1<=b
 slot:0<=S.slot/\S.slot<=z
 time:0<=S.time/\S.time<=1099511627776
 lost:0<=S.lost/\S.lost<=16384
 rules:∀r∈S.rl,pt r
 rln:S.rl.length<=32
 pkn:S.pk.length<=z
 pks:∀i,i<S.pk.length->(Z S.pk i).id=(i:Int)+1/\∃f:Nat,(Z S.pk i).aR=(f:Int)/\f<S.t.fls.length/\f<=3
 tb:oN c S.t
 nq:S.qs.length=S.t.fls.length
 ns:S.sa.length=S.t.sts.length
 nss:S.ss.length=S.sa.length
 nrs:S.rs.length=S.sa.length
 nch:S.ch.length=S.sa.length
 qs:∀f,f<S.qs.length->gu z (Qf S.pk f) (Z S.qs f)
 ss:∀i,i<S.ss.length->cQ c b (Qs S.pk S.t i) (Z S.ss i) (Z S.sa i).next
 rs:∀i,i<S.rs.length->cT S.pk.length b b (Z S.rs i)
 ch:∀i,i<S.ch.length->(Z S.ch i).n<=z/\0<=(Z S.ch i).r/\(Z S.ch i).r<=z
 life:S.sts.length=S.pk.length
 nl:S.NL<=1000000*z
 nr:S.NR<=32*z
 cps:∀e∈S.tm,e.2.1<S.cp.length
 acs:∀f∈S.ac,S.t.has f=true/\∃k,dJ S.tm f=some k
 acd:S.ac.Nodup
 acl:S.ac.length<=32*z
 lgn:S.lg.length<=1000000*z
 log:jj c (re c S) S.lg
 acc:lH (S.pk.map (·.len)) S.lg
def D4{α:Type}(l:List (Int×α×Nat))(k k')(a)(ck):dJ (gb l k a ck) k'=if k'=k then some a else dJ l k':=by
 unfold dJ gb vj;by_cases hh:hC l k=true;rw[au hh];have key:∀l:List (Int×α×Nat),(List.find? (fun e=>e.1==k') (l.map fun e=>if e.1=k then(e.1,a,e.2.2)else e)).map (·.2.1)=if k'=k then(List.find? (fun e=>e.1==k') l).map (fun _=>a)else(List.find? (fun e=>e.1==k') l).map (·.2.1):=by intro l;induction l with|nil=>simp|cons e l ih=>grind
 rw[key];by_cases o:k'=k;rw[au o,au o];subst o;unfold hC at hh;have⟨e,H,F⟩:=sv.1 hh;cases hf:List.find? (fun e=>e.1==k') l<;>grind;simp_all;rw[ay hh,Sl];have hn:∀e∈l,¬e.1=k:=fun e H h=>hh (sv.2 ⟨e,H,by simpa using h⟩);grind
def anG{α:Type}(l:List (Int×α×Nat))(k k'):dJ (iy l k) k'=if k'=k then none else dJ l k':=by unfold dJ iy vj;grind
structure lL(c:bT)(pk:List Pk)(t:Tb)(ss:List b7)(r:Int×Int)(s:Nat)(l:List Cd)(n:Nat):Prop where
 n1:1<=n
 nl:n<=l.length
 n32:n<=32
 len:l.length<=1000
 h_:∀d∈l,yV (Qs pk t s) (Z ss s) d
 sQ:(sQ (l.take n):Int)<=c.bn-((Z ss s).next-(Z ss s).base)
 fits:mi (lens pk (l.take n)) c.cp c.hZ c.gY r.1 r.2=true
def lL.wW{c}{pk}{t}{ss}{r}{s}{l}{n}(h:lL c pk t ss r s l n):∀d∈l.take n,yV (Qs pk t s) (Z ss s) d:=fun d hd=>h.h_ d (Sm hd)
def fu(c:bT)(t:Tb)(s:Nat):Int×Int:=Z c.cJ (Z t.sts s).iC.toNat
abbrev Lx:=Nat×Nat×Nat
def lxE(x:Lx):SV:=.rl x.1 x.2.1 x.2.2
structure mQ(c:bT)(pk:List Pk)(t:Tb)(ss:List b7)(i:Nat)(cd:List (Nat×Nat×List Cd))(lm:List (Int×Lx×Nat))(ready:List Int):Prop where
 rd:∀r∈ready,∃s:Nat,r=(s:Int)/\s<i/\∃x,dJ lm r=some x
 rl:ready.length<=i
 lm:∀k x,dJ lm k=some x->∃s:Nat,k=(s:Int)/\s<i/\∃(j:Nat)(l:List Cd),cd[j]?=some (x.1,x.2.2,l)/\lL c pk t ss (fu c t s) s l x.2.1
section
variable{c:bT} {pk:List Pk} {t:Tb} {ss:List b7} {i:Nat} {cd:List (Nat×Nat×List Cd)} {lm:List (Int×Lx×Nat)} {ready:List Int}
def mQ.init:mQ c pk t ss 0 [] [] []:=⟨fun r D=>by simp at D,aC _,fun k x h=>by simp[dJ,vj]at h⟩
def mQ.skip(h:mQ c pk t ss i cd lm ready)(LD:List (Nat×Nat×List Cd)):mQ c pk t ss (i+1) (cd++LD) lm ready:=by refine⟨fun r D=>?_,Fw h.rl,fun k x o=>?_⟩;have⟨s,a,b,e⟩:=h.rd r D;grind;have⟨s,a,b,j,l,e,f⟩:=h.lm k x o;exact⟨s,a,G,j,l,by grind,f⟩
def mQ.take(h:mQ c pk t ss i cd lm ready){u cap n}{l}(hs:lL c pk t ss (fu c t i) i l n)(ck):mQ c pk t ss (i+1) (cd++[(u,cap,l)]) (gb lm (i:Int) (u,n,cap) ck) (ready++[(i:Int)]):=by refine⟨fun r D=>?_,by have:=h.rl;simp;omega,fun k x o=>?_⟩;rcases eJ.1 D with D|D;have⟨s,a,b,x,e⟩:=h.rd r D;refine⟨s,a,G,?_⟩;rw[D4];grind;simp at D;subst D;exact⟨i,rfl,G,_,by rw[D4,au rfl]⟩;rw[D4]at o;split at o;rename_i e;simp at o;subst o;exact⟨i,e,G,cd.length,l,sM,hs⟩;have⟨s,a,b,j,l,e,f⟩:=h.lm k x o;exact⟨s,a,G,j,l,by grind,f⟩
end
def af9{ls}{p b t k aa}(h:0<q7 ls p b t k aa):∃n:Nat,q7 ls p b t k aa=(n:Int)/\1<=n/\n<=ls.length/\n<=32/\mi (ls.take n) p b t k aa=true:=by
 by_cases M:wO ls p b t k aa;have⟨e1,_,_⟩:=TD M;have⟨E,F⟩:=afI (ls:=ls) (p:=p) (b:=b) (t:=t) (k:=k) (aa:=aa) (sL ls);have hm:sL ls<=ls.length/\sL ls<=32:=by unfold sL;split<;>omega
 have D:qZ ls p b t k aa=pO ls p b t k aa (sL ls):=rfl;have lr:=F.elim (fun F=>absurd F G) id;have hn:qZ ls p b t k aa<=ls.length:=by omega
 refine⟨qZ ls p b t k aa,e1,G,hn,G,?_⟩;have hp:=(P0 M.2.2.2 hn).2 lr;simp[mi,M.1,M.2.1,hp];rw[(TC M).1]at h;omega
