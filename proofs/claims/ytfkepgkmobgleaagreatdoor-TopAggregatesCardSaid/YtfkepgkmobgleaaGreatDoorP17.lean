/- Lemmas for TopZ; tactic blocks in binders fill in some arguments. -/
import Derived.Test.YtfkepgkmobgleaaGreatDoorP16
set_option linter.all false
noncomputable section
set_option maxRecDepth 100000
set_option maxHeartbeats 0
namespace Go.Proofs.YtfkepgkmobgleaaGreatDoor
open Go.Sx Tryz
def TS{a b}{i}(h:i<a.length):b9 (a++b) i=b9 a i:=by grind
def TT{a b}{i}(h:a.length<=i):b9 (a++b) i=b9 b (i-a.length):=by grind
def aum(n):(jd n).length=2:=rfl
def auk{n}(h0:0<=n)(E:n<=65535):b9 (jd n) 0=n/256:=nt (z:=n/256) G G
def aul{n}(h0:0<=n)(E:n<=65535):b9 (jd n) 1=n % 256:=nt (z:=n % 256) G G
def EH(h):(gf h).length=10+h.st.length:=by simp[gf,jd];omega
def Jl(h):(gO h).length=12+h.st.length:=by rw[gO,c_,EH,aum];omega
def aan(h)(hp:jO h)(hn:h.st.length<=255):b9 (gf h) 0=165/\b9 (gf h) 1=1/\b9 (gf h) 2=h.c/\b9 (gf h) 3=h.p/256/\b9 (gf h) 4=h.p % 256/\b9 (gf h) 5=h.l/256/\b9 (gf h) 6=h.l % 256/\b9 (gf h) 7=h.f/256/\b9 (gf h) 8=h.f % 256/\b9 (gf h) 9=(h.st.length:Int):=by
 unfold jO at hp;have e:((UInt8.ofNat h.st.length).toNat:Int)=(h.st.length:Int):=by have:=nt (z:=(h.st.length:Int)) G G;simpa using this
 exact⟨rfl,rfl,nt (z:=h.c) G G,nt (z:=h.p/256) G G,nt (z:=h.p % 256) G G,nt (z:=h.l/256) G G,nt (z:=h.l % 256) G G,
  nt (z:=h.f/256) G G,nt (z:=h.f % 256) G G,e⟩
def aao(h):(gO h).take ((gO h).length-2)=gf h:=by rw[Jl,gO,show 12+h.st.length-2=(gf h).length from by rw[EH];omega,List.take_left]
def arl(h):kq (gO h) ((gO h).length-2)=jJ (gf h):=by
 have r:=LH (gf h);have e:(gO h).length-2=(gf h).length:=by rw[Jl,EH];omega
 rw[e,kq,gO,TT (aC _),TT G,we,show(gf h).length+1-(gf h).length=1 from by omega,auk G G,aul G G];omega
def apU(h)(hv:ib h=true):gd (gO h)=(h,0):=by
 have⟨hn,hp⟩:=C0 hv;have hl:=Pv hn;have⟨fb,b1,c0,i6,qY,Lr,Ls,afA,afB,afC⟩:=aan h hp G;have hlen:=Jl h;have hlB:=EH h;have xd:∀i,i<10->b9 (gO h) i=b9 (gf h) i:=fun i Q=>TS G;have lQ:tI (gO h)=h:=by
  unfold tI;rw[aao];have e0:(gf h).drop 10=h.st:=rfl;have e3:kq (gO h) 3=h.p:=by unfold kq;rw[xd 3 G,xd 4 G,i6,qY];omega
  have GG:kq (gO h) 5=h.l:=by unfold kq;rw[xd 5 G,xd 6 G,Lr,Ls];omega
  have LE:kq (gO h) 7=h.f:=by unfold kq;rw[xd 7 G,xd 8 G,afA,afB];omega
  rw[e0,e3,GG,LE,xd 2 G,c0]
 rw[ZR (s:=gO h) G rfl (by simp_all) (by rw[arl,aao]) (by rw[lQ];exact hv),lQ]
def ZS{s}(h:(gd s).2=0):12<=s.length/\s.take 2=[165,1]/\12+b9 s 9=(s.length:Int)/\kq s (s.length-2)=jJ (s.take (s.length-2))/\ib (tI s)=true/\(gd s).1=tI s:=by unfold gd at h⊢;by_cases E:s.length<12<;>grind
structure Cf where
 mo:Int
 an:Int
 ec:Int
 pk:Int
 AV:Int
 pn:Int
 cp:Int
 hZ:Int
 gY:Int
 tr:Int
 Bn:Int
 AW:Int
 cy:Int
 AY:Int
 rs:List (Int×Int)
structure Ev where
 k:Int
 a:Int
 b:Int
 c:Int
 s:List UInt8
 fl:List Bool
abbrev A7(r:Int×Int):List SV:=[.int .i64 r.1,.int .i64 r.2]
abbrev Gi(b:Bool):List SV:=[.bool b]
abbrev TZ(c:Cf):List SV:=[.int .i64 c.mo,.int .i64 c.an,.int .i64 c.ec,.int .i64 c.pk,.int .i64 c.AV,.int .i64 c.pn,.int .i64 c.cp,.int .i64 c.hZ,.int .i64 c.gY,.int .i64 c.tr,.int .i64 c.Bn,.int .i64 c.AW,.int .i64 c.cy,.int .i64 c.AY,.rs 2 (c.rs.map A7)]
abbrev T2(c:Cf):SV:=.agg (TZ c)
abbrev ke(e:Ev):List SV:=[.int .i64 e.k,.int .i64 e.a,.int .i64 e.b,.int .i64 e.c,.str e.s,.rs 1 (e.fl.map Gi)]
def yv(r:Int×Int):Prop:=1<=r.1/\r.1<=10000000/\0<=r.2/\r.2<=100000
instance(r:Int×Int):Decidable (yv r):=by unfold yv;infer_instance
def qV(n d:Int):Prop:=0<n/\n<d/\d<=1048576
instance(n d:Int):Decidable (qV n d):=by unfold qV;infer_instance
def yn(k q n:Int):Prop:=(k=0\/k=2)/\q=0/\n=0\/k=1/\1<=n/\n<=32/\1<=q/\q<=n
instance(k q n:Int):Decidable (yn k q n):=by unfold yn;infer_instance
def Cm(p b a:Int):Prop:=1<=p/\p<=32/\1<=b/\b<=262144/\1<=a/\a<=1048576
instance(p b a:Int):Decidable (Cm p b a):=by unfold Cm;infer_instance
def wX(c:Cf):Prop:=1<=c.mo/\c.mo<=3/\qV c.an c.ec/\yn c.pk c.AV c.pn/\Cm c.cp c.hZ c.gY/\1<=c.tr/\c.tr<=16/\1<=c.Bn/\c.Bn<=64/\256<=c.AW/\c.AW<=1048576/\1<=c.cy/\c.cy<=512/\1<=c.AY/\c.AY<=1099511627776/\1<=c.rs.length/\c.rs.length<=12
instance(c:Cf):Decidable (wX c):=by unfold wX;infer_instance
def ou(l:List (Int×Int)):Bool:=l.all fun r=>decide (yv r)
def kJ(c:Cf):Bool:=decide (wX c)&&ou c.rs
def agy{c}(h:¬wX c):kJ c=false:=by unfold kJ;simp_all
def agz{c}(h:ou c.rs=false):kJ c=false:=by unfold kJ;simp_all
def T4{c}(h:wX c)(D:ou c.rs=true):kJ c=true:=by unfold kJ;simp_all
def agx{c}{q}[Decidable q](D:ou c.rs=true)(h:q↔wX c):decide q=kJ c:=by unfold kJ;simp_all
def T3{c}(h:kJ c=true):wX c/\ou c.rs=true:=by unfold kJ at h;simp_all
def Cz(e:Ev):Prop:=1<=e.k/\e.k<=13/\0<=e.a/\e.a<=1099511627776/\0<=e.b/\e.b<=1099511627776/\0<=e.c/\e.c<=1099511627776/\e.s.length<=255/\e.fl.length<=16
instance(e:Ev):Decidable (Cz e):=by unfold Cz;infer_instance
def UO(e:Ev):Bool:=decide (Cz e)
def asg{l}{i}(h:i<l.length)(M:¬yv (l.getD i (0,0))):ou l=false:=by unfold ou;grind
def asi{l:List (Int×Int)}{i}(h:i<l.length)(D:ou (l.take i)=true)(M:yv (l.getD i (0,0))):ou (l.take (i+1))=true:=by unfold ou at*;rw[Ks,List.all_append,D];simp_all
def asj{l:List (Int×Int)}{i}(h:i<l.length):(l.map A7)[(i:Int).toNat]?=some (A7 (l.getD i (0,0))):=by simp_all
def abG(P:Program)(T:aG)(m:Nat)(c:Code)(K:mN)(n:Nat):Fr->Hp->Prop:=
 Nat.rec (fun _ _=>False) (fun _ ih J h=>pS P T m c J h fun x J h=>match x with
  |.normal=>ih J h
  |.exit i=>K (.exit i) J h
  |.ret=>K .ret J h) n
def auq{P}{T}(hT:bl P T){m}{c}{K}{w0}{X}{b0}(n):∀{J h},abG P T m c K n J h->∀w g tmps,Inv w X g h->cC w (Ex X g) g J tmps->Step m w0 b0 w g->Code.rounds P c (jm m X w0 b0 K) n ⟨tmps,[]⟩ w:=by induction n with|zero=>intro J h o;cases o|succ n ih=>intro J h o w g tmps O hF hS;rw[KC];refine j8 (zx hT c o w X g tmps O hF) fun e a' m5 hq=>?_;have⟨li,y,F2,F,c8,ix,hp,be,lW,b_⟩:=hq;cases e<;>cases ix;have⟨t2,zA⟩:=a';subst li;exact ih hp m5 c8 t2 be lW (hS.trans b_);rename_i i;exact⟨li,.exit i,F2,F,c8,rfl,hp,be,lW,hS.trans b_⟩;exact⟨li,.ret,F2,F,c8,rfl,hp,be,lW,hS.trans b_⟩
def b6.unr{P}{T}(hT:bl P T){m}{c}{J}{h}{K}(n)(o:abG P T m c K n J h):b6 P m c J h K:=
 ⟨fun w _ g tmps O hF=>wp_loop_rounds n (auq hT n o w g tmps O hF (Step.refl _ _ _))⟩
def yC{b:Bool}{p:Prop}[Decidable p](h:b=true↔p):b=decide p:=by by_cases hp:p;rw[qM hp];exact h.2 hp;rw[uh hp];cases b with|true=>exact absurd (h.1 rfl) hp|false=>rfl
def Kb{ab:Prop}(k:ab:=by exact gH (yC (by unfold yv;simp<;>omega))):ab:=k
def asl(k aa:Int):aY prog 29 [.agg [.int .i64 k,.int .i64 aa]] (· =.bool (decide (yv (k,aa)))):=by refine .ar aj func29 Y rfl trivial ?_;refine B ?_;refine dT (fun _=>B ?_) fun _=>B ?_;refine dT (fun _=>B ?_) fun _=>B ?_;refine dT (fun _=>B ?_) fun _=>B ?_;exact Kb;exact Kb;exact Kb;exact Kb
def ae0(k aa:Int):aY prog 35 [.agg [.int .i64 k,.int .i64 aa]] (· =.bool (decide (qV k aa))):=by refine .ar aj func35 Y rfl trivial ?_;refine B ?_;refine dT (fun _=>B ?_) fun _=>B ?_;refine dT (fun _=>B ?_) fun _=>B ?_;exact gH (yC (by unfold qV;simp<;>omega));exact gH (yC (by unfold qV;simp<;>omega));exact gH (yC (by unfold qV;simp<;>omega))
def Fj{ab:Prop}(k:ab:=by exact gH (yC (by unfold yn;simp<;>omega))):ab:=k
def ade{ab:Prop}(k:ab:=by refine dT (fun _=>B ?_) fun _=>B ?_;exact Fj;exact Fj):ab:=k
def apW(k q n:Int):aY prog 36 [.agg [.int .i64 k,.int .i64 q,.int .i64 n]] (· =.bool (decide (yn k q n))):=by refine .ar aj func36 Y rfl trivial ?_;refine B ?_;refine dT (fun _=>B ?_) fun _=>B ?_;exact ade;refine dT (fun _=>B ?_) fun _=>B ?_;exact ade;refine dT (fun _=>B ?_) fun _=>B ?_;refine dT (fun _=>B ?_) fun _=>B ?_;refine dT (fun _=>B ?_) fun _=>B ?_;exact ade;exact Fj;exact Fj;exact Fj
def J5{ab:Prop}(k:ab:=by exact gH (yC (by unfold Cm;simp<;>omega))):ab:=k
def ahm(p b a:Int):aY prog 28 [.agg [.int .i64 p,.int .i64 b,.int .i64 a]] (· =.bool (decide (Cm p b a))):=by refine .ar aj func28 Y rfl trivial ?_;refine B ?_;refine dT (fun _=>B ?_) fun _=>B ?_;refine dT (fun _=>B ?_) fun _=>B ?_;refine dT (fun _=>B ?_) fun _=>B ?_;refine dT (fun _=>B ?_) fun _=>B ?_;refine dT (fun _=>B ?_) fun _=>B ?_;exact J5;exact J5;exact J5;exact J5;exact J5;exact J5
def adN{ab:Prop}(k:ab:=by exact gH (yC (by unfold Cz;simp<;>omega))):ab:=k
def aiM(e:Ev):aY prog 25 [.agg (ke e)] (· =.bool (UO e)):=by refine .ar aj func25 Y rfl trivial ?_;have hm:(e.fl.map Gi).length=e.fl.length:=bh ..;refine B ?_;refine b6.unr aj 4 ?_;refine B ?_;refine⟨sM,?_⟩;refine B ?_;refine⟨_,rfl,?_⟩;refine B ?_;refine dT (fun _=>B ?_) fun _=>B ?_;exact adN;refine dT (fun _=>B ?_) fun _=>B ?_;exact adN;refine⟨by(refine⟨?_,?_⟩<;>simp[yS]),?_⟩;refine B ?_;refine⟨_,rfl,?_⟩;refine B ?_;refine dT (fun _=>B ?_) fun _=>B ?_;exact adN;refine dT (fun _=>B ?_) fun _=>B ?_;exact adN;refine⟨by(refine⟨?_,?_⟩<;>simp[yS]),?_⟩;refine B ?_;refine⟨_,rfl,?_⟩;refine B ?_;refine dT (fun _=>B ?_) fun _=>B ?_;exact adN;refine dT (fun _=>B ?_) fun _=>B ?_;exact adN;refine dT (fun _=>B ?_) fun _=>B ?_;refine dT (fun _=>B ?_) fun _=>B ?_;refine dT (fun _=>B ?_) fun _=>B ?_;exact adN;exact adN;exact adN;exact adN
def lE{ab:Prop}(k:ab:=by (refine gH (agy (fun h=>?_)).symm;obtain⟨E,F,h3,h4,h5,h6⟩:=h;first|omega|exact absurd h3 ‹_›|exact absurd h4 ‹_›|exact absurd h5 ‹_›)):ab:=k
def agC(c:Cf)(hl:c.rs.length<=9223372036854775807):aY prog 16 [T2 c] (· =.bool (kJ c)):=by
 refine .ar aj func16 Y rfl trivial ?_;have hm:(c.rs.map A7).length=c.rs.length:=bh ..;refine B ?_;refine b6.cq aj 101 (fun x:{i:Nat//i<=c.rs.length/\ou (c.rs.take i)=true}=>[(1,.ptr 0 0),(6,.rs 2 (c.rs.map A7)),(7,.int .i64 ((c.rs.map A7).length:Int)),(8,.int .i64 (x.1:Int))])
  (fun _=>[.fix 33 (TZ c)]) (fun x=>c.rs.length-x.1) ⟨0,G,rfl⟩ (.of [some 0] Y ?_) ?_
 exact wt;intro x;have hx:=x.2;refine B ?_;refine⟨fun M=>?_,fun M=>?_⟩;have M:x.1<c.rs.length:=by simp only[bs]at M;omega
 refine B ?_;refine⟨_,asj M,?_⟩;refine B ?_;refine(asl _ _).call (ri (B ?_));refine⟨fun lZ=>?_,fun lZ=>?_⟩;simp only[bs,bX,dN,dO,c5,dP,bR,dG,dH,dQ,dk,c6,dR,dL,dS,dh,ne_eq,dZ]at lZ;refine B ?_;refine .same ?_;refine B ?_;exact gH (agz (asg M ‹_›)).symm;simp only[bs,bX,dN,dO,c5,dP,bR,dG,dH,dQ,dk,c6,dR,dL,dS,dh,ne_eq,dZ]at lZ;refine B ?_;(refine⟨⟨x.1+1,G,asi M hx.2 ‹_›⟩,by show c.rs.length-(x.1+1)<c.rs.length-x.1;omega,.of [some 0] Y ?_⟩);refine B ?_;exact sr;have D:ou c.rs=true:=by
  have M:c.rs.length<=x.1:=by simp only[bX]at M;omega
  rw[<-j9 M];exact hx.2
 refine B ?_;refine .same ?_;refine B ?_;refine dT (fun _=>B ?_) fun _=>B ?_;refine dT (fun _=>B ?_) fun _=>B ?_;refine(ae0 _ _).call (ri (B ?_));refine dT (fun _=>B ?_) fun _=>B ?_;refine(apW _ _ _).call (ri (B ?_));refine dT (fun _=>B ?_) fun _=>B ?_;refine(ahm _ _ _).call (ri (B ?_));refine dT (fun _=>B ?_) fun _=>B ?_;refine dT (fun _=>B ?_) fun _=>B ?_;refine dT (fun _=>B ?_) fun _=>B ?_;refine dT (fun _=>B ?_) fun _=>B ?_;refine dT (fun _=>B ?_) fun _=>B ?_;refine dT (fun _=>B ?_) fun _=>B ?_;refine dT (fun _=>B ?_) fun _=>B ?_;refine dT (fun _=>B ?_) fun _=>B ?_;refine dT (fun _=>B ?_) fun _=>B ?_;refine dT (fun _=>B ?_) fun _=>B ?_;refine dT (fun _=>B ?_) fun _=>B ?_;refine dT (fun _=>B ?_) fun _=>B ?_;(refine gH (agx D ?_);constructor;(intro q;exact⟨G,G,‹_›,‹_›,‹_›,G,G,G,G,G,G,G,G,G,G,G,G⟩);(intro h;obtain⟨E,F,h3,h4,h5,h6⟩:=h;omega));exact lE;exact lE;exact lE;exact lE;exact lE;exact lE;exact lE;exact lE;exact lE;exact lE;exact lE;exact lE;exact lE;exact lE;exact lE;exact lE
def ux(s s':SV):Prop:=∀w L g v,af w L g s v->af w L g s' v
def wj(b b':bK):Prop:=∀w L g e,aB w L g b e->aB w L g b' e
def ux.refl(s):ux s s:=fun _ _ _ _ h=>h
def ux.nil{z}:ux .nils (.rs z []):=fun w L g v h=>by cases h;exact .hJ (cx _)
def pL(l l':List SV):Prop:=l.length=l'.length/\∀(i:Nat)(s s':SV),l[i]?=some s->l'[i]?=some s'->ux s s'
def pL.nil:pL [] []:=⟨rfl,sM⟩
def pL.cons{s s'}{l l'}(h:ux s s')(hl:pL l l'):pL (s::l) (s'::l'):=⟨by simp[hl.1],fun i a a' ha g6=>by cases i with|zero=>simp_all|succ i=>exact hl.2 i a a' (by simpa using ha) (by simpa using g6)⟩
def pL.refl(l):pL l l:=⟨rfl,fun i s s' h h'=>by rw[h]at h';simp at h';subst h';exact .refl _⟩
def wj.refl(b):wj b b:=fun _ _ _ _ h=>h
def wo(h h':Hp):Prop:=h.length=h'.length/\∀(i:Nat)(b b':bK),h[i]?=some b->h'[i]?=some b'->wj b b'
end Go.Proofs.YtfkepgkmobgleaaGreatDoor
namespace Go.Sx
open Go.Proofs.YtfkepgkmobgleaaGreatDoor Go.Sx Go.Air
def Inv.gR{w}{X}{g}{h h'}(O:Inv w X g h)(hl:wo h h'):Inv w X g h':=
 ⟨O.len.trans hl.1,fun i b e M H=>by
  have Q:i<h.length:=by rw[hl.1];exact(ao.1 M).1
  exact hl.2 i _ b (aD Q) M _ _ _ _ (O.ok i _ e (aD Q) H),O.lt,O.inj,O.cU,O.df⟩
end Go.Sx
namespace Go.Proofs.YtfkepgkmobgleaaGreatDoor
open Go.Sx

end Go.Proofs.YtfkepgkmobgleaaGreatDoor
namespace Go.Sx
open Go.Proofs.YtfkepgkmobgleaaGreatDoor Go.Sx Go.Air
def aY.gR{P}{f}{args}{R R'}(hs:aY P f args R)(hw:∀s,R s->∃s',R' s'/\ux s s'):aY P f args R':=
 ⟨fun h K o=>⟨fun w X g vs O D=>((hs.ok h (fun s h'=>R s/\h'=h) fun s hs=>⟨hs,rfl⟩).ok w X g vs O D).mono fun v w'⟨s,h',V,⟨hR,e⟩,bb,aE,hS⟩=>by
  subst e
  have⟨s',MG,kV⟩:=hw s hR
  exact⟨s',_,V,o s' MG,kV _ _ _ _ bb,aE,hS⟩⟩⟩
end Go.Sx
namespace Go.Proofs.YtfkepgkmobgleaaGreatDoor
open Go.Sx Go.Air Tryz
def wH:List (Int×Int):=[(1,2),(9,10),(1,10),(2,3),(1048575,1048576),(1,1048576)]
def wI(ls:List Int)(ah:Int):Int×Int:=wH.getD (cr ls ah 6).toNat (0,0)
def aeZ{i:Int}(h0:0<=i)(E:i<6):(wH.map fun p=>[SV.int .i64 p.1,SV.int .i64 p.2])[i.toNat]?=some [SV.int .i64 (wH.getD i.toNat (0,0)).1,SV.int .i64 (wH.getD i.toNat (0,0)).2]:=by
 have hl:i.toNat<wH.length:=by show i.toNat<6;omega
 simp_all
def ajy(ls)(ah)(h0:0<=ah)(E:ah<9223372036854775800):eL prog 13 [.ptr 0 0] [eP ls ah] fun s I=>s=.agg [.int .i64 (wI ls ah).1,.int .i64 (wI ls ah).2]/\I=[eP ls (ah+1)]:=by refine .ar aj func13 Y rfl trivial (B ?_);refine(e6 _ _ _ G G G).call [0] dC Y1 Y1 (rj (B ?_));refine⟨by exact⟨eR _ _ _,eH _ _ _ G⟩,B ?_⟩;refine⟨_,aeZ (eR _ _ _) (eH _ _ _ dC),?_⟩;exact adh
def lT(ls:List Int)(a:Int):Int:=1+cr ls (a+1) 5
def rB(ls:List Int)(a:Int):Int:=if cr ls a 3=0 then 2 else if cr ls a 3=1 then 1 else 0
def rz(ls:List Int)(a:Int):Int:=if cr ls a 3=0 then 0 else if cr ls a 3=1 then 1+cr ls (a+1+1) (lT ls a)else 0
def rA(ls:List Int)(a:Int):Int:=if cr ls a 3=0 then 0 else if cr ls a 3=1 then lT ls a else 0
def iv(ls:List Int)(a:Int):Int:=if cr ls a 3=0 then a+1 else if cr ls a 3=1 then a+1+1+1 else a+1
def Vk(ls)(a):1<=lT ls a/\lT ls a<=5:=by have n0:=eR ls (a+1) 5;have n1:=eH ls (a+1) 5 G;unfold lT;omega
def apl(ls)(a):yn (rB ls a) (rz ls a) (rA ls a):=by obtain⟨r0,r1⟩:=Vk ls a;have n0:=eR ls (a+1+1) (lT ls a);have n1:=eH ls (a+1+1) (lT ls a) G;unfold yn rB rz rA;omega
def Vl(ls)(a):a<=iv ls a/\iv ls a<=a+3:=by unfold iv;omega
def ajS(ls)(a)(h0:0<=a)(E:a<9223372036854775000):eL prog 14 [.ptr 0 0] [eP ls a] fun s I=>s=.agg [.int .i64 (rB ls a),.int .i64 (rz ls a),.int .i64 (rA ls a)]/\I=[eP ls (iv ls a)]:=by
 refine .ar aj func14 Y rfl trivial ?_;have n0:=eR ls (a+1) 5;have n1:=eH ls (a+1) 5 G;obtain⟨r0,r1⟩:=Vk ls a;have rY:=eR ls (a+1+1) (lT ls a);have m1:=eH ls (a+1+1) (lT ls a) G;have w1:IntKind.i64.wrap (1+cr ls (a+1) 5)=lT ls a:=by unfold lT;rw[a_ _ G G]
 have w2:IntKind.i64.wrap (1+cr ls (a+1+1) (lT ls a))=1+cr ls (a+1+1) (lT ls a):=a_ _ G G;refine B ?_;refine(e6 _ _ _ G G G).call [0] dC Y1 Y1 (rj ?_);by_cases h0:cr ls a 3=0;have e1:rB ls a=2:=by simp[rB,h0]
 have e2:rz ls a=0:=by simp[rz,h0]
 have e3:rA ls a=0:=by simp[rA,h0]
 have rm:iv ls a=a+1:=by simp[iv,h0]
 rw[e1,e2,e3,rm];conv=>whnf
 refine gX (by simp_all) ?_;conv=>whnf
 simp_all;by_cases E:cr ls a 3=1;have e1:rB ls a=1:=by simp[rB,E]
 have e2:rz ls a=1+cr ls (a+1+1) (lT ls a):=by simp[rz,E]
 have e3:rA ls a=lT ls a:=by simp[rA,E]
 have rm:iv ls a=a+1+1+1:=by simp[iv,E]
 rw[e1,e2,e3,rm];conv=>whnf
 refine dV (by simp_all) ?_;conv=>whnf
 refine gX (by simp_all) (B ?_);refine(e6 _ _ _ G G G).call [0] dC Y1 Y1 (rj ?_);refine B ?_;refine(e6 _ _ _ G G G).call [0] dC Y1 Y1 (rj (B ?_));simp_all;have e1:rB ls a=0:=by simp[rB,h0,E]
 have e2:rz ls a=0:=by simp[rz,h0,E]
 have e3:rA ls a=0:=by simp[rA,h0,E]
 have rm:iv ls a=a+1:=by simp[iv,h0,E]
 rw[e1,e2,e3,rm];conv=>whnf
 refine dV (by simp_all) ?_;conv=>whnf
 refine dV (by simp_all) ?_;conv=>whnf
 simp_all
def Rj:List Int:=[1,2,4,64]
def Qb:List Int:=[256,1000,5000]
def LQ:List Int:=[512,20,6]
def Qi:List Int:=[1099511627776,1,268435456,1073741824]
def Ci(ls:List Int)(a m:Int):Cf:=⟨m,(wI ls a).1,(wI ls a).2,rB ls (a+1),rz ls (a+1),rA ls (a+1),1+cr ls (iv ls (a+1)) 4,4096+2000*cr ls (iv ls (a+1)+1) 3,1048576,
 1+cr ls (iv ls (a+1)+1+1) 4,Rj.getD (cr ls (iv ls (a+1)+1+1+1) 4).toNat 0,Qb.getD (cr ls (iv ls (a+1)+1+1+1+1) 3).toNat 0,LQ.getD (cr ls (iv ls (a+1)+1+1+1+1+1) 3).toNat 0,Qi.getD (cr ls (iv ls (a+1)+1+1+1+1+1+1) 4).toNat 0,[(6000,100),(54000,50)]⟩
def Ce(ls:List Int)(a:Int):Int:=iv ls (a+1)+1+1+1+1+1+1+1
def ajC(ls)(a m)(h0:0<=a)(E:a<9223372036854774000):eL prog 5 [.ptr 0 0,.int .i64 m] [eP ls a] fun s I=>s=T2 (Ci ls a m)/\I=[eP ls (Ce ls a)]:=by
 refine .ar aj func5 Y rfl trivial ?_;obtain⟨b,M⟩:∃b,b=iv ls (a+1):=⟨_,rfl⟩;have D:=Vl ls (a+1);rw[<-M]at D;unfold Ci Ce;rw[<-M];have a0:=eR ls b 4;have a1:=eH ls b 4 G;have fb:=eR ls (b+1) 3;have b1:=eH ls (b+1) 3 G;have gc:=eR ls (b+1+1) 4;have c1:=eH ls (b+1+1) 4 G;have zz:=eR ls (b+1+1+1) 4;have sR:=eH ls (b+1+1+1) 4 G;have e0:=eR ls (b+1+1+1+1) 3;have e1:=eH ls (b+1+1+1+1) 3 G;have f0:=eR ls (b+1+1+1+1+1) 3;have f1:=eH ls (b+1+1+1+1+1) 3 G;have g0:=eR ls (b+1+1+1+1+1+1) 4;have g1:=eH ls (b+1+1+1+1+1+1) 4 G;have hp:=ajS ls (a+1) G G;rw[<-M]at hp;have w1:IntKind.i64.wrap (1+cr ls b 4)=1+cr ls b 4:=a_ _ G G;have w2:IntKind.i64.wrap (4096+IntKind.i64.wrap (2000*cr ls (b+1) 3))=4096+2000*cr ls (b+1) 3:=by rw[a_ (2000*cr ls (b+1) 3) G G,a_ _ G G]
 have Rh:IntKind.i64.wrap (1+cr ls (b+1+1) 4)=1+cr ls (b+1+1) 4:=a_ _ G G;refine B ?_;refine(ajy ls a G G).call [0] dC trivial Y1 (rj (B ?_));refine hp.call [0] dC trivial Y1 (rj (B ?_));refine(e6 _ _ _ G G G).call [0] dC Y1 Y1 (rj (B ?_));refine(e6 _ _ _ G G G).call [0] dC Y1 Y1 (rj ?_);conv=>whnf
 refine cf.fQ mixed aj ?_;conv=>whnf
 refine(e6 _ _ _ G G G).cA [0] dC rfl Y1 Y1 (B ?_);refine(e6 _ _ _ G G G).cA [0] dC rfl Y1 Y1 (B ?_);refine⟨_,xg (l:=Rj) zz sR,B ?_⟩;refine(e6 _ _ _ G G G).cA [0] dC rfl Y1 Y1 (B ?_);refine⟨_,xg (l:=Qb) e0 e1,B ?_⟩;refine(e6 _ _ _ G G G).cA [0] dC rfl Y1 Y1 (B ?_);refine⟨_,xg (l:=LQ) f0 f1,B ?_⟩;refine(e6 _ _ _ G G G).call [0] dC Y1 Y1 (rj (B ?_));refine⟨_,xg (l:=Qi) g0 g1,?_⟩;conv=>whnf
 simp_all
def agA(ls)(a m)(rY:1<=m)(m1:m<=3):kJ (Ci ls a m)=true:=by
 obtain⟨b,M⟩:∃b,b=iv ls (a+1):=⟨_,rfl⟩;have a0:=eR ls b 4;have a1:=eH ls b 4 G;have fb:=eR ls (b+1) 3;have b1:=eH ls (b+1) 3 G;have gc:=eR ls (b+1+1) 4;have c1:=eH ls (b+1+1) 4 G;have d:=xf (l:=Rj) (p:=fun x=>1<=x/\x<=64) dC (eR ls (b+1+1+1) 4) (eH ls (b+1+1+1) 4 G);have e:=xf (l:=Qb) (p:=fun x=>256<=x/\x<=1048576) dC (eR ls (b+1+1+1+1) 3) (eH ls (b+1+1+1+1) 3 G);have f:=xf (l:=LQ) (p:=fun x=>1<=x/\x<=512) dC (eR ls (b+1+1+1+1+1) 3) (eH ls (b+1+1+1+1+1) 3 G);have u:=xf (l:=Qi) (p:=fun x=>1<=x/\x<=1099511627776) dC (eR ls (b+1+1+1+1+1+1) 4) (eH ls (b+1+1+1+1+1+1) 4 G);have aA:qV (wI ls a).1 (wI ls a).2:=by
  have E:=eH ls a 6 G;unfold wI;obtain⟨k,o⟩:∃k,k=(cr ls a 6).toNat:=⟨_,rfl⟩;rw[<-o];have:k<6:=by omega
  have hd:∀k,k<6->qV (wH.getD k (0,0)).1 (wH.getD k (0,0)).2:=by unfold qV;decide
  exact hd k this
 unfold Ci;rw[<-M];refine T4 ⟨rY,m1,aA,apl ls (a+1),⟨?_,?_,?_,?_,?_,?_⟩,?_,?_,d.1,d.2,e.1,e.2,f.1,f.2,u.1,u.2,by simp_all,by simp_all⟩ (by show ou [(6000,100),(54000,50)]=true;decide);all_goals grind
def agw(ls)(a):a+9<=Ce ls a/\Ce ls a<=a+11:=by
 have:=Vl ls (a+1);have e:a+1+1<=iv ls (a+1):=by unfold iv;split<;>(try split)<;>omega
 unfold Ce;omega
open Go.Air
def nx(ls)(a n)(hn:n<=1000000):0<=cr ls a n/\cr ls a n<=1000000:=by refine⟨eR ls a n,?_⟩;by_cases h:0<n;have:=eH ls a n h;omega;unfold cr;omega
def u8n(k:Nat)(h:k<=255):fX (UInt8.ofNat k)=[SV.int .u8 (k:Int)]:=by have:=nt (z:=(k:Int)) G G;rw[gh]at this;unfold fX;rw[this]
def Qx(f:Nat):List UInt8:=(([42,32,42,32]++[UInt8.ofNat (48+f)])++[32,62])++[UInt8.ofNat (48+f)]
def B0(s:List UInt8):Prop:=s.length<=300/\((gd s).2=0->(gd s).1.st∈gC)
structure nE(e:Ev):Prop where
 arr:e.k=2->B0 e.s
 EZ:e.k=4->e.s∈gC
 rul:e.k=6->e.s∈gC\/ ∃f:Nat,f<=3/\e.s=Qx f
 a:0<=e.a/\e.a<=1000000
def UP{s}(h:B0 s):nE ⟨2,0,0,0,s,[]⟩:=⟨fun _=>h,fun e=>absurd e (by simp_all),fun e=>absurd e (by simp_all),by simp_all⟩
def aix{a b c}{s}(h:s∈gC)(ha:0<=a/\a<=1000000):nE ⟨4,a,b,c,s,[]⟩:=⟨fun e=>absurd e (by simp_all),fun _=>h,fun e=>absurd e (by simp_all),ha⟩
def aiw{f}(h:f<=3):nE ⟨6,0,0,0,Qx f,[]⟩:=⟨fun e=>absurd e (by simp_all),fun e=>absurd e (by simp_all),fun _=>.inr ⟨f,h,rfl⟩,by simp_all⟩
def zF{k a b c}{s}{fl}(h:k≠2/\k≠4/\k≠6)(ha:0<=a/\a<=1000000):nE ⟨k,a,b,c,s,fl⟩:=⟨fun e=>absurd e h.1,fun e=>absurd e h.2.1,fun e=>absurd e h.2.2,ha⟩
def an3:∀k,k<20->D8.getD k []∈gC:=by decide+kernel
def UQ{k a b c}(ls)(x)(h:k≠2)(ha:0<=a/\a<=1000000):nE ⟨k,a,b,c,D8.getD (cr ls x 20).toNat [],[]⟩:=by have hn:D8.getD (cr ls x 20).toNat []∈gC:=an3 _ (by have:=eR ls x 20;have:=eH ls x 20 G;omega);exact⟨fun e=>absurd e h,fun _=>hn,fun _=>.inl hn,ha⟩
def QR:List (List UInt8):=[[97],[97,110,110],[98,45,49],[122,57]]
def atG:∀k,k<4->hD (QR.getD k [])=true:=by decide+kernel
def atF:∀k,k<4->QR.getD k []∈gC:=by decide+kernel
def V3{st}{f l t}(hs:hD st=true)(f0:0<=f)(f1:f<=65535)(l0:1<=l)(l1:l<=4096)(t0:0<=t)(t1:t<=65535):ib ⟨st,0,f,l,t⟩=true:=
 aki hs ⟨by simp_all,by simp_all,f0,f1,l0,l1,t0,t1⟩
structure Tc(x:List UInt8):Prop where
 lo:12<=x.length
 Q:x.length<=300
 all:B0 x
 cut:∀n,n<x.length->B0 (x.take n)
def arn{st}{f l t}(hn:st∈gC)(hs:hD st=true)(f0:0<=f)(f1:f<=65535)(l0:1<=l)(l1:l<=4096)(t0:0<=t)(t1:t<=65535):Tc (gO ⟨st,0,f,l,t⟩):=by
 have hv:=V3 hs f0 f1 l0 l1 t0 t1;have hl:=Pv hs;have hd:=Jl ⟨st,0,f,l,t⟩;have hd:(gO ⟨st,0,f,l,t⟩).length=12+st.length:=hd;have hp:=apU _ hv;refine⟨G,G,⟨G,fun _=>by rw[hp];exact hn⟩,fun n ai=>?_⟩;have HO:((gO ⟨st,0,f,l,t⟩).take n).length=n:=by rw[wb];omega
 refine⟨G,fun h0=>?_⟩;exfalso;obtain⟨a1,_,a3,_⟩:=ZS h0;rw[HO]at a1 a3;have GH:b9 ((gO ⟨st,0,f,l,t⟩).take n) 9=b9 (gO ⟨st,0,f,l,t⟩) 9:=by unfold b9;rw[mK,mK,je,au G]
 have aik:b9 (gO ⟨st,0,f,l,t⟩) 9=(st.length:Int):=by have zX:jO ⟨st,0,f,l,t⟩:=⟨by simp_all,by simp_all,f0,f1,l0,l1,t0,t1⟩;have M:=(aan ⟨st,0,f,l,t⟩ zX (by omega)).2.2.2.2.2.2.2.2.2;rw[gO,TS (by rw[EH];omega)];first|exact M|exact M.1
 omega
abbrev zD(k a b c:Int)(s:List UInt8):List SV:=[.int .i64 k,.int .i64 a,.int .i64 b,.int .i64 c,.str s,.nils]
def sI(es:List (List SV))(l:List Ev):Prop:=es.length=l.length/\(∀(i:Nat)(r:List SV)(e:Ev),es[i]?=some r->l[i]?=some e->pL r (ke e))/\∀e∈l,nE e
def sI.nil:sI [] []:=⟨rfl,sM,sM⟩
def sI.app{es}{l}{r}{e}(h:sI es l)(D:pL r (ke e))(hd:nE e):sI (es++[r]) (l++[e]):=by
 refine⟨by simp[h.1],fun i r' e' E F=>?_,fun x hx=>?_⟩;by_cases Q:i<es.length;rw[eU Q]at E;rw[eU (by rw[<-h.1];exact Q)]at F;exact h.2.1 i r' e' E F;have oW:i=es.length:=by have:=(ao.1 E).1;rw[c_,pK]at this;omega
 subst oW;rw[jf (aC _),we]at E;rw[jf (by rw[h.1];omega),<-h.1,we]at F;simp_all;rcases eJ.1 hx with hx|hx;exact h.2.2 x hx;simp_all
def QH(k a b c)(s):pL (zD k a b c s) (ke ⟨k,a,b,c,s,[]⟩):=
 .cons (.refl _) (.cons (.refl _) (.cons (.refl _) (.cons (.refl _) (.cons (.refl _) (.cons .nil .nil)))))
def wA(n:Nat)(es:List (List SV)):Prop:=es.length=n/\∃l,sI es l
def wA.app{n}{es}(h:wA n es){k a b c}{s}(hd:nE ⟨k,a,b,c,s,[]⟩):wA (n+1) (es++[zD k a b c s]):=by obtain⟨E,l,F⟩:=h;exact⟨by simp[E],_,F.app (QH k a b c s) hd⟩
def runN(s:List UInt8):Prop:=oP prog pX (run pX) 115 [.str s] lQ (ya .tt)
def an4{s}(h:runN s=True)(o:hD s=true):aY prog 115 [.str s] (· =.bool (hD s)):=
 (aY.Eh GJ fuel h rfl rfl).gR fun s' hs=>⟨_,rfl,fun w L g v D=>by subst hs;cases D;rw[o];exact .bool⟩
def ar0(s)(hs:s∈gC)(o:hD s=true):aY prog 115 [.str s] (· =.bool (hD s)):=by rw[Pw]at hs;simp only[gE,v7,iE]at hs;rcases hs with rfl|rfl|rfl|rfl|rfl|rfl|rfl|rfl|rfl|rfl|rfl|rfl|rfl|rfl|rfl|rfl|rfl|rfl|rfl|rfl<;>first|exact absurd o (by decide+kernel)|exact an4 (by kernel_rfl) o
def Vg{l:List (List UInt8)}{i:Int}(h0:0<=i)(E:i<l.length):(l.map fun s=>[SV.str s])[i.toNat]?=some [SV.str (l.getD i.toNat [])]:=by simp_all
def Vf(ls)(a)(n:Nat)(h0:0<=a)(E:a<9223372036854770000)(hn:n<=1000):eL prog 22 [.ptr 0 0,.int .i64 (n:Int)] [eP ls a] fun v I=>∃fl:List Bool,v=.rs 1 (fl.map Gi)/\I=[eP ls (a+n)]/\fl.length=n:=by
 refine .ar aj func22 Y rfl trivial (B ?_);refine b6.cq aj 19 (fun x:{x:Nat×List Bool//x.1<=n/\x.2.length=x.1}=>[(0,.ptr 0 0),(1,.int .i64 (n:Int)),(5,.sl 1),(6,.int .i64 (x.1.1:Int))])
  (fun x=>[eP ls (a+x.1.1),.row 4 1 (x.1.2.map Gi)]) (fun x=>n-x.1.1) ⟨(0,[]),by show 0<=n;omega,rfl⟩ (.of D0 Y ?_) ?_
 exact ab4;intro x;have⟨⟨i,fl⟩,F,h3⟩:=x;have F:i<=n:=F;have h3:fl.length=i:=h3;refine B ?_;refine⟨fun M=>?_,fun M=>?_⟩;have M:i<n:=by simp only[bs]at M;omega
 refine B ?_;refine(e6 _ _ _ G dM G).call [0] dC Y1 Y1 (rj (B ?_));(dsimp only at*;refine⟨⟨(i+1,fl++[decide (0<cr ls (a+i) 4)]),by show i+1<=n;omega,by rw[c_,h3];rfl⟩,by show n-(i+1)<n-i;omega,.of (lS [1,4]) Y ?_⟩);refine B ?_;refine⟨by exact(a_ _ G G).trans sM,B ?_⟩;refine⟨sM,?_⟩;exact wt;have M:i=n:=by simp only[bX]at M;omega
 refine B ?_;refine .same (B ?_);(dsimp only at*;exact⟨fl,rfl,by rw[M],by rw[h3,M]⟩)
def Vn(i)(h0:0<=i)(E:i<=9223372036854775807):aY prog 40 [.int .i64 i] fun v=>∃st:List UInt8,v=.str st/\hD st=true/\st∈gC:=by refine .ar aj func40 Y rfl trivial ?_;have e:i.tmod 4=i % 4:=abB G (by rw[uk h0];omega);have o:(i % 4).toNat<4:=G;refine B ?_;rw[e];refine B ?_;refine⟨_,Vg (l:=QR) G (by show i % 4<4;omega),B ?_⟩;refine⟨_,rfl,B ?_⟩;(exact⟨atG _ o,atF _ o⟩)
def XU:List Int:=[0,0,0,1,4]
def ajc{st}{f l t}(hn:st∈gC)(hs:hD st=true)(f0:0<=f)(f1:f<=65535)(l0:1<=l)(l1:l<=4096)(t0:0<=t)(t1:t<=65535):aY prog 43 [.agg [.str st,.int .i64 0,.int .i64 f,.int .i64 l,.int .i64 t]] fun v=>∃x:List UInt8,v=.tup [.str x,.int .i64 0]/\Tc x:=by refine(arM ⟨st,0,f,l,t⟩ (ar0 st hn hs)).mono fun v hv=>?_;rw[show CI ⟨st,0,f,l,t⟩=.tup [.str (gO ⟨st,0,f,l,t⟩),.int .i64 0] by unfold CI;rw[V3 hs f0 f1 l0 l1 t0 t1];rfl]at hv;exact⟨_,hv,arn hn hs f0 f1 l0 l1 t0 t1⟩
def ajN(ls)(a)(h0:0<=a)(E:a<9223372036854775800):eL prog 23 [.ptr 0 0] [eP ls a] fun s I=>s=.str (D8.getD (cr ls a 20).toNat [])/\I=[eP ls (a+1)]:=by refine .ar aj func23 Y rfl trivial ?_;have n0:=eR ls a 20;have n1:=eH ls a 20 G;refine B ?_;refine(e6 _ _ _ G G dC).call [0] dC Y1 Y1 (rj (B ?_));refine⟨_,Vg (l:=D8) n0 n1,?_⟩;exact adh
def wdP(st:Nat)(fl:List Int):Prop:=st<=3/\1<=fl.length/\fl.length<=4/\∀x∈fl,0<=x/\x<=3
abbrev wdE(st:Nat)(fl:List Int):SV:=.agg [.int .i64 (st:Int),.rs 1 (dv fl)]
def uK(ls)(a)(st)(fl)(hw:wdP st fl)(h0:0<=a)(E:a<9223372036854770000):eL prog 24 [.ptr 0 0,wdE st fl] [eP ls a] fun v I=>∃s a',v=.agg (zD 2 0 0 0 s)/\I=[eP ls a']/\a<=a'/\a'<=a+5/\B0 s:=by refine .ar aj func24 Y rfl trivial ?_;have⟨w0,w1,w2,Rh⟩:=hw;have hl:=qz fl;have n0:=eR ls a fl.length;have n1:=eH ls a fl.length G;have u:=xf (l:=fl) (p:=fun x=>0<=x/\x<=3) Rh n0 n1;have rY:=eR ls (a+1) 7;have m1:=eH ls (a+1) 7 G;have l:=xf (l:=Mp) (p:=fun x=>1<=x/\x<=4096) dC rY m1;have ma:=eR ls (a+1+1) 5;have k1:=eH ls (a+1+1) 5 G;have t:=xf (l:=XU) (p:=fun x=>0<=x/\x<=65535) dC ma k1;have q0:=eR ls (a+1+1+1+1) 3;have q1:=eH ls (a+1+1+1+1) 3 G;refine B ?_;rw[hl];refine B ?_;refine(e6 _ _ _ G G G).call [0] dC Y1 Y1 (rj (B ?_));refine⟨_,xg (l:=fl) n0 n1,B ?_⟩;refine(Vn _ G G).call ?_;rintro _ ⟨vT,rfl,g12,g13⟩;refine B ?_;refine(ajK _ _ G G).call [0] dC trivial Y1 (rj (B ?_));refine(e6 _ _ _ G G G).call [0] dC Y1 Y1 (rj (B ?_));refine⟨_,xg (l:=XU) ma k1,B ?_⟩;refine(ajc g13 G G G G G G G).call ?_;rintro _ ⟨t6,rfl,fE⟩;have CL:=fE.lo;have GT:=fE.Q;refine B ?_;refine(e6 _ _ _ G G G).call [0] dC Y1 Y1 (rj (B ?_));refine dT (fun _=>B ?_) fun _=>B ?_;refine(e6 _ _ _ G G G).call [0] dC Y1 Y1 (rj (B ?_));refine⟨by(rw[a_ ((t6.length:Int)-1) G G,a_ _ G G];omega),B ?_⟩;(refine⟨_,_,rfl,rfl,G,G,?_⟩;rw[a_ ((t6.length:Int)-1) G G,a_ _ G G];first|exact fE.cut _ G|(rw[List.drop_zero];exact fE.cut _ G)|(simp only[Int.toNat_zero,List.drop_zero,Int.ofNat_zero];exact fE.cut _ G));exact⟨_,_,rfl,rfl,G,G,fE.all⟩
def RJ{ab:Prop}(k:ab:=by
 conv=>whnf
 refine⟨Y,?_⟩;conv=>whnf
 refine⟨Y,?_⟩;conv=>whnf
 refine⟨Y,?_⟩;conv=>whnf
 exact trivial):ab:=k
def ajz(ls)(a)(h0:0<=a)(E:a<9223372036854770000):al prog 21 [.ptr 0 0] [eP ls a] fun v I=>∃(es:List (List SV))(n st:Nat)(fl:List Int)(a':Int),v=.tup [.sl 1,.agg [.int .i64 (st:Int),.sl 2]]/\I=[eP ls a',.row 44 6 es,.row 3 1 (dv fl)]/\wA n es/\1<=n/\n<=11/\wdP st fl/\a<=a'/\a'<=a+30:=by
 refine .ar aj func21 Y rfl ?_;have n0:=eR ls a 3;have n1:=eH ls a 3 G;obtain⟨st,bQ⟩:∃st:Nat,(st:Int)=1+cr ls a 3:=⟨(1+cr ls a 3).toNat,G⟩;have ws:IntKind.i64.wrap (1+cr ls a 3)=(st:Int):=by rw[a_ _ G G];exact bQ.symm
 refine B ?_;refine(e6 _ _ _ G G G).call [0] dC Y1 Y1 (rj (B ?_));rw[ws];refine B ?_;have xQ:st<=3:=by omega
 refine b6.cq aj 73 (fun x:{x:Nat×List (List SV)//x.1<=st/\wA x.1 x.2}=>[(0,.ptr 0 0),(3,.ptr 1 0),(4,.ptr 2 0),(5,.sl 3),(6,.int .i64 (x.1.1:Int))])
  (fun x=>[eP ls (a+1+2*x.1.1),.fix 82 [.int .i64 0,.nils],.fix 82 [.int .i64 (st:Int),.nils],.row 44 6 x.1.2]) (fun x=>st-x.1.1) ⟨(0,[]),by show 0<=st;omega,⟨rfl,[],.nil⟩⟩ (.of awA Y ?_) ?_
 conv=>whnf
 refine⟨Y,?_⟩;conv=>whnf
 refine⟨Y,?_⟩;conv=>whnf
 refine⟨sM,?_⟩;exact RJ;intro x;obtain⟨⟨i,es⟩,F,h3⟩:=x;have F:=F;have h3:=h3;have hm:es.length=i:=h3.1;refine B ?_;refine⟨fun M=>?_,fun M=>?_⟩;have M:i<st:=by simp only[bs]at M;omega
 refine B ?_;refine(Vn _ G dM).call ?_;rintro _ ⟨u0,rfl,g1,g2⟩;refine B ?_;refine(abP _ _ G dM).call [0] dC trivial Y1 (rj (B ?_));refine(e6 _ _ _ G dM G).call [0] dC Y1 Y1 (rj (B ?_));(dsimp only at*;refine⟨⟨(i+1,es++[zD 4 (E9 ls (a+1+2*i)) (cr ls (a+1+2*i+1) 2) 0 u0]),by show i+1<=st;omega,h3.app (aix g2 (by have:=auF ls (a+1+2*i);omega))⟩,by show st-(i+1)<st-i;omega,.of (lS [1,2,3,6]) Y ?_⟩);conv=>whnf
 exact acx;have M:i=st:=by simp only[bX]at M;omega
 refine B ?_;refine .same (B ?_);have WY:wA (st+2*0) es:=by rw[<-M];exact h3
 dsimp only;rw[M];obtain⟨b,zL⟩:∃b,b=a+1+2*(st:Int):=⟨_,rfl⟩;rw[<-zL];refine b6.cq aj 73 (fun y:{y:Nat×List Int×List (List SV)//y.1<=4/\y.2.1.length=y.1/\(∀x∈y.2.1,0<=x/\x<=3)/\wA (st+2*y.1) y.2.2}=>[(0,.ptr 0 0),(3,.ptr 1 0),(4,.ptr 2 0),(5,.sl 3),(7,.int .i64 (y.1.1:Int))])
  (fun y=>[eP ls (b+3*y.1.1),.fix 82 [.int .i64 0,.nils],.fix 82 [.int .i64 (st:Int),.sl 4],.row 44 6 y.1.2.2,.row 3 1 (dv y.1.2.1)]) (fun y=>4-y.1.1) ⟨(0,[],es),by show 0<=4;omega,rfl,sM,WY⟩ (.of (lS [1,2,3,4,0]) Y ?_) ?_
 conv=>whnf
 refine⟨Y,?_⟩;conv=>whnf
 refine⟨Y,?_⟩;conv=>whnf
 refine⟨sM,?_⟩;conv=>whnf
 refine⟨Y,?_⟩;exact RJ;intro y;obtain⟨⟨f,fl,es⟩,k1,k2,k3,rT⟩:=y;have k1:f<=4:=k1;have k2:=k2;have k3:=k3;have rT:=rT;have nW:es.length=st+2*f:=rT.1;have Nz:(dv fl).length=f:=by rw[qz,k2]
 have q0:=eR ls (b+3*f) 4;have q1:=eH ls (b+3*f) 4 G;have V9:[[SV.int .u8 (IntKind.u8.wrap (IntKind.i64.wrap (48+(f:Int))))]]=List.map fX [UInt8.ofNat (48+f)]:=by rw[a_ _ G G,BF,mI,Kp,u8n _ G,show(48+(f:Int))% 256=((48+f:Nat):Int)from by omega]
 have hnu:dv (fl++[cr ls (b+3*(f:Int)+1) st])=dv fl++[[SV.int .i64 (cr ls (b+3*(f:Int)+1) st)]]:=by simp[dv]
 have hk:(dv fl++[[SV.int .i64 (cr ls (b+3*(f:Int)+1) (st:Int))]])[((f:Int)).toNat]?=some [SV.int .i64 (cr ls (b+3*(f:Int)+1) (st:Int))]:=by rw[gh,jf G,Nz,we];rfl
 have r0:=eR ls (b+3*f+1) st;have r1:=eH ls (b+3*f+1) st G;conv=>whnf
 refine(e6 ls (b+3*(f:Int)) 4 G G G).call [0] dC Y1 Y1 (rj ?_);conv=>whnf
 refine⟨fun hc=>?_,fun hc=>?_⟩;have hc:(f:Int)<=cr ls (b+3*f) 4:=by simpa using hc
 conv=>whnf
 refine cf.fQ mixed aj ?_;conv=>whnf
 refine(e6 _ _ _ G G G).cA [0] dC rfl Y1 Y1 ?_;conv=>whnf
 refine⟨sO,?_⟩;conv=>whnf
 refine⟨by kernel_rfl,?_⟩;conv=>whnf
 refine cf.fQ mixed aj ?_;conv=>whnf
 refine⟨sO,?_⟩;conv=>whnf
 refine⟨_,hk,?_⟩;conv=>whnf
 refine(abP _ _ G G).cA [0] dC rfl trivial Y1 ?_;conv=>whnf
 refine⟨sO,?_⟩;conv=>whnf
 refine⟨by kernel_rfl,?_⟩;conv=>whnf
 refine⟨[UInt8.ofNat (48+f)],V9,?_⟩;conv=>whnf
 refine⟨sM,?_⟩;conv=>whnf
 refine⟨sM,?_⟩;conv=>whnf
 refine⟨[UInt8.ofNat (48+f)],V9,?_⟩;conv=>whnf
 refine⟨sM,?_⟩;conv=>whnf
 refine⟨sO,?_⟩;conv=>whnf
 (dsimp only at*;refine⟨⟨(f+1,fl++[cr ls (b+3*(f:Int)+1) st],(es++[zD 5 (cr ls (b+3*(f:Int)+1) st) (E9 ls (b+3*(f:Int)+1+1)) 0 []])++[zD 6 0 0 0 ((([42,32,42,32]++[UInt8.ofNat (48+f)])++[32,62])++[UInt8.ofNat (48+f)])]),by show f+1<=4;omega,by rw[c_,k2];rfl,fun x hx=>(eJ.1 hx).elim (k3 x) (fun h=>by rw[BD.1 h];omega),(rT.app (zF dC (nx ls _ _ G))).app (aiw G)⟩,by show 4-(f+1)<4-f;omega,.of (lS [1,2,3,15,8]) Y ?_⟩);conv=>whnf
 refine⟨by exact(a_ _ G G).trans sM,?_⟩;conv=>whnf
 refine⟨Y,?_⟩;conv=>whnf
 refine⟨sO,?_⟩;conv=>whnf
 refine⟨Y,?_⟩;conv=>whnf
 refine⟨Y,?_⟩;conv=>whnf
 refine⟨Y,?_⟩;conv=>whnf
 refine⟨by(exact hnu.symm),?_⟩;conv=>whnf
 exact adg;have hc:¬(f:Int)<=cr ls (b+3*f) 4:=by simpa using hc
 conv=>whnf
 refine .same ?_;conv=>whnf
 refine cf.fQ mixed aj ?_;conv=>whnf
 refine⟨by kernel_rfl,?_⟩;conv=>whnf
 dsimp only at*;refine a6.of (lS [1,4,5]) (.tup [.sl 1,.agg [.int .i64 (st:Int),.sl 2]]) [eP ls (b+3*(f:Int)+1),.row 44 6 es,.row 3 1 (dv fl)] Y ⟨es,st+2*f,st,fl,_,rfl,rfl,rT,G,G,⟨xQ,G,G,k3⟩,G,G⟩ ?_;conv=>whnf
 refine⟨rfl,?_⟩;conv=>whnf
 exact adg
def GO{ab aZ C bY:Type}{P:ab×aZ×C×bY->Prop}{aV:{x//P x}->Prop}(i){e}{l}{b}(c1:P (i,e,l,b))(h:aV ⟨(i,e,l,b),c1⟩):∃x,aV x:=⟨_,h⟩
def OG:List Int:=[0,14,1,6,4,5]
def Xy(x):OG.getD x 0≠2:=by by_cases h:x<6;revert x;decide;rw[mK,pF (show OG.length<=x by show 6<=x;omega)];decide
def amv{i:Int}(h0:0<=i)(E:i<6):[[SV.int .i64 0],[SV.int .i64 14],[SV.int .i64 1],[SV.int .i64 6],[SV.int .i64 4],[SV.int .i64 5]][i.toNat]?=some [SV.int .i64 (OG.getD i.toNat 0)]:=by have:i=0\/i=1\/i=2\/i=3\/i=4\/i=5:=G;rcases this with rfl|rfl|rfl|rfl|rfl|rfl<;>rfl
def zw1{ab:Prop}(k:ab:=by (dsimp only at*;refine' GO (i+1) ?c1 ⟨?c2,.of OX Y ?c3⟩;(case c3=>((conv=>whnf);(repeat(first|exact trivial|(refine⟨rfl,?_⟩;(conv=>whnf))|(refine⟨(a_ _ G G).trans sM,?_⟩;(conv=>whnf))))));(case c1=>(exact⟨G,(by(refine h3.app (QH _ _ _ _ _) ?_;first|exact UP ‹_›|exact zF dC (nx ls _ _ G)|exact zF dC dC|exact UQ ls _ (Xy _) (nx ls _ _ G))),vd,vd,uE,uE⟩));(case c2=>(show n-(i+1)<n-i;omega)))):ab:=k
def Ki{ab:Prop}(k:ab:=by refine B ?_;(dsimp only at*;refine' GO (i+1) ?c1 ⟨?c2,.of OX Y ?c3⟩;(case c3=>((conv=>whnf);(repeat(first|exact trivial|(refine⟨rfl,?_⟩;(conv=>whnf))|(refine⟨(a_ _ G G).trans sM,?_⟩;(conv=>whnf))))));(case c1=>(exact⟨G,(by(refine h3.app (e:=⟨_,_,_,_,_,_⟩) (.refl _) ?_;exact zF dC dC)),vd,vd,uE,uE⟩));(case c2=>(show n-(i+1)<n-i;omega)))):ab:=k
def yL{ab:Prop}(k:ab:=by refine(e6 _ _ _ dM dM G).call [0] dC Y1 Y1 (rj (B ?_));exact zw1):ab:=k
def adU{ab:Prop}(k:ab:=by refine B ?_;(dsimp only at*;refine' GO (i+1) ?c1 ⟨?c2,.of aea Y ?c3⟩;(case c3=>((conv=>whnf);(repeat(first|exact trivial|(refine⟨rfl,?_⟩;(conv=>whnf))|(refine⟨(a_ _ G G).trans sM,?_⟩;(conv=>whnf))))));(case c1=>(exact⟨G,h3,vd,vd,uE,uE⟩));(case c2=>(show n-(i+1)<n-i;omega)))):ab:=k
def ua{ab:Prop}(k:ab:=by refine B ?_;exact zw1):ab:=k
def ajF(ls)(a)(n:Nat)(hn:n<=100)(h0:0<=a)(E:a<9223372036854700000):al prog 7 [.ptr 0 0,.int .i64 (n:Int)] [eP ls a] fun v I=>∃es l a',v=.sl 1/\I=[eP ls a',.row 44 6 es]/\sI es l/\l.length<=11+n/\1<=l.length/\a<=a'/\a'<=a+30+20*n:=by
 refine .PJ aj 2 func7 Y rfl (B ?_);refine(ajz ls a G G).call [0,1,2] Y trivial Y2 ?_;rintro _ _ ⟨es,m,st,fl,a1,rfl,rfl,dA,WA,hm,hw,a0,a2⟩;refine B ?_;refine XG.ajm 2 (B (XG.same (B ?_)));have⟨o5,l0,At⟩:=dA;have av1:l0.length=m:=by rw[<-At.1,o5]
 have⟨w0,w1,w2,Rh⟩:=id hw;have g8:(dv fl).length=fl.length:=qz fl;refine b6.cq aj 149 (fun x:{x:Nat×List (List SV)×List Ev×Int//x.1<=n/\sI x.2.1 x.2.2.1/\1<=x.2.2.1.length/\x.2.2.1.length<=11+x.1/\a<=x.2.2.2/\x.2.2.2<=a+30+20*x.1}=>[(0,.ptr 0 0),(1,.int .i64 (n:Int)),(5,.sl 1),(6,.ptr 2 0),(7,.int .i64 (x.1.1:Int))])
  (fun x=>[eP ls x.1.2.2.2,.row 44 6 x.1.2.1,.fix 82 [.int .i64 (st:Int),.rs 1 (dv fl)]]) (fun x=>n-x.1.1) ⟨(0,es,l0,a1),G,At,by simp_all,by simp_all,a0,by simp_all⟩ (.of (lS [1,2,4]) Y ?_) ?_
 exact wt
 ·intro x;have⟨⟨i,es,l,b⟩,F,h3,h4,h5,h6,h7⟩:=x;have F:i<=n:=F;have h3:sI es l:=h3;have h4:1<=l.length:=h4;have h5:l.length<=11+i:=h5;have h6:a<=b:=h6;have h7:b<=a+30+20*i:=h7;have hm:es.length=l.length:=h3.1;refine B ?_;refine⟨fun M=>?_,fun M=>?_⟩
  ·have M:i<n:=by simp only[bs]at M;omega
   refine B ?_;refine(e6 _ _ _ dM dM G).call [0] dC Y1 Y1 (rj (B ?_));refine(e6 _ _ _ dM dM G).call [0] dC Y1 Y1 (rj (B ?_));refine dT (fun _=>?_) fun _=>?_;refine B ?_;exact yL
   ·refine B ?_;refine dT (fun _=>?_) fun _=>?_;refine B ?_;exact yL
    ·refine B ?_;refine dT (fun _=>?_) fun _=>?_;refine B ?_;refine(e6 _ _ _ dM dM G).call [0] dC Y1 Y1 (rj (B ?_));exact yL
     ·refine B ?_;refine dT (fun _=>?_) fun _=>?_;refine B ?_;refine(e6 _ _ _ dM dM G).call [0] dC Y1 Y1 (rj (B ?_));exact yL
      ·refine B ?_;refine dT (fun _=>?_) fun _=>?_;refine B ?_;refine(e6 _ _ _ dM dM G).call [0] dC Y1 Y1 (rj (B ?_));refine dT (fun _=>?_) fun _=>?_;exact ua;exact adU
       ·refine B ?_;refine dT (fun _=>?_) fun _=>?_;refine B ?_;refine(e6 _ _ _ dM dM G).call [0] dC Y1 Y1 (rj (B ?_));refine dT (fun _=>?_) fun _=>?_;refine B ?_;exact yL;exact adU
        ·refine B ?_;refine dT (fun _=>?_) fun _=>?_;refine B ?_;exact yL
         ·refine B ?_;refine dT (fun _=>?_) fun _=>?_;refine B ?_;refine(Vf _ _ _ dM dM G).call [0] dC Y1 Y1 ?_;rintro _ _ ⟨axf,rfl,rfl,auZ⟩;exact Ki
          ·refine B ?_;refine dT (fun _=>?_) fun _=>?_
           ·conv=>whnf
            refine cf.fQ mixed aj ?_;conv=>whnf
            refine(e6 _ _ _ dM dM G).cA [0] dC rfl Y1 Y1 (B ?_);refine⟨by(exact⟨eR _ _ _,eH _ _ _ G⟩),B ?_⟩;refine⟨_,amv (eR _ _ _) (eH _ _ _ G),B ?_⟩;refine(e6 _ _ _ dM dM G).cA [0] dC rfl Y1 Y1 (B ?_);refine(e6 _ _ _ dM dM G).cA [0] dC rfl Y1 Y1 (B ?_);refine(ajN _ _ dM dM).cA [0] dC rfl trivial Y1 (B ?_);(dsimp only at*;refine' GO (i+1) ?c1 ⟨?c2,.of (lS [1,10,3]) Y ?c3⟩;(case c3=>((conv=>whnf);(repeat(first|exact trivial|(refine⟨rfl,?_⟩;(conv=>whnf))|(refine⟨(a_ _ G G).trans sM,?_⟩;(conv=>whnf))))));(case c1=>(exact⟨G,(by(refine h3.app (QH _ _ _ _ _) ?_;first|exact UP ‹_›|exact zF dC (nx ls _ _ G)|exact zF dC dC|exact UQ ls _ (Xy _) (nx ls _ _ G))),vd,vd,uE,uE⟩));(case c2=>(show n-(i+1)<n-i;omega)))
           refine B ?_;refine dT (fun _=>?_) fun _=>?_;refine B ?_;refine(uK _ _ _ _ G dM dM).call [0] dC Y1 Y1 ?_;rintro _ _ ⟨axh,axi,rfl,rfl,au1,au2,au3⟩;exact ua;refine B ?_;refine dT (fun _=>?_) fun _=>?_;refine B ?_;refine(uK _ _ _ _ G dM dM).call [0] dC Y1 Y1 ?_;rintro _ _ ⟨axj,axk,rfl,rfl,au4,au5,au6⟩;exact ua;refine B ?_;refine dT (fun _=>?_) fun _=>?_;refine B ?_;refine(uK _ _ _ _ G dM dM).call [0] dC Y1 Y1 ?_;rintro _ _ ⟨axl,axm,rfl,rfl,au7,ajv,au8⟩;exact ua;refine B ?_;refine dT (fun _=>?_) fun _=>?_;refine B ?_;refine(uK _ _ _ _ G dM dM).call [0] dC Y1 Y1 ?_;rintro _ _ ⟨axo,axp,rfl,rfl,au9,ava,avb⟩;exact ua;refine B ?_;refine dT (fun _=>?_) fun _=>?_;refine B ?_;refine(uK _ _ _ _ G dM dM).call [0] dC Y1 Y1 ?_;rintro _ _ ⟨axs,axt,rfl,rfl,avc,avd,ave⟩;exact ua;refine B ?_;refine dT (fun _=>?_) fun _=>?_;refine B ?_;refine(uK _ _ _ _ G dM dM).call [0] dC Y1 Y1 ?_;rintro _ _ ⟨axv,axw,rfl,rfl,avg,avh,avi⟩;exact ua;refine B ?_;refine dT (fun _=>?_) fun _=>?_;refine B ?_;refine(uK _ _ _ _ G dM dM).call [0] dC Y1 Y1 ?_;rintro _ _ ⟨axx,axy,rfl,rfl,avj,avk,avl⟩;exact ua;refine B ?_;refine dT (fun _=>?_) fun _=>?_;refine B ?_;refine(uK _ _ _ _ G dM dM).call [0] dC Y1 Y1 ?_;rintro _ _ ⟨axz,axA,rfl,rfl,avm,avn,avo⟩;exact ua;refine B ?_;refine(Vf _ _ _ dM dM G).call [0] dC Y1 Y1 ?_;rintro _ _ ⟨axB,rfl,rfl,avp⟩;exact Ki
  have M:i=n:=by simp only[bX]at M;omega
  refine B ?_;refine .same (B ?_);dsimp only at*;refine a6.of gB (.sl 1) [eP ls b,.row 44 6 es] Y ⟨es,l,b,rfl,rfl,h3,G,h4,h6,G⟩ (B ?_);exact adg
def jj.at{c}{x}{lg}(h:jj c x lg):∀{i r},lg[i]?=some r->r.kind=5->0<=r.aR->∃s,sJ c x r s/\(∀j q,s[j]?=some q->lg[i+1+j]?=some q)/\∀q,lg[i+1+s.length]?=some q->q.kind≠3:=by
 induction h with
 |nil=>simp_all
 | @other l r' h E F ih=>intro i r Q o hf;by_cases hl:i<l.length;rw[eU hl]at Q;have⟨s,a,b,d⟩:=ih Q o hf;refine⟨s,a,fun j q hj=>?_,fun q hq=>?_⟩;grind;by_cases d3:i+1+s.length<l.length;grind;rw[jf G]at hq;have:=bN hq;simp_all;grind
 | @JA l s' r' h E ih=>
  intro i r Q o hf;by_cases hl:i<l.length;rw[eU hl]at Q;have⟨s,a,b,d⟩:=ih Q o hf;refine⟨s,a,fun j q hj=>?_,fun q hq=>?_⟩;grind;by_cases d3:i+1+s.length<l.length;grind;by_cases H:i+1+s.length=l.length;rw[H,jf (aC _)]at hq;simp at hq;subst hq;rw[E.kind];decide;exfalso;have hs:s.length<=l.length-(i+1):=by by_cases h0:s.length=0;omega;have:=b (s.length-1) _ (aD G);have:=(ao.1 this).1;omega
  omega;rw[jf G]at Q;by_cases H:i=l.length;grind;rw[show i-l.length=(i-l.length-1)+1 by omega,Sk]at Q;have:=E.kinds r (bN Q);omega
def isLen(id:Int)(r:bG):Bool:=decide (r.kind=1)&&decide (r.fR=id)
def lenOf(lg:List bG)(id:Int):Int:=match lg.find? (isLen id)with|some r=>r.val|none=>0
def amK{pl}{lg}(h:lH pl lg){id:Int}(E:1<=id)(F:id<=pl.length):lenOf lg id=po pl id:=by
 have e1:lg.find? (isLen id)=(lg.filter vb).find? fun r=>decide (r.fR=id):=by rw[List.find?_filter];congr 1;funext a;simp[isLen,vb]
 have e2:((lg.filter vb).map fun r=>(r.fR,r.val)).find? (fun p=>decide (p.1=id))=some (id,po pl id):=by
  rw[h,List.find?_map];have:(List.range pl.length).find? ((fun p:Int×Int=>decide (p.1=id))∘fun i:Nat=>((i:Int)+1,Z pl i))=some (id-1).toNat:=by rw[ad6];refine⟨sO,(id-1).toNat,sO,sM,fun j hj=>?_⟩;simp;omega
  rw[this];simp only[nC];congr 1;refine Prod.ext ?_ rfl;show(((id-1).toNat:Nat):Int)+1=id;omega
 rw[List.find?_map]at e2;unfold lenOf;grind
def asm(z e:Int)(c:Int):SV:=.tup [.agg [.str [],.int .i64 c,.int .i64 z,.int .i64 z,.int .i64 z],.int .i64 e]
def ass(s:List UInt8)(z e c:Int):Prop:=oP prog pX (run pX) 91 [.str s] lQ (ya (asm z e c))
def EK{s}(z e c)(h:ass s z e c=True)(o:e=0->pt ⟨[],c,z,z,z⟩):∃r0 cl ra rb rf e0,aY prog 91 [.str s] (· =.tup [.agg [.str r0,.int .i64 cl,.int .i64 ra,.int .i64 rb,.int .i64 rf],.int .i64 e0])/\(e0=0->pt ⟨r0,cl,ra,rb,rf⟩):=
 ⟨[],c,z,z,z,e,aY.Eh GJ fuel h rfl rfl,o⟩
def acX{ab:Prop}(k:ab:=by exact EK 0 8 0 (by kernel_rfl) (fun h=>absurd h dC)):ab:=k
def asq(s)(h:s∈gC\/ ∃f:Nat,f<=3/\s=Qx f):∃r0 cl ra rb rf e0,aY prog 91 [.str s] (· =.tup [.agg [.str r0,.int .i64 cl,.int .i64 ra,.int .i64 rb,.int .i64 rf],.int .i64 e0])/\(e0=0->pt ⟨r0,cl,ra,rb,rf⟩):=by rcases h with hs|⟨f,hf,rfl⟩;rw[Pw]at hs;simp only[gE,v7,iE]at hs;rcases hs with rfl|rfl|rfl|rfl|rfl|rfl|rfl|rfl|rfl|rfl|rfl|rfl|rfl|rfl|rfl|rfl|rfl|rfl|rfl|rfl;exact acX;exact acX;exact acX;exact acX;exact acX;exact acX;exact acX;exact acX;exact acX;exact acX;exact acX;exact acX;exact acX;exact acX;exact acX;exact acX;exact acX;exact acX;exact acX;exact acX;match f,hf with|0,_=>exact EK 0 0 (-1) (by kernel_rfl) (fun _=>⟨rfl,rfl,rfl,rfl,.inl rfl⟩)|1,_=>exact EK 1 0 (-1) (by kernel_rfl) (fun _=>⟨rfl,rfl,rfl,rfl,.inr (.inl rfl)⟩)|2,_=>exact EK 2 0 (-1) (by kernel_rfl) (fun _=>⟨rfl,rfl,rfl,rfl,.inr (.inr (.inl rfl))⟩)|3,_=>exact EK 3 0 (-1) (by kernel_rfl) (fun _=>⟨rfl,rfl,rfl,rfl,.inr (.inr (.inr rfl))⟩)
def ni(c:bT)(t:Tb):List (Int×Int):=t.sts.map (fun s=>Z c.cJ s.iC.toNat)
structure jG(c:bT)(z b:Nat)(S:Ms)(e:Ev)(v er:Int)(M':Ms):Prop where
 ok:aW c (z+1) (b+64) M'
 r:(er=0/\e.k=4/\0<=e.b/\e.b<c.cJ.length/\bE M'.t=bE S.t/\ni c M'.t=ni c S.t++[Z c.cJ e.b.toNat])\/
  (er=0/\e.k=5/\v=(S.t.fls.length:Int)/\bE M'.t=bE S.t++[e.a]/\ni c M'.t=ni c S.t)\/
  (¬(er=0/\(e.k=4\/e.k=5))/\bE M'.t=bE S.t/\ni c M'.t=ni c S.t)
def jG.same{c}{z b}{S M'}{e}{v er}(h:aW c (z+1) (b+64) M'){k}(Hm:e.k=k)(o:¬k=4/\¬k=5)(hs:M'.t.sts=S.t.sts)(ht:bE M'.t=bE S.t):jG c z b S e v er M':=
 ⟨h,.inr (.inr ⟨fun⟨_,h⟩=>h.elim (Hm▸o.1) (Hm▸o.2),ht,by unfold ni;rw[hs]⟩)⟩
def jG.tb{c}{z b}{S M'}{e}{v er}(h:aW c (z+1) (b+64) M'){k}(Hm:e.k=k)(o:¬k=4/\¬k=5)(hs:M'.t=S.t):jG c z b S e v er M':=.same h Hm o (by rw[hs]) (by rw[hs])
def apV{s st}{a0 qr l0 f0 e0}(hp:gd s=(⟨st,a0,qr,l0,f0⟩,e0))(h:e0=0):1<=l0/\l0<=4096/\0<=f0/\f0<=65535:=by have⟨_,_,_,_,h5,h6⟩:=ZS (s:=s) (by rw[hp];exact h);have:=(C0 h5).2;rw[<-h6,hp]at this;have⟨_,_,_,_,k1,k2,k3,rT⟩:=this;simp_all
def aiK(c)(S)(z b)(hc:d_ c)(h:aW c z b S)(hz:z+1<=100)(M:b+64<=8900)(e)(hd:nE e)(I:UO e=true)(h9:¬e.k=9):al prog 26 [.ptr 0 0,.agg (ke e)] (HM c S) (fun s I=>∃M' v er,jG c z b S e v er M'/\s=.tup [.int .i64 v,.int .i64 er]/\I=fk c M'):=by
 have MX:Cz e:=cZ I;obtain⟨k,a,b',n7,s,fl⟩:=e;obtain⟨k1,k13,a0,a1,fb,b1,gc,c1,sl,fll⟩:=MX;have h9:¬k=9:=h9;dsimp only at k1 k13 a0 a1 fb b1 gc c1 sl fll;rcases(show k=1\/k=2\/k=3\/k=4\/k=5\/k=6\/k=7\/k=8\/k=10\/k=11\/k=12\/k=13 by omega)with rfl|rfl|rfl|rfl|rfl|rfl|rfl|rfl|rfl|rfl|rfl|rfl;exact(aiC c S z b hc h hz M a b' n7 s fl).mono fun v I⟨M',v',e',g1,g2,g3,g4⟩=>⟨M',v',e',.tb (k:=1) g1 rfl dC g2,g3,g4⟩
 obtain⟨⟨⟨st,a0,qr,l0,f0⟩,e0⟩,hp⟩:∃x,gd s=x:=⟨_,rfl⟩;have hav:=hd.arr rfl;exact(aiD c S z b hc h hz M a b' n7 s fl st a0 qr l0 f0 e0 (by omega) hp (fun H=>by have:=hav.2;simp_all) (apV hp)).mono fun v I⟨M',v',e',g1,g2,g3,g4⟩=>⟨M',v',e',.tb (k:=2) g1 rfl dC g2,g3,g4⟩;exact(aiE c S z b hc h hz M a b' n7 s fl a0).mono fun v I⟨M',e',g1,g2,g3,g4,iP⟩=>⟨M',0,e',.same (k:=3) g1 rfl dC g2 g3,g4,iP⟩;exact(aiF c S z b hc h hz M a b' n7 s (hd.EZ rfl) fl).mono fun v I⟨M',v',e',g1,g2,g3,g4,iP⟩=>⟨M',v',e',⟨g1,g3.elim (fun⟨x,y⟩=>.inr (.inr ⟨fun w=>x w.1,g2,by unfold ni;rw[y]⟩)) fun⟨x,y,y',w⟩=>.inl ⟨x,rfl,y,y',g2,w⟩⟩,g4,iP⟩;exact(aiG c S z b hc h hz M a b' n7 s fl).mono fun v I⟨M',v',e',g1,g2,g3,g4,iP⟩=>⟨M',v',e',⟨g1,g3.elim (fun⟨x,y⟩=>.inr (.inr ⟨fun w=>x w.1,y,by unfold ni;rw[g2]⟩)) fun⟨x,y,w⟩=>.inr (.inl ⟨x,rfl,y,w,by unfold ni;rw[g2]⟩)⟩,g4,iP⟩;have⟨r0,cl,ra,rb,rf,e0,NJ,aw⟩:=asq s (hd.rul rfl);exact(aiH c S z b hc h hz M a b' n7 s fl r0 cl ra rb rf e0 NJ aw).mono fun v I⟨M',v',e',g1,g2,g3,g4⟩=>⟨M',v',e',.tb (k:=6) g1 rfl dC g2,g3,g4⟩;exact(aiI c S z b hc h hz M a b' n7 s fl).mono fun v I⟨M',e',g1,g2,g3,g4,iP⟩=>⟨M',0,e',.same (k:=7) g1 rfl dC g2 g3,g4,iP⟩;exact(aiJ c S z b hc h hz M a b' n7 s fl).mono fun v I⟨M',e',g1,g2,g3,g4,iP⟩=>⟨M',0,e',.same (k:=8) g1 rfl dC g2 g3,g4,iP⟩;exact(aiy c S z b hc h hz M a b' n7 s fl a0 G).mono fun v I⟨M',e',g1,g2,g3,g4,iP⟩=>⟨M',0,e',.same (k:=10) g1 rfl dC g2 g3,g4,iP⟩;exact(aiz c S z b hc h hz M a b' n7 s fl).mono fun v I⟨M',e',g1,g2,g3,g4,iP⟩=>⟨M',0,e',.same (k:=11) g1 rfl dC g2 g3,g4,iP⟩;exact(aiA c S z b hc h hz M a b' n7 s fl).mono fun v I⟨M',e',g1,g2,g3,g4,iP⟩=>⟨M',0,e',.same (k:=12) g1 rfl dC g2 g3,g4,iP⟩;exact(aiB c S z b hc h hz M a b' n7 s fl).mono fun v I⟨M',e',g1,g2,g3,g4,iP⟩=>⟨M',0,e',.same (k:=13) g1 rfl dC g2 g3,g4,iP⟩
structure kD(c:bT)(i:Nat)(S:Ms)(sm:List (Int×Int×Nat))(rr:List (Int×Int)):Prop where
 ok:aW c i (64*i+1) S
 sm:∀f:Int,dJ sm f=if 0<=f then(bE S.t)[f.toNat]? else none
 rr:rr=ni c S.t
section
variable{c:bT} {i:Nat} {S M':Ms} {sm:List (Int×Int×Nat)} {rr:List (Int×Int)} {e:Ev} {v er:Int}
def kD.up(h:kD c i S sm rr)(Q:i<=90):kD c (i+1) S sm rr:=⟨h.ok.up (e7 i) G G G,h.sm,h.rr⟩
def kD.oth(h:kD c i S sm rr)(D:jG c i (64*i+1) S e v er M')(hn:¬(er=0/\(e.k=4\/e.k=5))):kD c (i+1) M' sm rr:=by have I:=D.ok;rw[show 64*i+1+64=64*(i+1)+1 by omega]at I;rcases D.r with⟨a,b,_⟩|⟨a,b,_⟩|⟨_,a,b⟩;omega;omega;exact⟨I,by rw[a];exact h.sm,by rw[b];exact h.rr⟩
def kD.EZ(h:kD c i S sm rr)(D:jG c i (64*i+1) S e v er M')(H:er=0)(o:e.k=4):(0<=e.b/\e.b<c.cJ.length)/\kD c (i+1) M' sm (rr++[Z c.cJ e.b.toNat]):=by have I:=D.ok;rw[show 64*i+1+64=64*(i+1)+1 by omega]at I;rcases D.r with⟨_,_,fb,b1,a,b⟩|⟨_,b,_⟩|⟨a,_⟩;exact⟨⟨fb,b1⟩,I,by rw[a];exact h.sm,by rw[b,h.rr]⟩;omega;omega
def kD.flw(h:kD c i S sm rr)(D:jG c i (64*i+1) S e v er M')(H:er=0)(o:e.k=5)(ck):kD c (i+1) M' (gb sm v e.a ck) rr:=by
 have I:=D.ok;rw[show 64*i+1+64=64*(i+1)+1 by omega]at I;rcases D.r with⟨_,b,_⟩|⟨_,_,hv,a,b⟩|⟨a,_⟩;omega;refine⟨I,fun f=>?_,by rw[b];exact h.rr⟩;have hl:(bE S.t).length=S.t.fls.length:=by unfold bE;simp
 rw[D4,a,h.sm f];grind;omega
def kD.st(h:kD c i S sm rr){f w}(hs:wC (re c S) f w):dJ sm f=some w/\0<=w/\w<rr.length:=by have⟨a,b,E,F,h3,h4⟩:=hs;refine⟨?_,G,?_⟩;rw[h.sm,au G,show f.toNat=a by omega];exact h3;rw[h.rr];have h4:b<(ni c S.t).length:=h4;omega
end
def oz(lg:List bG)(s:List bG)(j:Nat):List Int:=(s.take j).map fun q=>lenOf lg q.fR
def atS{c}{S}{lg s}{r}(ha:lH (S.pk.map (·.len)) lg)(hs:sJ c (re c S) r s):oz lg s s.length=s.map fun q=>po (S.pk.map (·.len)) q.fR:=by unfold oz;rw[yQ];refine k8 fun q hq=>?_;have⟨_,_,E,F⟩:=hs.kinds q hq;exact amK ha E F
def atT{lg s}{j}{q}(h:s[j]?=some q):oz lg s (j+1)=oz lg s j++[lenOf lg q.fR]:=by unfold oz;rw[tW h,dx];rfl
def jG.bad{c}{z b}{S}{e}(h:aW c z b S)(hz:z+1<=100)(M:b+64<=8900):jG c z b S e 0 1 S:=⟨h.up (e7 z) hz (fw b 64) M,.inr (.inr ⟨fun h=>absurd h.1 dC,rfl,rfl⟩)⟩
def jG.err{c}{z b}{S M'}{e}{v er}(h:jG c z b S e v er M')(H:¬er=0):jG c z b S e 0 er M':=⟨h.ok,h.r.elim (fun k=>absurd k.1 H) fun k=>k.elim (fun k=>absurd k.1 H) fun k=>.inr (.inr k)⟩
def jG.ai1{c}{z b}{S M'}{e}{v er}(h:jG c z b S e v er M')(H:er=0):jG c z b S e v 0 M':=by subst H;exact h
def atE(c)(S)(z b)(hc:d_ c)(h:aW c z b S)(hz:z+1<=100)(M:b+64<=8900)(e)(hd:nE e)(h9:¬e.k=9):al prog 8 [.ptr 0 0,.agg (ke e)] (HM c S) (fun s I=>∃M' v er,jG c z b S e v er M'/\s=.agg [.int .i64 er,.int .i64 v]/\I=fk c M'):=by
 refine al.ar aj func8 Y rfl (B ((aiM _).call ?_));rintro _ rfl;refine B ?_;refine⟨fun fZ=>?_,fun fZ=>?_⟩;·refine B ?_;(refine a6.cm kp _ _ Y Y ⟨S,0,1,jG.bad h hz M,rfl,rfl⟩ ?_;(conv=>whnf);(repeat(first|exact trivial|rfl|(refine⟨rfl,?_⟩;(conv=>whnf)))))
 ·simp only[bs,bX,dN,dO,c5,dP,bR,dG,dH,dQ,dk,c6,dR,dL,dS,dh,ne_eq,dZ]at fZ;refine B ?_;refine(aiK _ _ _ _ aM aM aM aM _ aM aM aM).call [0,1,2,3,4,5,6,7,8,9,10,11,12,13,14,15,16,17,20,21,22,23,24,25] Y Y6 (C8 (C8 (C8 (C8 Y7)))) ?_;rintro _ _ ⟨vT,u12,u13,g14,rfl,rfl⟩;refine B ?_;refine dT (fun l2=>?_) fun l2=>?_;·refine B ?_;(refine a6.cm X8 _ _ Y Y ⟨vT,0,u13,g14.err ‹_›,rfl,rfl⟩ ?_;(conv=>whnf);(repeat(first|exact trivial|rfl|(refine⟨rfl,?_⟩;(conv=>whnf)))))
  ·refine B ?_;(refine a6.cm X8 _ _ Y Y ⟨vT,u12,0,g14.ai1 G,rfl,rfl⟩ ?_;(conv=>whnf);(repeat(first|exact trivial|rfl|(refine⟨rfl,?_⟩;(conv=>whnf)))))
def agR(es)(hl:es.length<=1000000000):al prog 27 [.sl 0] [.row 53 6 es] (fun s I=>s=.sl 1/\I=[.row 53 6 es,.row 53 6 es]):=by refine al.ar aj func27 Y rfl (B ?_);exact J1
def am5(c)(S)(hl:S.lg.length<=1000000000):al prog 9 [.ptr 0 0] (HM c S) (fun s I=>s=.sl 18/\I=HM c S++[e5 S.lg]):=by
 refine al.ar aj func9 Y rfl ?_;have xE:(S.lg.map bG.cells).length<=1000000000:=by rw[bh];exact hl
 refine B ?_;refine(agR _ aM).call [6,18] Y trivial Y1 ?_;rintro _ _ ⟨rfl,rfl⟩;refine B ?_;exact a6.of D1 _ _ Y ⟨rfl,rfl⟩ (B lF)
end Go.Proofs.YtfkepgkmobgleaaGreatDoor
namespace Go.Sx
def aq.wG{P}{ab:fy}(hA:∀w,ab w fun _=>False){f}{args}{h}{K}(hc:aq P f args (h++[.asn ab]) K):aq P f args h K:=
 ⟨fun w X g vs O D=>by
  have bc:∀i e,(g++[.own fun _=>False])[i]?=some e->g[i]?=some e\/(i=g.length/\e=.own fun _=>False):=fun i e H=>j6 H
  have br:∀k,bM (g++[.own fun _=>False]) k↔bM g k:=fun k=>⟨fun⟨i,e,H,o⟩=>by
   rcases bc i e H with H|⟨_,rfl⟩
   ·exact⟨i,e,H,o⟩
   ·exact o.elim,fun⟨i,e,H,o⟩=>⟨i,e,by grind,o⟩⟩
  have hS:∀m,Step m w g w (g++[.own fun _=>False]):=fun m=>⟨rfl,rfl,rfl,aC _,fun _ _ _=>rfl,fun u U _=>(br u).1 U,fun i e _ H _=>.inl (by grind)⟩
  have hE:∀k,Ex X (g++[.own fun _=>False]) k->Ex X g k:=fun k o=>o.elim .inl fun h=>.inr ((br k).1 h)
  have ct:Inv w X (g++[.own fun _=>False]) (h++[.asn ab]):=by
   refine⟨by simp[O.len],fun i b e M H=>?_,fun i e u H U=>?_,fun i j e e' u Q hj U bP=>?_,fun u hx I=>O.cU u hx ((br u).1 I),O.df⟩
   ·rcases bc i e H with H|⟨rfl,rfl⟩
    ·exact ac6
    ·rw[O.len]at M
     simp at M;subst M
     exact⟨hA w,fun w2 _ _=>hA w2⟩
   ·rcases bc i e H with H|⟨_,rfl⟩
    ·exact O.lt i e u H U
    ·cases U
   ·exact acz
  have l7:b5 w (Ex X (g++[.own fun _=>False])) (g++[.own fun _=>False]) args vs:=⟨D.1,fun i s v hs hv=>(D.2 i s v hs hv).mono (g++[.own fun _=>False]) (fun _ _ _=>rfl) (aC _) (fun k _ hn hx=>hn (hE k hx)) fun i e H hl=>(hS (i+1)).g_ i e G H hl⟩
  refine(hc.ok w X _ vs ct l7).mono fun v w'⟨s,h',V,E,F,h3,h4⟩=>?_
  exact⟨s,h',V,E,F,h3,(hS g.length).trans (h4.le sM)⟩⟩
def yU.YK{P}{f}{args}{s}{ab}(hs:wv P f args s ab){h:Hp}{K}(o:∀u,fA h [.asn (ab u)] fun h'=>K (s u) h'):aq P f args h K:=hs.call o
def ym(gs:Nat->List Nat)(w):aI gs [] w fun _=>False:=⟨fun _ _=>False,sM,sM,sM⟩
end Go.Sx
namespace Go.Proofs.YtfkepgkmobgleaaGreatDoor
open Go.Sx Go.Air Tryz
def lcs:List SV:=.nils::(List.replicate 32 [SV.int .i64 0,.int .i64 0,.int .i64 0,.int .i64 0,.int .i64 0,.int .i64 0,.nils]).flatten
def am3:al prog 19 [] [] (fun s I=>s=.ptr 0 0/\I=[.fix 116 lcs]):=by refine al.ar aj func19 Y rfl (B ?_);exact adz
def amy(u):fW (aI (fun _=>[]) []) (cL [.fix 116 lcs] [u]) (gn u 0 []):=fun w O1 O2 E F _=>by have e:(fun k=>O1 k\/O2 k)=O2:=funext fun k=>propext ⟨fun h=>h.elim (fun h=>by obtain⟨Os,_,_,h3⟩:=E;obtain⟨i,Q,_⟩:=(h3 k).1 h;exact absurd Q (Nat.not_lt_zero i)) id,.inr⟩;rw[e];exact⟨⟨[],⟨0,0,0,0,[]⟩,⟨0,0,0,0,[]⟩,⟨0,0,0,0,[]⟩,⟨0,0,0,0,[]⟩⟩,⟨rfl,sM,sM,sM,sM,sM,sM,G⟩,ZD (A:=(lS [1,0,0,0,0,0])) Y rfl (by(conv=>whnf);(repeat(first|exact trivial|rfl|(refine⟨rfl,?_⟩;(conv=>whnf))))) rfl F⟩
def cf.life{m id}{ops}{J}{h}{K}(b p q)(T:TypeId)(cs)(ii:b≠p)(CW:q≠b)(NM:q≠p) (hd:cf prog m id ops J h fun F' I=>I[b]?=some (.fix 116 lcs)/\I[p]?=some (.asn (aI (fun _=>[]) []))/\I[q]?=some (.fix T cs)/\∀u,K (F'.map (kA b u)) (((I.set b .dead).set q (.fix T (cs.map (kA b u)))).set p (.asn (gn u 0 [])))):cf prog m id ops J h K:=by refine cf.fold (hd.mono fun F' I⟨E,F,h3,h4⟩=>⟨b,p,_,_,aI (fun _=>[]) [],fun u=>gn u 0 [],fun u=>(I.set b .dead).set q (.fix T (cs.map (kA b u))),E,w_ Y,fun u=>?_,fun u=>amy u,fun u=>amY _ _ _,fun u=>(mO.of (ao.1 E).1).set CW h3 .fix,h4⟩)<;>simp_all
def agS(es)(hl:es.length<=1000000)(cW:¬es=[]):aY prog 17 [.rs 2 es] (· =.rs 2 es):=by refine .aoC aj func17 Y rfl trivial (B ?_);refine⟨fun n2=>?_,?_⟩;refine B ?_;exact absurd n2 cW;refine B ?_;rfl
def S4(c:bT)(t l:Nat):bK:=.fix 79 (c.cells++[.int .i64 3,.int .i64 0,.int .i64 0,.ff,.int .i64 0,.ra t 0,.nils,.nils,.nils,.ra l 0,.nils,.nili,.nils,.nils])
def afL(c)(t l)(hc:d_ c):al prog 20 [.ptr 0 0,.int .i64 3] [S4 c t l] (fun s I=>∃d,s=.ifc 130 (.ptr 1 0)/\I=[S4 c t l,.fix 133 [.ra d 0,.mp 2,.ptr 0 0],.imap [] 0,.asn (fI d 0)]):=by refine al.ar aj func20 Y rfl ?_;have o9:=hc.fH.1;have td:=hc.fH.2;refine B ?_;refine yU.YK (ark _ o9 td) fun d=>?_;(conv=>whnf);(refine a6.of (lS [1,4,3,2]) _ _ Y ⟨d,rfl,rfl⟩ ?_;(conv=>whnf);(repeat(first|exact trivial|rfl|(refine⟨rfl,?_⟩;(conv=>whnf)))))
def T6(c:Cf):bT:=⟨c.mo,c.an,c.ec,c.pk,c.AV,c.pn,c.cp,c.hZ,c.gY,c.tr,c.Bn,c.AW,c.cy,c.AY,c.rs⟩
def agB(c)(hl:c.rs.length<=1000)(hv:kJ c=true):aY prog 16 [.agg (T6 c).cells] (· =.bool true):=by have:=agC c G;rw[hv]at this;exact this.mono fun v h=>h
def at1(c)(l:List (Int×Int))(gc:1<=c)(c1:c<=512)(r0:1<=l.length)(r1:l.length<=12):wv prog 18 [.int .i64 c,.int .i64 ((l.map ky).length:Int)] (fun u=>.tup [.ra u 0,.int .i64 0]) fun u=>cM u ⟨c,l.length,[],[],0,[],0⟩:=by rw[bh];exact at2 c l.length gc c1 G G
def auv{c}(h:aY prog 16 [.agg c] (· =.bool true)):aY prog 16 [.agg c] (· =.bool true):=h
def afK(num den kind pk pn cp hZ gY tries bn fH yq)(cJ:List (Int×Int))(t l)(hc:d_ ⟨3,num,den,kind,pk,pn,cp,hZ,gY,tries,bn,fH,512,yq,cJ⟩):al prog 20 [.ptr 0 0,.int .i64 3] [.fix 79 [.int .i64 3,.int .i64 num,.int .i64 den,.int .i64 kind,.int .i64 pk,.int .i64 pn,.int .i64 cp,.int .i64 hZ,.int .i64 gY,.int .i64 tries,.int .i64 bn,.int .i64 fH,.int .i64 512,.int .i64 yq,.rs 2 (cJ.map ky),.int .i64 3,.int .i64 0,.int .i64 0,.ff,.int .i64 0,.ra t 0,.nils,.nils,.nils,.ra l 0,.nils,.nili,.nils,.nils]] (fun s I=>∃d,s=.ifc 130 (.ptr 1 0)/\I=[.fix 79 [.int .i64 3,.int .i64 num,.int .i64 den,.int .i64 kind,.int .i64 pk,.int .i64 pn,.int .i64 cp,.int .i64 hZ,.int .i64 gY,.int .i64 tries,.int .i64 bn,.int .i64 fH,.int .i64 512,.int .i64 yq,.rs 2 (cJ.map ky),.int .i64 3,.int .i64 0,.int .i64 0,.ff,.int .i64 0,.ra t 0,.nils,.nils,.nils,.ra l 0,.nils,.nili,.nils,.nils],.fix 133 [.ra d 0,.mp 2,.ptr 0 0],.imap [] 0,.asn (fI d 0)]):=afL _ t l hc
def aes(t l d:Nat):Pl:=⟨t,l,d,fun _=>0,fun _=>0,fun _=>0,fun _=>0,fun _=>0,fun _=>0⟩
def M0(P:Pl)(c:bT):Ms:=⟨P,0,0,0,[],[],[],[],[],0,⟨c.cap,c.cJ.length,[],[],0,[],0⟩,0,[],0,[],[],[],[],[],[]⟩
def aod(c)(hv:aY prog 16 [.agg c.cells] (· =.bool true))(hc:d_ c):al prog 6 [.agg c.cells] [] (fun s I=>∃P,s=.tup [.ptr 0 0,.int .i64 0]/\I=HM c (M0 P c)):=by
 have⟨mode,num,den,kind,pk,pn,cp,hZ,gY,tries,bn,fH,cap,yq,cJ⟩:=c;obtain rfl:mode=3:=hc.mode;obtain rfl:cap=512:=hc.cap;refine al.Zu (aq.wG (ym fun _=>[]) (aq.wG (ym fun _=>[0]) (aq.wG (ym fun _=>[0]) (aq.wG (ym fun _=>[0]) (aq.wG (ym fun _=>[0]) (aq.wG (ym fun _=>[0]) (aq.wG (ym fun _=>[0]) (aq.ar aj func6 Y rfl ?_))))))));have l7:1<=cJ.length:=hc.cJ.1;have dB:cJ.length<=12:=hc.cJ.2;have gJ:(cJ.map ky).length=cJ.length:=bh _;have awC:(cJ.map ky).length<=1000000:=by rw[gJ];omega
 have cW:¬cJ.map ky=[]:=fun e=>by have:=fU List.length e;rw[gJ,v8]at this;omega
 have m2:=hv;have VW:(1:Int)<=512/\(512:Int)<=512:=dC;conv=>whnf
 refine(auv (by exact m2)).call (ri ?_);conv=>whnf
 refine dV rfl ?_;conv=>whnf
 refine(agS _ aM aM).call (ri ?_);conv=>whnf
 refine yU.YK (at1 _ _ VW.1 VW.2 l7 dB) fun Vo=>?_;conv=>whnf
 refine cf.life 9 0 10 79 (bT.cells ⟨3,num,den,kind,pk,pn,cp,hZ,gY,tries,bn,fH,512,yq,cJ⟩++[.int .i64 3,.int .i64 0,.int .i64 0,.ff,.int .i64 0,.ra Vo 0,.nils,.nils,.nils,.ptr 9 0,.nils,.nili,.nils,.nils]) dC dC dC (cf.fQ mixed aj ?_);conv=>whnf
 refine(am3).LA [] Y dC Y trivial trivial Y ?_;conv=>whnf
 refine⟨by kernel_rfl,?_⟩;conv=>whnf
 refine⟨Y,?_⟩;conv=>whnf
 refine⟨Y,?_⟩;conv=>whnf
 refine⟨Y,?_⟩;conv=>whnf
 refine fun ajJ=>?_;conv=>whnf
 refine(afK _ _ _ _ _ _ _ _ _ _ _ _ _ _ _ (by exact hc)).call [10,11,12,13] Y Y1 (C8 (C8 Y5)) ?_;rintro _ _ ⟨fN,rfl,rfl⟩;conv=>whnf
 (refine a6.of (lS [11,0,0,0,0,0,0,12,13,9,1,14,2,3,4,5,6,7]) _ _ Y ⟨aes Vo ajJ fN,rfl,rfl⟩ ?_;(conv=>whnf);(repeat(first|exact trivial|rfl|(refine⟨rfl,?_⟩;(conv=>whnf)))))
def sb{lg:List bG}{i}(h:i<lg.length):(lg.map bG.cells)[i]?=some (Z lg i).cells:=by rw[bz,b8 h];rfl
def qS(lg:List bG)(id:Int)(i:Nat):Prop:=i<=lg.length/\(lg.take i).find? (isLen id)=none
def qS.init(lg)(id):qS lg id 0:=⟨cx _,rfl⟩
def qS.step{lg}{id}{i}(h:qS lg id i)(Q:i<lg.length)(hn:¬((Z lg i).kind=1/\(Z lg i).fR=id)):qS lg id (i+1):=by
 refine⟨Q,?_⟩;rw[tW (b8 Q),Sl,h.2];have:isLen id (Z lg i)=false:=by unfold isLen;rw[dG,bX,bX];by_cases o:(Z lg i).kind=1;omega;exact .inl o
 simp[this]
def qS.Hv{lg}{id}{i}(h:qS lg id i)(Q:i<lg.length)(E:(Z lg i).kind=1)(F:(Z lg i).fR=id):(Z lg i).val=lenOf lg id:=by
 have e:lg.find? (isLen id)=some (Z lg i):=by
  have hd:lg=lg.take i++Z lg i::lg.drop (i+1):=by conv=>lhs;rw[<-List.take_append_drop i lg,Uv Q]
  rw[hd,Sl,h.2];have:isLen id (Z lg i)=true:=by unfold isLen;rw[qM E,qM F];rfl
  rw[<-hd];simp[this]
 unfold lenOf;rw[e]
def qS.none{lg}{id}{i}(h:qS lg id i)(Q:¬i<lg.length):0=lenOf lg id:=by have:=h.2;rw[j9 G]at this;unfold lenOf;rw[this]
def adF{ab:Prop}(k:ab:=by refine .same (B ?_);refine a6.of [some 0] _ _ Y ⟨rfl,rfl⟩ (B ?_);(repeat(first|exact trivial|rfl|(refine⟨rfl,?_⟩;(conv=>whnf))));(repeat(first|exact trivial|rfl|(refine⟨rfl,?_⟩;(conv=>whnf))|(refine⟨by first|assumption|exact Q.Hv ai G G|exact Q.none G|omega|omega|simp,?_⟩;(conv=>whnf))|(first|assumption|exact Q.Hv ai G G|exact Q.none G|omega|(simp;done))))):ab:=k
def adl{ab:Prop}(k:ab:=by refine⟨⟨i+1,Q.step ai G⟩,by show lg.length-(i+1)<lg.length-i;omega,.of [some 0] Y (B ?_)⟩;exact sr):ab:=k
def amS(lg)(id)(hl:lg.length<=1000000000):al prog 10 [.sl 0,.int .i64 id] [e5 lg] (fun s I=>s=.int .i64 (lenOf lg id)/\I=[e5 lg]):=by refine al.ar aj func10 Y rfl ?_;refine B ?_;refine b6.cq aj 32 (fun x:{x:Nat//qS lg id x}=>[(0,.sl 0),(1,.int .i64 id),(5,.int .i64 (x.1:Int))]) (fun x=>[e5 lg]) (fun x=>lg.length-x.1) ⟨0,.init _ _⟩ (.of [some 0] Y wt) ?_;·intro x;have⟨i,Q⟩:=x;dsimp only;have Q:=Q;by_cases ai:i<lg.length;rotate_left;rotate_left;refine B ?_;refine⟨(Z lg i).cells,sb ai,B ?_⟩;refine dT (fun _=>B ?_) fun _=>B ?_;refine⟨(Z lg i).cells,sb ai,B ?_⟩;refine dT (fun _=>B ?_) fun _=>B ?_;refine⟨(Z lg i).cells,sb ai,B ?_⟩;exact adF;exact adl;exact adl;refine B ?_;exact adF
def wj.row{T:TypeId}{z}{es aS}(hl:es.length=aS.length)(h:∀(i:Nat)(e e':List SV),es[i]?=some e->aS[i]?=some e'->pL e e'):wj (.row T z es) (.row T z aS):=fun w L g e M=>by
 cases e<;>simp only[aB]at M⊢;case row u jB n cap=>
  have⟨E,F,h3,h4,vs,h5,h6,h7⟩:=M;refine⟨E,G,h3,h4,vs,h5,h6,fun i e H=>?_⟩;have Q:i<es.length:=by rw[hl];exact(ao.1 H).1
  have hle:=h i _ e (aD Q) H;have⟨a,b⟩:=h7 i _ (aD Q);refine⟨by rw[<-hle.1];exact a,fun j s hs=>?_⟩;have hj:j<(es[i]).length:=by rw[hle.1];exact(ao.1 hs).1
  have⟨v,c,d,aa⟩:=b j _ (aD hj);exact⟨v,c,hle.2 j _ s (aD hj) hs _ _ _ _ d,aa⟩
 grind
def wo.cons{b b'}{h h'}(M:wj b b')(hh:wo h h'):wo (b::h) (b'::h'):=⟨by simp[hh.1],fun i a a' ha g6=>by cases i with|zero=>simp_all|succ i=>exact hh.2 i a a' (by simpa using ha) (by simpa using g6)⟩
def wo.nil:wo [] []:=⟨rfl,sM⟩
end Go.Proofs.YtfkepgkmobgleaaGreatDoor
namespace Go.Sx
open Go.Proofs.YtfkepgkmobgleaaGreatDoor Go.Sx Go.Air
def al.gR{P}{f}{args}{am}{R R'}(hs:al P f args am R) (hw:∀s I,R s I->∃s' bf,R' s' bf/\ux s s'/\wo I bf):al P f args am R':=
 ⟨⟨fun w X g vs O D=>(hs.ok.ok w X g vs O D).mono fun v w'⟨s,I,V,hR,bb,aE,hS⟩=>by
  have⟨s',bf,MG,hle,hhl⟩:=hw s I hR
  exact⟨s',bf,V,MG,hle _ _ _ _ bb,aE.gR hhl,hS⟩⟩⟩
end Go.Sx
namespace Go.Proofs.YtfkepgkmobgleaaGreatDoor
open Go.Sx Go.Air Tryz
def ajG(ls)(a)(n:Nat)(hn:n<=100)(h0:0<=a)(E:a<9223372036854700000):al prog 7 [.ptr 0 0,.int .i64 (n:Int)] [eP ls a] fun v I=>∃(l:List Ev)(a':Int),v=.sl 1/\I=[eP ls a',.row 44 6 (l.map ke)]/\l.length<=11+n/\∀e∈l,nE e:=
 (ajF ls a n hn h0 E).gR fun s I⟨es,l,a',e1,e2,D,b1,c0,i6,qY⟩=>⟨_,_,⟨l,a',rfl,rfl,b1,D.2.2⟩,by rw[e1];exact .refl _,by
  rw[e2]
  exact .cons (.refl _) (.cons (wj.row (by rw[D.1,bh]) fun i e e' E F=>by
   rw[bz,BC]at F
   obtain⟨x,F,rfl⟩:=F
   exact D.2.1 i e x E F) .nil)⟩
def ajE(ls)(a)(h0:0<=a)(E:a<=20):al prog 7 [.ptr 0 0,.int .i64 60] [eP ls a] fun v I=>∃(l:List Ev)(a':Int),v=.sl 1/\I=[eP ls a',.row 44 6 (l.map ke)]/\l.length<=71/\∀e∈l,nE e:=ajG ls a 60 dC h0 G
def ag9{c}(h:kJ c=true):d_ (T6 {c with mo:=3,cy:=512}):=by have⟨hp,D⟩:=T3 h;have⟨_,_,_,k1,k2,k3,rT,OB,OC,OD,OE,_,_,_,_,OF,OA⟩:=hp;refine⟨rfl,⟨OB,OC⟩,⟨k3,rT⟩,?_,⟨OF,OA⟩,?_,fun r ds=>?_,⟨OD,OE⟩,rfl⟩;show jZ c.pk c.AV c.pn=true;unfold jZ;rcases k1 with⟨a,b,d⟩|⟨a,b,d,e,f⟩<;>simp_all;show jq c.cp c.hZ c.gY=true;have⟨a1,a2,a3,a4,a5,eg⟩:=k2;unfold jq;simp;omega;have:=ir.1 D r ds;have:=cZ this;have⟨a1,a2,a3,a4⟩:=this;unfold ja;simp;omega
def aha{c}(h:kJ c=true):kJ {c with mo:=3,cy:=512}=true:=by have⟨hp,D⟩:=T3 h;have⟨_,_,ma,k1,k2,k3,rT,OB,OC,OD,OE,_,_,k11,k12,OF,OA⟩:=hp;exact T4 ⟨by simp_all,by simp_all,ma,k1,k2,k3,rT,OB,OC,OD,OE,by simp_all,by simp_all,k11,k12,OF,OA⟩ D
def SN(c:Cf):Prop:=kJ {c with mo:=3}=true
abbrev Cg(c:Cf)(cy:Int):List SV:=[.int .i64 3,.int .i64 c.an,.int .i64 c.ec,.int .i64 c.pk,.int .i64 c.AV,.int .i64 c.pn,.int .i64 c.cp,.int .i64 c.hZ,.int .i64 c.gY,.int .i64 c.tr,.int .i64 c.Bn,.int .i64 c.AW,.int .i64 cy,.int .i64 c.AY,.rs 2 (c.rs.map ky)]
def ajB(ls):eL prog 5 [.ptr 0 0,.int .i64 3] [eP ls 0] fun s I=>∃c a,SN c/\0<=a/\a<=20/\s=.agg (Cg c c.cy)/\I=[eP ls a]:=
 (ajC ls 0 3 dC dC).mono fun s I⟨E,F⟩=>by
  have D:=agw ls 0
  exact⟨Ci ls 0 3,_,agA ls 0 3 dC dC,G,G,E,F⟩
abbrev T5(c:Cf):bT:=⟨3,c.an,c.ec,c.pk,c.AV,c.pn,c.cp,c.hZ,c.gY,c.tr,c.Bn,c.AW,512,c.AY,c.rs⟩
def an9(Gt)(h:SN Gt):al prog 6 [.agg (Cg Gt 512)] [] (fun s I=>∃c P,c=T5 Gt/\d_ c/\s=.tup [.ptr 0 0,.int .i64 0]/\I=HM c (M0 P c)):=by have hv:=aha h;have hc:=ag9 h;refine(aod (T5 Gt) ?_ hc).mono fun s I⟨P,E,F⟩=>⟨_,P,rfl,hc,E,F⟩;exact agB _ (by have:=hc.cJ.2;exact dF this dC) hv
def anm{c}(hc:d_ c)(P):kD c 0 (M0 P c) [] []:=by refine⟨⟨⟨G,G,G⟩,⟨gF _,gF _⟩,⟨gF _,by show(0:Int)<=1099511627776;decide⟩,⟨gF _,by show(0:Int)<=16384;decide⟩,fun r D=>absurd D (by simp[M0]),by simp[M0],by simp[M0],fun i Q=>absurd Q (by simp[M0]),⟨by simp[M0],by simp[M0],fun f hf=>absurd hf (by simp[M0]),fun f hf=>absurd hf (by simp[M0]),rfl⟩,rfl,rfl,rfl,rfl,rfl,fun f hf=>absurd hf (by simp[M0]),fun f hf=>absurd hf (by simp[M0]),fun f hf=>absurd hf (by simp[M0]),fun f hf=>absurd hf (by simp[M0]),rfl,by simp[M0],by simp[M0],fun e H=>absurd H (by simp[M0]),fun e H=>absurd H (by simp[M0]),by simp[M0],by simp[M0],by simp[M0],.nil,rfl⟩,fun f=>?_,rfl⟩;show none=_;split<;>rfl
def ajO(ls):al prog 4 [.rs 1 (dv ls)] [] fun s I=>s=.ptr 0 0/\I=[eP ls 0]:=by refine al.ar aj func4 Y rfl (B ?_);exact adz
def oS:Ev:=⟨0,0,0,0,[],[]⟩
def CB{l:List Ev}{i}(h:i<l.length):(l.map ke)[i]?=some (ke (l.getD i oS)):=by simp_all
def aiv{l:List Ev}{i}(h:i<l.length):l.getD i oS∈l:=by simp_all
def I4:Array Value:=(Go.Lib.pow10Tab.map fun z=>Value.int .u64 z).toArray
def pY:fy:=nQ 2 443 I4
def apF:F7 AU I4:=⟨by unfold AU I4;simp,fun i s v E F=>by unfold AU at E;unfold I4 at F;grind⟩
def asF:aL prog 12 [] pY .tt pY:=aL.Eh GJ fuel ajw asG apH rfl rfl apF
abbrev S5(c:bT)(S:Ms)(r q s k a l:Nat):bK:=.fix 79 (c.cells++[.int .i64 3,.int .i64 S.slot,.int .i64 S.time,.ff,.int .i64 S.lost,.ra S.P.t 0,.sl r,.sl q,.sl s,.ra S.P.l 0,.sl k,.ifc 130 (.ptr 8 0),.sl a,.sl l])
abbrev abv(S:Ms):bK:=.fix 133 [.ra S.P.d 0,.mp 9,.ptr 1 0]
abbrev FZ(c:bT)(S:Ms):Hp:=[S5 c S 2 3 4 5 6 7,j0 S.rl,nh S.P S.qs.length,nm S.P S.sa.length,nf S.pk,jn S.ac,e5 S.lg,abv S,nn S.P S.tm S.ck]++B1 c S
end Go.Proofs.YtfkepgkmobgleaaGreatDoor
namespace Go.Sx
open Go.Proofs.YtfkepgkmobgleaaGreatDoor Go.Sx Go.Air Go.Proofs.Tryz
def yU.step{c}{S}{z b}(hc:d_ c)(h:aW c z b S)(hz:z+1<=100)(M:b+64<=8900){e}(hd:nE e)(h9:¬e.k=9){b1 c0 i6 qY}{K:SV->Hp->Prop} (o:∀M' v er,jG c z b S e v er M'->K (.agg [.int .i64 er,.int .i64 v]) (.asn pY::[S5 c M' 23 24 25 26 27 28,.dead,.dead,.dead,.dead,.dead,.dead,abv M',nn M'.P M'.tm M'.ck]++B1 c M'++[b1,c0,i6,qY,j0 M'.rl,nh M'.P M'.qs.length,nm M'.P M'.sa.length,nf M'.pk,jn M'.ac,e5 M'.lg])):aq prog 8 [.ptr 1 0,.agg (ke e)] (.asn pY::FZ c S++[b1,c0,i6,qY]) K:=by
 refine(atE c S z b hc h hz M e hd h9).call [1,2,3,4,5,6,7,8,9,10,11,12,13,14,15,16,17,18,23,24,25,26,27,28] Y ?_ ?_ ?_;·(conv=>whnf);(repeat(first|exact trivial|rfl|(refine⟨rfl,?_⟩;(conv=>whnf))))
 ·(conv=>whnf);(repeat(first|exact trivial|rfl|(refine⟨rfl,?_⟩;(conv=>whnf))))
 rintro _ _ ⟨M',v,er,hE,rfl,rfl⟩;exact o M' v er hE
end Go.Sx
namespace Go.Proofs.YtfkepgkmobgleaaGreatDoor
open Go.Sx Go.Air
end Go.Proofs.YtfkepgkmobgleaaGreatDoor
namespace Go.Sx
open Go.Proofs.YtfkepgkmobgleaaGreatDoor Go.Sx Go.Air Go.Proofs.Tryz
def yU.log{c}{S}(hl:S.lg.length<=1000000000){b1 c0 i6 qY}{K:SV->Hp->Prop}(o:K (.sl 23) (.asn pY::FZ c S++[b1,c0,i6,qY,e5 S.lg])):aq prog 9 [.ptr 1 0] (.asn pY::FZ c S++[b1,c0,i6,qY]) K:=by
 refine(am5 c S hl).call [1,2,3,4,5,6,7,8,9,10,11,12,13,14,15,16,17,18,23] Y ?_ ?_ ?_;·(conv=>whnf);(repeat(first|exact trivial|rfl|(refine⟨rfl,?_⟩;(conv=>whnf))))
 ·(conv=>whnf);(repeat(first|exact trivial|rfl|(refine⟨rfl,?_⟩;(conv=>whnf))))
 rintro _ _ ⟨rfl,rfl⟩;exact o
end Go.Sx
namespace Go.Proofs.YtfkepgkmobgleaaGreatDoor
open Go.Sx Go.Air Tryz
def Qe{lg:List bG}{i:Nat}{q}(h:lg[i]?=some q):(lg.map bG.cells)[i]?=some q.cells:=by simp_all
def aov{lg s}{j}(h:j<s.length):dv (oz lg s j)++[[SV.int .i64 (lenOf lg (Z s j).fR)]]=dv (oz lg s (j+1)):=by rw[atT (b8 h)];simp[dv]
def QU{lg s}{j}(h:j<=s.length):(oz lg s j).length=j:=by unfold oz;simp_all
def asK{lg s:List bG}{a}(h:∀j q,s[j]?=some q->lg[a+1+j]?=some q)(ha:a<lg.length):a+1+s.length<=lg.length:=by by_cases h0:s.length=0;omega;have:=h (s.length-1) _ (b8 G);grind
def ZH{c}{S}{lg s}{r}{j}{rr}(D:rr=ni c S.t)(ha:lH (S.pk.map (·.len)) lg)(hs:sJ c (re c S) r s)(hj:j=s.length):mi (oz lg s j) c.cp c.hZ c.gY (Z rr r.val.toNat).1 (Z rr r.val.toNat).2=true:=by subst hj;subst D;rw[atS ha hs];exact hs.fits
open Classical in
def apx{ls:List Int}{p b t k aa:Int}(h:mi ls p b t k aa=true):ls.length<=32:=by unfold mi at h;rw[bR,bR]at h;have E:=h.1.1;have F:=cZ h.2;unfold jq at E;simp at E;have:=F.2.2.1;omega
def aam{l}{i}(h:i<l.length):(l.map ky)[i]?=some (ky (Z l i)):=by rw[bz,b8 h];rfl
def sq{ab:Prop}(k:ab:=by refine⟨⟨a+1,G⟩,by show S.lg.length-(a+1)<S.lg.length-a;omega,.of [some 0,some 1,some 2,some 3,some 4] Y (B ?_)⟩;refine⟨by exact(a_ _ G G).trans sM,B ?_⟩;exact trivial):ab:=k
def adH{ab:Prop}(k:ab:=by refine B ?_;refine⟨⟨(i+1,M1,sm,ck,rr),by show i+1<=_;omega,hx.oth hE G⟩,by show fN.length-(i+1)<fN.length-i;omega,.of [some 0,some 1,some 23,some 24,some 25,some 26,some 27,some 28,some 8,some 9,some 10,some 11,some 12,some 13,some 14,some 15,some 16,some 17,some 18,some 19,some 20,some 21,some 22] Y (B ?_)⟩;refine⟨by exact(a_ _ G G).trans sM,B ?_⟩;exact trivial):ab:=k
def R7{ab:Prop}(k:ab:=by refine .same (B ?_);refine⟨(Z S.lg a).cells,sb nV,B ?_⟩;refine dV sM (B ?_);refine⟨ky (Z rr (Z S.lg a).val.toNat),aam G,B ?_⟩;refine(apj _ aM _ _ _ _ _).XR (And.intro rfl (And.intro rfl (And.intro rfl trivial))) (B ?_);exact sq):ab:=k
def amD(ls):al prog 3 [.rs 1 (dv ls)] [.asn pY] (fun s I=>s=.tt/\I=[.asn pY]):=by
 refine al.ar aj func3 Y rfl (B ?_);refine(ajO _).call [1] Y (And.intro rfl trivial) trivial (rj (B ?_));refine(ajB _).call [1] dC (And.intro rfl trivial) (And.intro rfl trivial) ?_;rintro _ _ ⟨mH,vT,g12,g13,g14,rfl,rfl⟩;refine B ?_;refine(an9 _ aM).call [3,4,5,6,7,8,9,10,11,12,13,14,15,16,17,18,19,20] Y (And.intro rfl (And.intro rfl (And.intro rfl (And.intro rfl (And.intro rfl (And.intro rfl (And.intro rfl (And.intro rfl (And.intro rfl (And.intro rfl (And.intro rfl (And.intro rfl (And.intro rfl (And.intro rfl (And.intro rfl trivial))))))))))))))) trivial ?_;rintro _ _ ⟨tZ,u21,g22,g23,rfl,rfl⟩;refine B ?_;refine(ajE _ _ aM aM).call [1,21] Y (And.intro rfl trivial) (And.intro rfl (And.intro rfl trivial)) ?_;rintro _ _ ⟨fN,u31,rfl,rfl,g32,g33⟩;refine B ?_;refine b6.cq aj 194 (fun x:{x:Nat×Ms×List (Int×Int×Nat)×Nat×List (Int×Int)//x.1<=fN.length/\kD tZ x.1 x.2.1 x.2.2.1 x.2.2.2.2}=>[(4,.ptr 19 0),(5,.ptr 1 0),(7,.sl 20),(8,.mp 21),(9,.sl 22),(10,.int .i64 (x.1.1:Int))]) (fun x=>.asn pY::FZ tZ x.1.2.1++[.fix 33 (Cg mH 512),.row 44 6 (fN.map ke),.imap (mE n9 x.1.2.2.1) x.1.2.2.2.1,.row 49 2 (x.1.2.2.2.2.map ky)]) (fun x=>fN.length-x.1.1) ⟨(0,M0 u21 tZ,[],0,[]),cx _,anm g23 u21⟩ (.of [some 0,some 3,some 4,some 5,some 6,some 7,some 8,some 9,some 10,some 11,some 12,some 13,some 14,some 15,some 16,some 17,some 18,some 19,some 20,some 2,some 21,some 22,some 23] Y ?_) ?_;exact t7
 ·intro x;have⟨⟨i,S,sm,ck,rr⟩,d7,hx⟩:=x;dsimp only;have d7:i<=fN.length:=d7;have hx:kD tZ i S sm rr:=hx;have aw:=hx.ok;have nS:(fN.map ke).length=fN.length:=bh _;have gK:tZ.cJ=mH.rs:=by rw[g22]
  have qe:(rr.map ky).length=rr.length:=bh _;have akM:=aw.lgn;have akK:S.lg.length<=1000000000:=G;have awE:rr.length<=16:=by rw[hx.rr];unfold ni;rw[bh];exact aw.tb.m
  have Nt:=aw.log;have He:=aw.acc;have xE:(S.lg.map bG.cells).length=S.lg.length:=bh _;have rE:tZ.cp=mH.cp/\tZ.hZ=mH.hZ/\tZ.gY=mH.gY:=by rw[g22];exact⟨rfl,rfl,rfl⟩
  by_cases ai:i<fN.length;rotate_left;skip;rotate_left;have d8:i+1<=100:=G;have ld:64*i+1+64<=8900:=G;have MX:=g33 _ (aiv ai);refine B ?_;refine⟨ke (fN.getD i oS),CB ai,B ?_⟩;refine⟨fun s8=>?_,fun s8=>?_⟩;simp only[bs,bX]at s8;refine B ?_;refine⟨⟨(i+1,S,sm,ck,rr),by show i+1<=_;omega,hx.up G⟩,by show fN.length-(i+1)<fN.length-i;omega,.of [some 0,some 1,some 2,some 3,some 4,some 5,some 6,some 7,some 8,some 9,some 10,some 11,some 12,some 13,some 14,some 15,some 16,some 17,some 18,some 19,some 20,some 21,some 22] Y (B ?_)⟩;exact acj;simp only[bs,bX]at s8;refine B ?_;refine⟨ke (fN.getD i oS),CB ai,B ?_⟩;refine yU.step g23 aw d8 ld MX aM fun M1 v er hE=>B ?_;refine⟨fun M_=>?_,fun M_=>?_⟩;simp only[bs,bX]at M_;exact adH;simp only[bs,bX]at M_;refine B ?_;refine⟨ke (fN.getD i oS),CB ai,B ?_⟩;refine⟨fun Nb=>?_,fun Nb=>?_⟩;simp only[bs,bX]at Nb;refine B ?_;refine⟨ke (fN.getD i oS),CB ai,B ?_⟩;refine⟨by(have h7:=(hx.EZ hE G aM).1;rw[gK]at h7;rw[bh];exact h7),B ?_⟩;refine⟨ky (Z mH.rs (fN.getD i oS).b.toNat),aam (by have h7:=(hx.EZ hE G aM).1;rw[gK]at h7;omega),B ?_⟩;refine⟨⟨(i+1,M1,sm,ck,rr++[Z mH.rs (fN.getD i oS).b.toNat]),by show i+1<=_;omega,(by rw[<-gK];exact(hx.EZ hE G ‹(fN.getD i oS).k=4›).2)⟩,by show fN.length-(i+1)<fN.length-i;omega,.of [some 0,some 1,some 23,some 24,some 25,some 26,some 27,some 28,some 8,some 9,some 10,some 11,some 12,some 13,some 14,some 15,some 16,some 17,some 18,some 19,some 20,some 21,some 31] Y (B ?_)⟩;refine⟨by exact(a_ _ G G).trans sM,B ?_⟩;refine⟨by(rw[dx];rfl),B ?_⟩;exact trivial;simp only[bs,bX]at Nb;refine B ?_;refine⟨fun Nc=>?_,fun Nc=>?_⟩;simp only[bs,bX]at Nc;refine B ?_;refine⟨ke (fN.getD i oS),CB ai,B ?_⟩;refine⟨⟨(i+1,M1,gb sm v (fN.getD i oS).a ck,pe sm v ck,rr),by show i+1<=_;omega,hx.flw hE G ‹(fN.getD i oS).k=5› _⟩,by show fN.length-(i+1)<fN.length-i;omega,.of [some 0,some 1,some 23,some 24,some 25,some 26,some 27,some 28,some 8,some 9,some 10,some 11,some 12,some 13,some 14,some 15,some 16,some 17,some 18,some 19,some 20,some 21,some 22] Y (B ?_)⟩;refine⟨by exact(a_ _ G G).trans sM,B ?_⟩;refine⟨by exact tz _ _ _ _,B ?_⟩;refine⟨by exact qw _ _ _ _,B ?_⟩;exact trivial;simp only[bs,bX]at Nc;exact adH
  ·refine B ?_;refine .same (B (yU.log akK (B ?_)));refine b6.cq aj 194 (fun y:{y:Nat//y<=S.lg.length}=>[(4,.ptr 1 0),(8,.mp 2),(9,.sl 3),(12,.sl 4),(13,.int .i64 (y.1:Int))]) (fun y=>[.asn pY,.fix 33 (Cg mH 512),.imap (mE n9 sm) ck,.row 49 2 (rr.map ky),e5 S.lg]) (fun y=>S.lg.length-y.1) ⟨0,cx _⟩ (.of [some 0,some 19,some 21,some 22,some 23] Y ?_) ?_;exact t7
   ·intro y;have⟨a,ha⟩:=y;dsimp only;have ha:a<=S.lg.length:=ha;by_cases nV:a<S.lg.length;by_cases fO:(Z S.lg a).kind=5/\0<=(Z S.lg a).aR;have avZ:=fO.1;have av0:=fO.2;have⟨s,cY,jT,xQ⟩:=Nt.at (b8 nV) fO.1 fO.2;have⟨zR,oU,MZ⟩:=hx.st cY.aR;have tg:=asK jT nV;have awG:s.length<=32:=by have h9:=apx (ZH hx.rr He cY (rfl:s.length=s.length));rwa[QU (aC _)]at h9
    ·refine B ?_;refine⟨(Z S.lg a).cells,sb nV,B ?_⟩;refine⟨(Z S.lg a).cells,sb nV,B ?_⟩;refine⟨(Z S.lg a).cells,sb nV,B ?_⟩;(refine nG.of rfl (fun w0 Ad=>?_) (fun dW=>absurd (dW.symm.trans zR) sM);have e:(Z S.lg a).val=w0:=mJ (zR.symm.trans Ad);subst e);refine B ?_;refine b6.cq aj 194 (fun w:{w:Nat//w<=s.length}=>[(4,.ptr 1 0),(8,.mp 2),(9,.sl 3),(12,.sl 4),(13,.int .i64 (a:Int)),(14,.int .i64 (Z S.lg a).val),(15,.tt),(16,.sl 5),(17,.int .i64 ((a+1+w.1:Nat):Int))]) (fun w=>[.asn pY,.fix 33 (Cg mH 512),.imap (mE n9 sm) ck,.row 49 2 (rr.map ky),e5 S.lg,.row 3 1 (dv (oz S.lg s w.1))]) (fun w=>s.length-w.1) ⟨0,cx _⟩ (.of [some 0,some 1,some 2,some 3,some 4,none] Y ?_) ?_;refine B ?_;exact acj
     ·intro w;have⟨j,hj⟩:=w;dsimp only;have hj:j<=s.length:=hj;have Oc:(dv (oz S.lg s j)).length=j:=by rw[qz,QU hj]
      have awV:(oz S.lg s j).length<=1000000:=by rw[QU hj];omega
      by_cases Hx:j<s.length;have hq:=jT j _ (b8 Hx);have⟨WI,HH,hq5,hq6⟩:=cY.kinds _ (od Hx);have⟨WJ,_,_⟩:=hx.st HH;have hql:a+1+j<S.lg.length:=(ao.1 hq).1;rotate_left;have fD:=ZH hx.rr He cY (show j=s.length by omega);rw[rE.1,rE.2.1,rE.2.2]at fD;have hq8:a+1+j<S.lg.length->¬(Z S.lg (a+1+j)).kind=3:=fun h9=>xQ _ (by rw[show s.length=j by omega];exact b8 h9);rotate_left;refine B ?_;refine⟨(Z s j).cells,Qe hq,B ?_⟩;refine⟨(Z s j).cells,Qe hq,B ?_⟩;(refine nG.of rfl (fun w0 Ad=>?_) (fun dW=>absurd (dW.symm.trans WJ) sM);have e:(Z S.lg a).val=w0:=mJ (WJ.symm.trans Ad);subst e);refine B ?_;refine dV sM (B ?_);refine⟨(Z s j).cells,Qe hq,B ?_⟩;refine(amS _ _ aM).call [4] Y (And.intro rfl trivial) (And.intro rfl trivial) (rj (B ?_));(refine⟨⟨j+1,G⟩,by show s.length-(j+1)<s.length-j;omega,.of [some 0,some 1,some 2,some 3,some 4,some 7] Y ?_⟩);refine B ?_;refine⟨by(show IntKind.i64.wrap (((a+1+j:Nat):Int)+1)=((a+1+(j+1):Nat):Int);exact(a_ _ G G).trans G),?_⟩;refine B ?_;refine⟨by exact aov Hx,B ?_⟩;exact trivial;refine B ?_;refine⟨fun Nh=>?_,fun Nh=>?_⟩;simp only[bs,bX]at Nh;refine B ?_;refine⟨(Z S.lg (a+1+j)).cells,sb G,B ?_⟩;exact R7;simp only[bs,bX]at Nh;refine B ?_;exact R7
    refine B ?_;refine⟨(Z S.lg a).cells,sb nV,B ?_⟩;refine⟨fun M6=>?_,fun M6=>?_⟩;simp only[bs,bX]at M6;refine B ?_;exact sq;simp only[bs,bX]at M6;refine B ?_;refine⟨(Z S.lg a).cells,sb nV,B ?_⟩;exact sq;refine B ?_;refine .same (B ?_);refine aL.call (p:=0) (asF) rfl (B ?_);exact adz
end Go.Proofs.YtfkepgkmobgleaaGreatDoor
namespace Go.Sx
section
variable{P:Program}
def asf{w}{u}{T:TypeId}{cw}{v}{ls:List Int}(U:w.heap[u]?=some (.cells cw T (0,0)))(o:∀(i:Nat)(x:Value),cw[i]?=some x->∃n,x=.int .u64 n) {g}(ak:∀k,bM g k->k=u)(h:af w (fun _=>False) [] (.rs 1 (ls.map fun z=>[SV.int .i64 z])) v):af w (Ex (fun _=>False) g) g (.rs 1 (ls.map fun z=>[SV.int .i64 z])) v:=by
 generalize H:(ls.map fun z=>[SV.int .i64 z])=es at h;cases h with
 |hJ hc=>exact .hJ hc
 | @rs _ _ _ ec c val hc hm hE ai hlen d2 cX bb=>
  have hint:∀(i:Nat)(e:List SV)(j:Nat)(s:SV),es[i]?=some e->e[j]?=some s->∃n,s=.int .i64 n:=fun i e j s E F=>by grind
  by_cases o6:es=[];subst o6;exact .hJ (a:=some ec) hm;refine .rs hc hm ?_ ai hlen d2 cX fun i e j s E F=>?_;rintro(hx|I);exact hx;have F:=ak _ I;obtain⟨e0,r,rfl⟩:=List.exists_cons_of_ne_nil o6;have hl:=hlen 0 e0 rfl;obtain⟨s0,rfl⟩:∃s0,e0=[s0]:=List.length_eq_one_iff.1 hl;have fc:=d2 0 [s0] 0 s0 rfl rfl;obtain⟨n,rfl⟩:=hint 0 [s0] 0 s0 rfl rfl;have D:=bb 0 _ 0 _ rfl rfl;generalize val 0 0=x at fc D;cases D;have M:(ec.add (0*1+0)).block=u:=by rw[ze];exact F
  unfold World.cell? at fc;grind;obtain⟨n,rfl⟩:=hint i e j s E F;have D:=bb i e j _ E F;generalize val i j=x at D;cases D;exact .int
def amC{f}{fn}{c}{args}(hf:P.funcs[f]?=some fn)(hn:(fn.name== "runtime.NumGoroutine")=false)(M:fn.body=some c){u}{T:TypeId}{cw} (hc:al P f args [.asn (nQ u T cw)] fun s h=>s=.tt/\h=[.asn (nQ u T cw)]){w}(U:w.heap[u]?=some (.cells cw T (0,0))) {vs}(D:b5 w (Ex (fun _=>False) [.own fun k=>k=u]) [.own fun k=>k=u] args vs):Calls P f vs.toArray w fun e w'=>e=.returned (.bool true)/\RowKit.Below w.heap.size w w':=by
 have ai:u<w.heap.size:=(iF.1 U).1;have hA:nQ u T cw w fun k=>k=u:=⟨fun k=>Iff.rfl,U⟩;have O:Inv w (fun _=>False) [.own fun k=>k=u] [.asn (nQ u T cw)]:=by
  refine⟨rfl,fun i b e E F=>?_,fun i e k E F=>?_,fun i j e e' k E F _ _=>?_,fun k h=>h.elim,fun k h=>h.elim⟩;cases i with|zero=>simp at E F;subst E;subst F;exact⟨hA,fun w2 e2 s2=>ajL w w2 _ hA e2 s2⟩|succ i=>simp at E
  cases i with|zero=>simp at E;subst E;have F:k=u:=F;omega|succ i=>simp at E
  grind
 have:=hc.ok.ok w (fun _=>False) [.own fun k=>k=u] vs O D;have ro:(callFunc f vs.toArray).run P w=.ok (.enter f vs.toArray) w:=by exact ad1
 unfold bO at this;rw[ro]at this;refine this.mono fun e w'⟨v,H,s,h',V,⟨e1,h0⟩,jS,aE,hS⟩=>?_;subst e1;subst h0;refine⟨?_,⟨hS.os,hS.tape,hS.output,hS.size,fun k o=>?_⟩⟩;rw[H];cases jS;rfl;by_cases xC:k=u;subst xC;have rc:V.length=1:=aE.len;obtain⟨e',rfl⟩:∃e,V=[e]:=by match V,rc with|[e],_=>simp_all
 have aw:=aE.ok 0 _ _ rfl rfl;cases e'<;>simp only[aB]at aw;obtain⟨⟨_,F⟩,_⟩:=aw;rw[F,U];refine hS.frame k o fun⟨i,e,E,F⟩=>?_;cases i with|zero=>simp at E;subst E;exact xC F|succ i=>simp at E
end
