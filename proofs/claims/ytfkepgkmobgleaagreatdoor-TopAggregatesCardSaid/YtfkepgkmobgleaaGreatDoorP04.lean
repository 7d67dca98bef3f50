/- Lemmas for TopZ; tactic blocks in binders fill in some arguments. -/
import Derived.ChangeKeysEq
import Derived.Lib.UnsafeStr
import Derived.Test.YtfkepgkmobgleaaGreatDoorP03
set_option linter.all false
noncomputable section
namespace Go.Sx
section
variable{P:Program} {T:aG}
def jo{α:Type}(c:Bool)(a b:List α)(k:List α->Prop):Prop:=Bool.rec (motive:=fun _=>Prop) (k (a++b)) (fA a b k) c
def zp{α:Type}{c}{a b}{k:List α->Prop}(h:jo c a b k):k (a++b):=by cases c with|true=>exact iL h|false=>exact h
def Eu{α:Type}(c:Bool)(n:Nat)(a:List α)(k:List α->Prop):Prop:=Bool.rec (motive:=fun _=>Prop) (k (a.take n)) (mD n a k) c
def P5{α:Type}{c}{n}{a}{k:List α->Prop}(h:Eu c n a k):k (a.take n):=by cases c with|true=>exact(yB h).2|false=>exact h
def Be{α:Type}(c:Bool)(n:Nat)(a:List α)(k:List α->Prop):Prop:=Bool.rec (motive:=fun _=>Prop) (k (a.drop n)) (w4 n a k) c
def abl{α:Type}{c}{n}{a}{k:List α->Prop}(h:Be c n a k):k (a.drop n):=by cases c with|true=>exact(Ct h).2|false=>exact h
def A5(es:List (List SV))(n:Nat):Bool:=List.rec (motive:=fun _=>Bool) false (fun _ _ _=>Nat.ble n es.length) es
def ar4{es}{n}(h:A5 es n=true):n<=es.length/\es≠[]:=by cases es with|nil=>exact absurd h (by simp[A5])|cons e es=>exact⟨nw h,by simp⟩
def jr(n m ww:Nat):Bool:=decide (n+m<=4611686018427387903/\(n+m)*ww<=140737488355328)
def Md(d:Bool)(n m ww:Nat)(k:Prop):Prop:=Bool.rec (motive:=fun _=>Prop) (bo (jr n m ww) k) ((n+m<=4611686018427387903/\(n+m)*ww<=140737488355328)/\k) d
def UX{d}{n m ww}{k}(h:Md d n m ww k):jr n m ww=true/\k:=by cases d with|false=>exact bL h|true=>exact⟨qM h.1,h.2⟩
def Gj(d p:Bool)(e:TypeId)(z:Nat)(es:List (List SV))(k:bK->Prop):Prop:=Bool.rec (motive:=fun _=>Prop) (k (dr p e z es)) (Bool.rec (motive:=fun _=>Prop) (k (.row e z es)) (k (.prow e z es)) p) d
def TJ{d p}{e:TypeId}{z}{es}{k}(h:Gj d p e z es k):k (dr p e z es):=by cases d<;>cases p<;>exact h
def zg(T:aG)(c d:Bool)(U:dm)(ae:Nat)(t ag:TypeId)(s x:SV)(K:bC):Prop:=
 aX T t fun te=>match te.ti with
  |.slice e=>aX T e fun ee=>iq ee.zero fun zs=>og 1 ee.size (EX T c U ag e ee.size zs x fun ps xs rd=>match s with
   |.nils=>Md d 0 xs.length ee.bytes (Gj d ps e ee.size xs fun aZ=>K (.sl ae) [(ae,aZ)] (ae::rd))
   |.z0=>aX T ag fun tu=>match tu.ti with
    |.slice _=>List.rec (motive:=fun _=>Prop) (K .z0 [] rd) (fun _ _ _=>bo (jr 0 xs.length ee.bytes) (K (.sl ae) [(ae,dr ps e ee.size xs)] (ae::rd))) xs
    |_=>False
   |.sl b=>fJ U b fun pd t0 q es=>bd t0 e (bd q ee.size (Md d es.length xs.length ee.bytes (jo c es xs fun r=>Gj d (iB pd ps) e ee.size r fun aZ=>K (.sl ae) [(ae,aZ),(b,.dead)] (ae::b::rd))))
   |.ss b lo m=>fJ U b fun pd t0 q es=>bd t0 e (bd q ee.size (bo (jr m xs.length ee.bytes) (dy (A5 es (lo+m+xs.length))
    (Eu c (lo+m) es fun a=>Be c (lo+m+xs.length) es fun d=>jo c xs d fun y=>jo c a y fun r=>K (.ss b lo (m+xs.length)) [(b,dr (iB pd ps) e ee.size r)] (b::rd))
    (bd lo 0 (og m es.length<|og 1 es.length<|Eu c m es fun a=>jo c a xs fun r=>K (.sl ae) [(ae,dr (iB pd ps) e ee.size r),(b,.dead)] (ae::b::rd))))))
   |_=>False)
  |_=>False
def TW{w}{L}{g}{Eo Er}{z}{es ys}{ws}{cw news} (At:cw.length=es.length*z)(h0:y8 w L (gQ Eo g) z es cw)(aw:y8 w L (gQ Er g) z ys news)(l9:ws.toList.take ((es.length+ys.length)*z)=cw++news):kF w L (gQ (iB Eo Er) g) z (es++ys) ws:=by
 have ha:∀{s:SV}{v:Value},af w L (gQ Eo g) s v->af w L (gQ (iB Eo Er) g) s v:=fun h=>vP (fun hq=>(vA hq).1) h;have M:∀{s v},af w L (gQ Er g) s v->af w L (gQ (iB Eo Er) g) s v:=fun h=>vP (fun hq=>(vA hq).2) h;intro k a fO;have km:k<es.length+ys.length:=by have:=(ao.1 fO).1;simpa using this
 have h2:∀j,j<z->ws[k*z+j]?=(cw++news)[k*z+j]?:=fun j hj=>by refine at0 l9 _ ?_;have:=e8 z km;grind
 rw[gr]at fO;by_cases Wn:k<es.length;rw[au Wn]at fO;obtain⟨E,F⟩:=h0 k a fO;grind;rw[ay Wn]at fO;obtain⟨E,F⟩:=aw _ a fO;refine⟨E,fun j q hq=>?_⟩;obtain⟨v,h3,h4,h5⟩:=F j q hq;have hj:j<z:=by rw[<-E];exact(ao.1 hq).1
 refine⟨v,?_,M h4,h5⟩;have hle:es.length*z<=k*z:=e8 _ (by omega);rw[h2 j hj,jf (by rw[At];omega),At];rw[show k*z+j-es.length*z=(k-es.length)*z+j by rw[Nat.sub_mul];omega];exact h3
def kF.steps{p}{m}{w w'}{X}{g V}{z}{es}{vs}(h:kF w (Ex X g) (gQ p g) z es vs)(k:Step m w g w' V)(hm:g.length<=m):kF w' (Ex X V) (gQ p V) z es vs:=
 fun i e H=>⟨(h i e H).1,fun j s hs=>by obtain⟨v,a,b,c⟩:=(h i e H).2 j s hs;exact⟨v,a,mF b k hm,c⟩⟩
def YU{w}{X}{g}{F}(O:Inv w X g F){ae}(hf:F[ae]?=some .fresh)(p)(e:TypeId)(z):af w (Ex X (g.set ae .rownil)) (g.set ae .rownil) (.sl ae) (.slice none 0 0)/\Inv w X (g.set ae .rownil) (F.set ae (dr p e z []))/\Step g.length w g w (g.set ae .rownil):=by
 have ak:=lR O hf;have ai:=(ao.1 ak).1;have br:∀u,bM (g.set ae .rownil) u->bM g u:=fun u U=>(PT u U).resolve_left (by simp[ba.owns]);have bc:∀j a,(g.set ae .rownil)[j]?=some a->(j=ae/\a=.rownil)\/(j≠ae/\g[j]?=some a):=by intro j a ha;rw[bu]at ha;by_cases hj:ae=j;simp_all;grind
 have hS:Step g.length w g w (g.set ae .rownil):=⟨rfl,rfl,rfl,aC _,fun _ _ _=>rfl,fun u U _=>br u U,fun j a _ ha dp=>by rw[bu];by_cases hj:ae=j;subst hj;rw[ak]at ha;simp at ha;exact absurd (by rw[<-ha];trivial) dp;simp_all⟩;refine⟨.dE (by simp[ai]),⟨by simp[O.len],fun j c a hc ha=>?_,fun j a u ha U=>?_,fun j k a a' u hj o U bP=>?_,fun u hx I=>O.cU u hx (br u I),O.df⟩,hS⟩;rw[bu]at hc;rcases bc j a ha with⟨rfl,rfl⟩|⟨E,cn⟩;rw[au rfl,au (by simp_all)]at hc;simp at hc;subst hc;exact YT;rw[ay (fun e=>E e.symm)]at hc;exact(O.ok j c a hc cn).step hS (aC _) fun _ _=>rfl
 rcases bc j a ha with⟨_,rfl⟩|⟨_,cn⟩;simp[ba.owns]at U;exact O.lt j a u cn U;rcases bc j a hj with⟨_,rfl⟩|⟨_,h3⟩;simp[ba.owns]at U;rcases bc k a' o with⟨_,rfl⟩|⟨_,h4⟩;simp[ba.owns]at bP;exact O.inj j k a a' u h3 h4 U bP
def PB{w}{X}{g}{F}(O:Inv w X g F){ae}(hf:F[ae]?=some .fresh){p}{t:TypeId}{sz cap}{es}{vs} (cR:es.length<=cap)(d0:cap<=maxLen)(hl:vs.size=cap*sz)(hc:kF w (Ex X g) (gQ p g) sz es vs):∃V,af (w.alloc (.cells vs t)) (Ex X V) V (.sl ae) (.slice (some ⟨w.heap.size,0,none⟩) es.length cap)/\Inv (w.alloc (.cells vs t)) X V (bF [(ae,dr p t sz es)] F)/\Step g.length w g (w.alloc (.cells vs t)) V/\V.length=g.length:=by cases p with|false=>exact PA O hf cR d0 hl hc|true=>exact aoe O hf cR d0 hl hc
def adv{ab:Prop}(k:ab:=by
 obtain⟨aE,ca⟩:=Cs O;have ale:kF w (Ex X g) (gQ ps g) i.size ys cur:=by
  intro k a ha;obtain⟨a1,a2⟩:=aw k a ha;refine⟨a1,fun j q hq=>?_⟩;obtain⟨v,c1,c2⟩:=a2 j q hq;have hj:j<i.size:=by rw[<-a1];exact(ao.1 hq).1
  have km:=(ao.1 ha).1;have:=e8 i.size (show k+1<=ys.length from km);rw[oC]at this;refine⟨v,?_,c2⟩;rw[<-c1,<-h4,je,au (by omega),eF]
 obtain⟨V,c1,c2,c3,agf⟩:=PB aE cE (p:=ps) (t:=e) (sz:=i.size) (cap:=cap) (es:=ys) (vs:=cur) E cn h3 (ale.steps ca (aC _));exact⟨V,c1,c2,ca.trans c3,agf⟩):ab:=k
def Lg(hT:bl P T){c d}{J}{h:Hp}{ae}(hf:h[ae]?=some .fresh){xs}{kB}{x0 y0}{t ag:TypeId}(bv:xs.toList=[x0,y0])(bD:kB.toList=[t,ag]){K} {s x}(hs:∀w L g A,bA w L g J A x0->af w L g s (A x0))(hx:∀w L g A,bA w L g J A y0->af w L g x (A y0)) (o:zg T c d (av h) ae t ag s x K):aN P J h (.call ⟨.builtin .append,xs,kB⟩) K:=by
 have bD:kB= #[t,ag]:=by rw[<-yR (xs:=kB),bD]
 subst bD;have kU:∀w L g A,(∀z∈(Op.call ⟨.builtin .append,xs,#[t,ag]⟩).operands.toList,bA w L g J A z)->xs.toList.map A=[A x0,A y0]/\af w L g s (A x0)/\af w L g x (A y0):=fun w L g A I=>by exact adV
 have o:=b4 hT o;generalize ax:(bk P t).ti=ti at o;cases ti with
 |slice e=>
  replace o:=b4 hT o
  obtain⟨i,z,Q,iW,jM,hz,d8,hi,kW,o⟩:=oc o
  obtain⟨dX,o⟩:=qq o
  have lu:=fi (bm ax (by simp)).1
  rw[iW]at dX o
  rw[hz]at o
  obtain⟨ps,ys,mu,o,qh⟩:=abe hT lu Q d8 hi kW dX o
  have go:∀{A d ty pos after guard w w' X g F r ws v'},
   xs.toList.map A=[A x0,A y0]->(Builtin.append_ #[t,ag] ty #[A x0,A y0]).run P w=.ok v' w'->
   (∃V,af w' (Ex X V) V r v'/\Inv w' X V (bF ws F)/\Step g.length w g w' V/\V.length=g.length)->ea P (execOp A ⟨d,.call ⟨.builtin .append,xs,#[t,ag]⟩,ty,pos,after,guard⟩) w X g F r ws:=by
   intro A d ty pos after guard w w' X g F r ws v' hv D res
   exact dD (m:=Builtin.append_ #[t,ag] ty #[A x0,A y0]) (by rw[sU,vk hv];rfl) D res
  have grow:∀b m pd es,h[b]?=some (dr pd e i.size es)->m<=es.length->(jr m ys.length (bk P e).bytes=true)->
   (∀w X g F v,Inv w X g F->F[b]?=h[b]?->af w (Ex X g) g s v->(∃u cap,g[b]?=some (.row u i.size es.length cap)/\v=.slice (some ⟨u,0,none⟩) m cap)\/(g[b]?=some .rownil/\v=.slice none 0 0))->
   K (.sl ae) [(ae,dr (iB pd ps) e i.size (es.take m++ys)),(b,.dead)] (ae::b::mu)->aN P J h (.call ⟨.builtin .append,xs,#[t,ag]⟩) K:=by
   intro b m pd es M hm jp hv o
   obtain⟨ld,d1⟩:=cZ jp
   rw[jM]at d1
   have HO:(es.take m).length=m:=by simp[hm]
   refine⟨_,_,_,o,fun w X g F A d ty pos after guard O I ap=>?_,by simp⟩
   have cE:=(ap ae (by simp)).trans hf
   obtain⟨l5,D,ds⟩:=kU w _ g A I
   obtain⟨news,hH,mZ,aw,xr,_,_⟩:=qh w X g F (A y0) O (fun j hj=>ap j (by simp[hj])) ds
   have aP:=(ap b (by simp)).trans M
   have mW:b≠ae:=by
    rintro rfl;rw[aP]at cE;cases pd<;>simp[dr]at cE
   have ajo:∀uI cw cap cur,cw.length=uI.length*i.size->y8 w (Ex X g) (gQ pd g) i.size uI cw->uI.length+ys.length<=cap->cap<=maxLen->cur.size=cap*i.size->
    cur.toList.take ((uI.length+ys.length)*i.size)=cw++news->∃V,af (w.drew.alloc (.cells cur e)) (Ex X V) V (.sl ae) (.slice (some ⟨w.heap.size,0,none⟩) (uI.length+ys.length) cap)/\
     Inv (w.drew.alloc (.cells cur e)) X V (bF [(ae,dr (iB pd ps) e i.size (uI++ys)),(b,.dead)] F)/\Step g.length w g (w.drew.alloc (.cells cur e)) V/\V.length=g.length:=by
    intro uI cw cap cur At h0 jN g7 MN l9
    obtain⟨aE,ca⟩:=Cs O
    obtain⟨V,E,cn,h3,h4⟩:=PB aE cE (p:=iB pd ps) (t:=e) (sz:=i.size) (cap:=cap) (es:=uI++ys) (vs:=cur) (by simpa using jN) g7 MN ((TW At h0 aw l9).steps ca (aC _))
    rw[c_]at E
    obtain⟨b1,c0⟩:=cn.drop V.length b
    exact⟨V.set b .dead,E.step c0 (aC _),b1,(ca.trans h3).trans (by grind),by simp[h4]⟩
   rcases se O aP with⟨u,cap,vs,ak,cR,d0,U,hl,cN⟩|⟨ak,dA⟩
   ·rcases hv w X g F (A x0) O (ap b (by simp)) D with⟨g',gZ,h',gA⟩|⟨h',_⟩
    ·rw[ak]at h';simp at h';obtain⟨rfl,rfl⟩:=h'
     have hle:=e8 i.size (show m<=cap by omega)
     have rN:(vs.toList.take (m*i.size)).length=(es.take m).length*i.size:=by
      rw[HO];simp;omega
     have gJ:y8 w (Ex X g) (gQ pd g) i.size (es.take m) (vs.toList.take (m*i.size)):=by
      intro k a ha
      rw[je]at ha
      split at ha
      ·rename_i p_
       obtain⟨E,F⟩:=cN k a ha
       refine⟨E,fun j q hq=>?_⟩
       obtain⟨v,h3,h4⟩:=F j q hq
       have hj:j<i.size:=by rw[<-E];exact(ao.1 hq).1
       have:=e8 i.size (show k+1<=m from p_)
       rw[oC]at this
       exact⟨v,by rw[je,au (by omega),eF];exact h3,h4⟩
      ·simp at ha
     obtain⟨v',w',a7,C_⟩:=xr ty (A x0) m (vs.toList.take (m*i.size)) ⟨by rw[rN,HO],.inr ⟨u,cap,vs,gA,U,by omega,d0,hl,rfl⟩⟩ ld d1
     refine go l5 a7 ?_
     rcases C_ with⟨hv,_⟩|⟨g1,auW,cur,un,hv,h2,rfl,rfl,co,E,cn,h3,h4⟩|⟨gZ,cur,rfl,rfl,E,cn,h3,h4⟩
     ·grind
     ·rw[gA]at hv
      simp at hv
      obtain⟨rfl,rfl⟩:=hv
      obtain⟨f1,f2,f3,f4,f5⟩:=qE (w:=w) (u:=u) (cs:=un)
      have hm:=Pn (w':=w.setRow u un) O cE ak (e':=.row u i.size (m+ys.length) cap) rfl rfl f1 f2 f3 f4 f5 (bw:=dr (iB pd ps) e i.size (es.take m++ys)) fun hS=>
       zn (by simp[hm]) E d0 (h2.set co) (by rw[co,h3]) ((TW rN gJ aw (by grind)).steps hS (aC _))
      refine⟨_,.sl (sz:=i.size) ?_,hm.1,hm.2,by simp⟩
      exact R_
     grind
    grind
   ·subst dA
    have he:m=0:=by simpa using hm
    subst he
    rcases hv w X g F (A x0) O (ap b (by simp)) D with⟨g',gZ,h',_⟩|⟨_,gA⟩
    ·grind
    ·obtain⟨v',w',a7,C_⟩:=xr ty (A x0) 0 [] ⟨by simp,.inl ⟨gA,rfl⟩⟩ (by simpa using ld) (by simpa using d1)
     refine go l5 a7 ?_
     rcases C_ with⟨_,h0,rfl,rfl⟩|⟨u,cap,cur,un,hv,_⟩|⟨cap,cur,rfl,rfl,E,cn,h3,h4⟩
     ·have:ys=[]:=pH (by omega)
      subst this
      obtain⟨a1,a2,a3⟩:=YU O cE (iB pd ps) e i.size
      obtain⟨b1,c0⟩:=a2.drop (g.set ae .rownil).length b
      exact⟨(g.set ae .rownil).set b .dead,a1.step c0 (aC _),by simpa[bF]using b1,a3.trans (by simpa using c0),by simp⟩
     ·grind
     ·simp only[jE]at E h4⊢
      have:=ajo [] [] cap cur (by simp) (by intro k a ha;simp at ha) (by simpa using E) cn h3 (by simpa using h4)
      simpa using this
  cases s with
  |nils=>
   obtain⟨jp,o⟩:=UX o
   have o:=TJ (k:=fun aZ=>K (.sl ae) [(ae,aZ)] (ae::mu)) o
   obtain⟨ld,d1⟩:=cZ jp
   rw[jM]at d1
   refine⟨_,_,_,o,fun w X g F A d ty pos after guard O I ap=>?_,by simp⟩
   have cE:F[ae]?=some .fresh:=(ap ae (by simp)).trans hf
   obtain⟨l5,D,ds⟩:=kU w _ g A I
   obtain⟨news,hH,mZ,aw,xr,_,_⟩:=qh w X g F (A y0) O (fun j hj=>ap j (by simp[hj])) ds
   have gA:A x0=.slice none 0 0:=by
    generalize A x0=v at D
    cases D;rfl
   obtain⟨v',w',a7,C_⟩:=xr ty (A x0) 0 [] ⟨by simp,.inl ⟨gA,rfl⟩⟩ (by simpa using ld) (by simpa using d1)
   refine go l5 a7 ?_
   rcases C_ with⟨_,h0,rfl,rfl⟩|⟨u,cap,cur,un,hv,_⟩|⟨cap,cur,rfl,rfl,E,cn,h3,h4⟩
   ·have:ys=[]:=pH (by omega)
    subst this
    obtain⟨a1,a2,a3⟩:=YU O cE ps e i.size
    exact⟨g.set ae .rownil,a1,by simpa[bF]using a2,a3,by simp⟩
   ·grind
   ·simp only[jE,SC]at E h4⊢
    exact adv
  |z0=>
   have cF:=b4 hT (show aX T ag _ from o)
   have Do:∀q,(bk P ag).ti≠ .int q:=fun q hq=>by grind
   have bi:List.rec (motive:=fun _=>Prop) (K .z0 [] mu) (fun _ _ _=>bo (jr 0 ys.length (bk P e).bytes) (K (.sl ae) [(ae,dr ps e i.size ys)] (ae::mu))) ys:=by
    generalize(bk P ag).ti=tu at cF
    cases tu<;>first|exact cF.elim|exact cF
   have hz:∀(w:World)(L:Nat->Prop)(g:Sg)(v:Value),af w L g .z0 v->∃a,v=.slice a 0 0:=fun w L g v D=>by
    cases D with
    | @z0 _ a=>grind
   cases x4:ys with
   |nil=>
    rw[x4]at bi
    refine⟨_,_,_,bi,fun w X g F A d ty pos after guard O I ap=>?_,by simp⟩
    obtain⟨l5,D,ds⟩:=kU w _ g A I
    obtain⟨news,hH,mZ,aw,xr,z8,Od⟩:=qh w X g F (A y0) O (fun j hj=>ap j (by simp[hj])) ds
    obtain⟨a,gA⟩:=hz w _ g _ D
    have a7:=(Od Do ty a (by rw[x4];simp) (by rw[x4];simp)).1 (by rw[x4];rfl)
    rw[<-gA]at a7
    refine go l5 a7 ⟨g,?_,O,.refl _ _ _,rfl⟩
    omega
   |cons y ys'=>
    have cW:ys.length≠0:=by rw[x4];simp
    have aU:bo (jr 0 ys.length (bk P e).bytes) (K (.sl ae) [(ae,dr ps e i.size ys)] (ae::mu)):=by
     generalize ys=zs at bi x4
     subst x4
     exact bi
    obtain⟨jp,dc⟩:=bL aU
    obtain⟨ld,d1⟩:=cZ jp
    rw[jM]at d1
    refine⟨_,_,_,dc,fun w X g F A d ty pos after guard O I ap=>?_,by simp⟩
    have cE:F[ae]?=some .fresh:=(ap ae (by simp)).trans hf
    obtain⟨l5,D,ds⟩:=kU w _ g A I
    obtain⟨news,hH,mZ,aw,xr,z8,Od⟩:=qh w X g F (A y0) O (fun j hj=>ap j (by simp[hj])) ds
    have aw3:∀(cap:Nat)(cur:Array Value),ys.length<=cap->cap<=maxLen->cur.size=cap*i.size->cur.toList.take (ys.length*i.size)=news->
     ∃V,af (w.drew.alloc (.cells cur e)) (Ex X V) V (.sl ae) (.slice (some ⟨w.heap.size,0,none⟩) ys.length cap)/\Inv (w.drew.alloc (.cells cur e)) X V (bF [(ae,dr ps e i.size ys)] F)/\Step g.length w g (w.drew.alloc (.cells cur e)) V/\V.length=g.length:=by
     intro cap cur E cn h3 h4
     exact adv
    obtain⟨a,gA⟩:=hz w _ g _ D
    obtain⟨cap,cur,a7,E,cn,h3,h4⟩:=(Od Do ty a (by simpa using ld) (by simpa using d1)).2 cW
    grind
  |sl b=>
   obtain⟨pd,t0,q,es,M,o⟩:=kz (show fJ (av h) b _ from o)
   obtain⟨e1,bi⟩:=b2 o
   obtain⟨e2,aU⟩:=b2 bi
   subst e1;subst e2
   obtain⟨jp,dc⟩:=UX aU
   have kR:=TJ (k:=fun aZ=>K (.sl ae) [(ae,aZ),(b,.dead)] (ae::b::mu)) (zp (k:=fun r=>Gj d (iB pd ps) t0 i.size r fun aZ=>K (.sl ae) [(ae,aZ),(b,.dead)] (ae::b::mu)) dc)
   refine grow b es.length pd es M (aC _) jp (fun w X g F v O ap D=>?_) (by grind)
   rcases se O (ap.trans M)with⟨u,cap,vs,ak,_⟩|⟨ak,dA⟩
   ·cases D with
    |sl h'=>grind
    |dE h'=>grind
    |c9 h'=>grind
   ·cases D with
    |sl h'=>grind
    |dE h'=>grind
    |c9 h'=>grind
  |ss b lo m=>
   obtain⟨pd,t0,q,es,M,o⟩:=kz (show fJ (av h) b _ from o)
   obtain⟨e1,bi⟩:=b2 o
   obtain⟨e2,aU⟩:=b2 bi
   subst e1;subst e2
   obtain⟨jp,dc⟩:=bL aU
   rcases gk dc with⟨aln,o⟩|⟨_,o⟩
   ·obtain⟨fd,cW⟩:=ar4 aln
    have o:=P5 (k:=fun a=>Be c (lo+m+ys.length) es fun d=>jo c ys d fun y=>jo c a y fun r=>K (.ss b lo (m+ys.length)) [(b,dr (iB pd ps) t0 i.size r)] (b::mu)) o
    have o:=abl (k:=fun d=>jo c ys d fun y=>jo c (es.take (lo+m)) y fun r=>K (.ss b lo (m+ys.length)) [(b,dr (iB pd ps) t0 i.size r)] (b::mu)) o
    have o:=zp (k:=fun y=>jo c (es.take (lo+m)) y fun r=>K (.ss b lo (m+ys.length)) [(b,dr (iB pd ps) t0 i.size r)] (b::mu)) o
    have o:=zp (k:=fun r=>K (.ss b lo (m+ys.length)) [(b,dr (iB pd ps) t0 i.size r)] (b::mu)) o
    obtain⟨ld,d1⟩:=cZ jp
    rw[jM]at d1
    refine⟨_,_,_,o,fun w X g F A d ty pos after guard O I ap=>?_,by simp⟩
    obtain⟨l5,D,ds⟩:=kU w _ g A I
    obtain⟨news,hH,mZ,aw,xr,z8,_⟩:=qh w X g F (A y0) O (fun j hj=>ap j (by simp[hj])) ds
    have aP:F[b]?=some (dr pd t0 i.size es):=(ap b (by simp)).trans M
    rcases se O aP with⟨u,cap,vs,ak,cR,d0,U,hl,cN⟩|⟨ak,dA⟩
    ·obtain⟨aa,gA,bf⟩:∃aa,A x0=.slice (some ⟨u,aa,none⟩) m (cap-lo)/\(lo<cap->aa=lo*i.size):=by
      generalize A x0=v at D
      cases D with
      |ss h' hle I=>rw[ak]at h';simp at h';obtain⟨rfl,rfl,rfl,rfl⟩:=h';grind
      |eS h'=>grind
      |ej h'=>grind
     have akb:ys.length*i.bytes<=140737488355328:=dF (e8 _ (by omega)) d1
     by_cases W4:ys=[]
     ·subst W4
      have lq:news=[]:=pH (by simpa using hH)
      subst lq
      have a7:=z8 ty u aa m (cap-lo) w (by omega) (by simp) (by simp) rfl
      rw[<-gA]at a7
      refine go l5 a7 ⟨g,?_,?_,.refl _ _ _,rfl⟩
      ·simp only[v8,sA]
       grind
      ·have e:es.take (lo+m)++([]++es.drop (lo+m+([]:List (List SV)).length))=es:=by simp
       rw[e,kC]
       refine pC O ak rfl rfl rfl rfl rfl (fun _ _=>rfl) (zn rfl cR d0 U hl ?_)
       intro k a ha
       obtain⟨a1,a2⟩:=cN k a ha
       exact⟨a1,fun j q hq=>by obtain⟨v,c1,c2,c3⟩:=a2 j q hq;exact⟨v,c1,vP (fun hq=>(vA hq).1) c2,c3⟩⟩
     ·have HV:0<ys.length:=SB.2 W4
      have bf:=bf (by omega)
      subst bf
      have zQ:(lo+m)*i.size+news.length<=vs.size:=by
       rw[hH,hl,<-jg];exact e8 _ (by omega)
      have bQ:=yw (P:=P) u ((lo+m)*i.size) t0 news 0 vs w U (by simpa using zQ) mZ
      simp only[sA]at bQ
      have xq:((⟨u,lo*i.size,none⟩:Addr).add (m*i.size))=⟨u,(lo+m)*i.size,none⟩:=by rw[lf,jg]
      have a7:=z8 ty u (lo*i.size) m (cap-lo) _ (by omega) (by omega) akb (by rw[xq];exact bQ)
      rw[<-gA]at a7
      obtain⟨f1,f2,f3,f4,f5⟩:=qE (w:=w) (u:=u) (cs:=(vs.toList.take ((lo+m)*i.size)++news++vs.toList.drop ((lo+m)*i.size+news.length)).toArray)
      have hS:=pE ak rfl f1 f2 f3 f4 f5
      refine go l5 a7 ⟨g,.ss (g:=g) ak (by omega) (fun _=>rfl),?_,hS,rfl⟩
      rw[kC]
      have iO:∀k,(vs.toList.take ((lo+m)*i.size)++news++vs.toList.drop ((lo+m)*i.size+news.length)).toArray[k]?=if(lo+m)*i.size<=k/\k<(lo+m)*i.size+news.length then news[k-(lo+m)*i.size]? else vs[k]?:=fun k=>by
       have:=r8 vs.toList ((lo+m)*i.size) news (by simp;omega) k
       grind
      refine pC O ak rfl f1 f2 f3 f4 f5 (zn (by simp;omega) cR d0 (U.set (by simp;omega)) (by simp;omega) fun k a ha=>?_)
      have l4:(es.take (lo+m)).length=lo+m:=by simp;omega
      rw[gr,l4]at ha
      have two:∀{z:Nat}{a b:Nat},a<b->a*z+z<=b*z:=fun{z a b}h=>by
       have:=e8 z (show a+1<=b from h);grind
      by_cases E:k<lo+m
      ·rw[au E,je,au E]at ha
       obtain⟨a1,a2⟩:=cN k a ha
       refine⟨a1,fun j q hq=>?_⟩
       obtain⟨v,c1,c2,c3⟩:=a2 j q hq
       have hj:j<i.size:=by rw[<-a1];exact(ao.1 hq).1
       refine⟨v,?_,vP (fun hq=>(vA hq).1) (mF c2 hS (aC _)),c3⟩
       have:=two (z:=i.size) E
       rw[iO,ay (by omega),c1]
      ·rw[ay E,gr]at ha
       by_cases F:k-(lo+m)<ys.length
       ·rw[au F]at ha
        obtain⟨a1,a2⟩:=aw _ a ha
        refine⟨a1,fun j q hq=>?_⟩
        obtain⟨v,c1,c2,c3⟩:=a2 j q hq
        have hj:j<i.size:=by rw[<-a1];exact(ao.1 hq).1
        refine⟨v,?_,vP (fun hq=>(vA hq).2) (mF c2 hS (aC _)),c3⟩
        have e3:k*i.size=(lo+m)*i.size+(k-(lo+m))*i.size:=by rw[<-jg];congr 1;omega
        have:=two (z:=i.size) F
        rw[iO,au ⟨by omega,by rw[hH];omega⟩,show k*i.size+j-(lo+m)*i.size=(k-(lo+m))*i.size+j by omega]
        exact c1
       ·rw[ay F,uj]at ha
        have Cv:lo+m+ys.length+(k-(lo+m)-ys.length)=k:=by omega
        rw[Cv]at ha
        obtain⟨a1,a2⟩:=cN k a ha
        refine⟨a1,fun j q hq=>?_⟩
        obtain⟨v,c1,c2,c3⟩:=a2 j q hq
        have hj:j<i.size:=by rw[<-a1];exact(ao.1 hq).1
        refine⟨v,?_,vP (fun hq=>(vA hq).1) (mF c2 hS (aC _)),c3⟩
        have e3:(lo+m)*i.size+news.length<=k*i.size:=by
         rw[hH,<-jg];exact e8 _ (by omega)
        rw[iO,ay (by omega),c1]
    grind
   ·obtain⟨e0,cF⟩:=b2 o
    obtain⟨hm,akE⟩:=qq cF
    obtain⟨avO,akF⟩:=qq akE
    have rI:=P5 (k:=fun a=>jo c a ys fun r=>K (.sl ae) [(ae,dr (iB pd ps) t0 i.size r),(b,.dead)] (ae::b::mu)) akF
    have s9:=zp (k:=fun r=>K (.sl ae) [(ae,dr (iB pd ps) t0 i.size r),(b,.dead)] (ae::b::mu)) rI
    subst e0
    refine grow b m pd es M hm jp (fun w X g F v O ap D=>?_) s9
    rcases se O (ap.trans M)with⟨u,cap,vs,ak,cR,_⟩|⟨ak,dA⟩
    ·cases D with
     | @ss _ _ g' jB n' gZ _ _ aa h' hle I=>
      grind
     |eS h'=>grind
     |ej h'=>grind
    grind
  |_=>exact o.elim
 |_=>exact o.elim
def sh(lo m:Nat)(es:List (List SV)):Bool:=Bool.rec (motive:=fun _=>Bool) false (Bool.rec (motive:=fun _=>Bool) false (Nat.ble 1 lo) (Nat.beq lo es.length)) (Nat.beq m 0)
def abr{lo m}{es}(h:sh lo m es=true):m=0/\lo=es.length/\1<=lo:=by unfold sh at h;cases E:Nat.beq m 0 with|false=>simp_all|true=>cases F:Nat.beq lo es.length with|false=>simp_all|true=>simp_all
def QV(T:aG)(c:Bool)(U:dm)(ae:Nat)(t ag:TypeId)(x:SV)(b:Nat)(t0:TypeId)(q:Nat)(K:bC):Prop:=
 aX T t fun te=>match te.ti with
  |.slice e=>aX T e fun ee=>iq ee.zero fun zs=>og 1 ee.size (aX T ag fun tu=>match tu.ti with
   |.slice _=>EX T c U ag e ee.size zs x fun _ ys rd=>bo (Nat.beq ys.length 1) (bd t0 e (bd q ee.size (bo (jr 0 ys.length ee.bytes) (K (.tl ae 1) [(ae,.tail e ee.size ys),(b,.dead)] (ae::b::rd)))))
   |_=>False)
  |_=>False
def Ld(T:aG)(c:Bool)(U:dm)(ae:Nat)(t ag:TypeId)(s x:SV)(K:bC):Prop:=
 match s with
 |.ss b lo m=>fJ U b fun _ t0 q es=>dy (sh lo m es) (QV T c U ae t ag x b t0 q K) (zg T c false U ae t ag (.ss b lo m) x K)
 |s=>zg T c false U ae t ag s x K
def JN{p}{w}{L}{g}{s}{v}(h:af w L (gQ p g) s v):af w L g s v:=by cases p with|true=>exact h|false=>exact mv h
def ae6(hT:bl P T){c}{J}{h:Hp}{ae}(hf:h[ae]?=some .fresh){xs}{kB}{x0 y0}{t ag:TypeId}(bv:xs.toList=[x0,y0])(bD:kB.toList=[t,ag]){K} (o:az J x0 fun s=>az J y0 fun x=>Ld T c (av h) ae t ag s x K):aN P J h (.call ⟨.builtin .append,xs,kB⟩) K:=by
 obtain⟨s,o,hs⟩:=bS o;obtain⟨x,o,hx⟩:=bS o;cases s with
 |ss b lo m=>
  have o:fJ (av h) b (fun _ t0 q es=>dy (sh lo m es) (QV T c (av h) ae t ag x b t0 q K) (zg T c false (av h) ae t ag (.ss b lo m) x K)):=o;obtain⟨pd,t0,q,es,M,o⟩:=kz o;rcases gk o with⟨ht,xA⟩|⟨_,o⟩;obtain⟨he,fo,akN⟩:=abr ht;subst he;have bD:kB= #[t,ag]:=by rw[<-yR (xs:=kB),bD]
  subst bD;have kU:∀w L g A,(∀z∈(Op.call ⟨.builtin .append,xs,#[t,ag]⟩).operands.toList,bA w L g J A z)->xs.toList.map A=[A x0,A y0]/\af w L g (.ss b lo 0) (A x0)/\af w L g x (A y0):=fun w L g A I=>by exact adV
  unfold QV at xA;have o:=b4 hT xA;generalize ax:(bk P t).ti=ti at o;cases ti with
  |slice e=>
   replace o:=b4 hT o;obtain⟨i,z,Q,iW,jM,hz,d8,hi,kW,o⟩:=oc o;obtain⟨dX,o⟩:=qq o;have lu:=fi (bm ax (by simp)).1;rw[iW]at dX o;rw[hz]at o;have o:=b4 hT o;generalize N1:(bk P ag).ti=tu at o;cases tu with
   |slice aiu=>
    obtain⟨ps,ys,mu,o,qh⟩:=abe hT lu Q d8 hi kW dX o;obtain⟨lw,bi⟩:=bL o;have lw:=gS lw;obtain⟨e1,aU⟩:=b2 bi;obtain⟨e2,dc⟩:=b2 aU;obtain⟨jp,kR⟩:=bL dc;subst e1;subst e2;obtain⟨ld,d1⟩:=cZ jp;rw[jM]at d1;simp only[jE]at ld d1;refine⟨_,_,_,kR,fun w X g F A d ty pos after guard O I ap=>?_,by simp⟩;obtain⟨l5,D,ds⟩:=kU w _ g A I;have go:∀{w' r ws v'},(Builtin.append_ #[t,ag] ty #[A x0,A y0]).run P w=.ok v' w'->
     (∃V,af w' (Ex X V) V r v'/\Inv w' X V (bF ws F)/\Step g.length w g w' V/\V.length=g.length)->ea P (execOp A ⟨d,.call ⟨.builtin .append,xs,#[t,ag]⟩,ty,pos,after,guard⟩) w X g F r ws:=by
     intro w' r ws v' D res
     exact ado
    obtain⟨news,hH,mZ,aw,_,z8,hzero⟩:=qh w X g F (A y0) O (fun j hj=>ap j (by simp[hj])) ds;have cE:=(ap ae (by simp)).trans hf;have aP:=(ap b (by simp)).trans M;have mW:b≠ae:=by rintro rfl;rw[aP]at cE;cases pd<;>simp[dr]at cE
    rw[lw,KK]at hH;rcases se O aP with⟨u,cap,vs,ak,cR,d0,U,hl,cN⟩|⟨ak,dA⟩;obtain⟨aa,gA,bf⟩:∃aa,A x0=.slice (some ⟨u,aa,none⟩) 0 (cap-lo)/\(lo<cap->aa=lo*i.size):=by generalize A x0=v at D;cases D with|ss h' hle I=>rw[ak]at h';simp at h';obtain⟨rfl,rfl,rfl,rfl⟩:=h';grind|eS h'=>omega|ej h'=>grind
    by_cases fd:lo<cap;have bf:=bf fd;subst bf;have Wr:lo*i.size+i.size<=cap*i.size:=by have:=e8 i.size fd;rw[oC]at this;exact this
    have zQ:lo*i.size+0+news.length<=vs.size:=by rw[hH,hl];omega
    have bQ:=yw (P:=P) u (lo*i.size) t0 news 0 vs w U zQ mZ;have xq:((⟨u,lo*i.size,none⟩:Addr).add (0*i.size))=⟨u,lo*i.size,none⟩:=by rw[lf];simp
    have a7:=z8 ty u (lo*i.size) 0 (cap-lo) _ (by omega) ld d1 (by rw[xq];exact bQ);rw[<-gA]at a7;obtain⟨f1,f2,f3,f4,f5⟩:=qE (w:=w) (u:=u) (cs:=(vs.toList.take (lo*i.size)++news++vs.toList.drop (lo*i.size+news.length)).toArray);have iO:∀k,(vs.toList.take (lo*i.size)++news++vs.toList.drop (lo*i.size+news.length)).toArray[k]?=if lo*i.size<=k/\k<lo*i.size+news.length then news[k-lo*i.size]? else vs[k]?:=fun k=>by have:=r8 vs.toList (lo*i.size) news (by simp;omega) k;grind
    have dY:(vs.toList.take (lo*i.size)++news++vs.toList.drop (lo*i.size+news.length)).toArray.size=vs.size:=by simp;omega
    have hm:=Pn (w':=w.setRow u (vs.toList.take (lo*i.size)++news++vs.toList.drop (lo*i.size+news.length)).toArray) O cE ak (e':=.row u i.size (lo+1) cap) rfl rfl f1 f2 f3 f4 f5 (bw:=.tail t0 i.size ys) fun hS=>
     ⟨rfl,by omega,by omega,d0,_,U.set dY,by rw[dY,hl],fun k a ha=>by
      obtain⟨a1,a2⟩:=aw k a ha
      have cF:k=0:=by have:=(ao.1 ha).1;omega
      subst cF
      refine⟨a1,fun j q hq=>?_⟩
      obtain⟨v,c1,c2,c3⟩:=a2 j q hq
      have hj:j<i.size:=by rw[<-a1];exact(ao.1 hq).1
      refine⟨v,?_,JN (mF c2 hS (aC _)),c3⟩
      have Cu:(lo+1-ys.length+0)*i.size+j=lo*i.size+j:=by rw[lw];simp
      rw[Cu,iO,au ⟨by omega,by omega⟩,show lo*i.size+j-lo*i.size=0*i.size+j by omega]
      exact c1,fun q hq=>by
      rw[lw]at hq
      have hq:q<lo*i.size:=by simpa using hq
      rw[iO,ay (by omega)]
      have Ob:=dX
      have Dv:q/i.size<es.length:=by rw[<-fo];exact SE (by grind)
      obtain⟨b1,c0⟩:=cN (q/i.size) _ (aD Dv)
      have dq:q % i.size<es[q/i.size].length:=by rw[b1];exact BG _ Ob
      obtain⟨v,c1,_,c3⟩:=c0 (q % i.size) _ (aD dq)
      rw[show q/i.size*i.size+q % i.size=q by rw[BJ];exact FK q i.size]at c1
      grind⟩
    refine go a7 ⟨_,?_,hm.1,hm.2,by simp⟩;have e3:cap-lo=cap-(lo+1-1):=by omega
    rw[lw,e3];refine .tl (n:=lo+1) (cap:=cap) (sz:=i.size) ?_ (by omega) (fun _=>by simp);exact R_;have xu:cap-lo=0:=by omega
    obtain⟨gZ,cur,a7,E,cn,h3,h4⟩:=(hzero (by rw[N1];simp) ty (some ⟨u,aa,none⟩) ld d1).2 (by omega);rw[xu]at gA;rw[<-gA]at a7;obtain⟨aE,ca⟩:=Cs O;have b_:=pM (w':=w.drew.alloc (.cells cur t0)) aE cE (e:=.row w.drew.heap.size i.size ys.length gZ) rfl rfl rfl rfl rfl;have be:=qW (w':=w.drew.alloc (.cells cur t0)) aE cE (e:=.row w.drew.heap.size i.size ys.length gZ) (b:=.tail t0 i.size ys) rfl rfl rfl rfl rfl
     ⟨rfl,aC _,E,cn,cur,gj.of (su w.drew _),h3,fun k a ha=>by
      obtain⟨a1,a2⟩:=aw k a ha
      refine⟨a1,fun j q hq=>?_⟩
      obtain⟨v,c1,c2,c3⟩:=a2 j q hq
      refine⟨v,?_,JN (mF (mF c2 ca (aC _)) b_ (aC _)),c3⟩
      grind,fun q hq=>by simp at hq⟩
    obtain⟨b1,c0⟩:=be.drop (g.set ae (.row w.drew.heap.size i.size ys.length gZ)).length b;refine go a7 ⟨_,?_,b1,(ca.trans b_).trans (by simpa using c0),by simp⟩;have e3:gZ=gZ-(ys.length-1):=by omega
    rw[lw]at e3⊢;rw[e3];refine .tl (n:=1) (cap:=gZ) (sz:=i.size) ?_ (by omega) (fun _=>by simp);rw[bu,ay mW,bu,au rfl,au];rfl;exact(ao.1 (lR O cE)).1;simp_all
   |_=>cases o
  |_=>cases o
  exact Lg (d:=false) hT hf bv bD hs hx o
 |_=>exact Lg (d:=false) hT hf bv bD hs hx o
end
section
variable{P:Program} {T:aG}
def En(es:List (List SV)):Bool:=List.rec false (fun e _ ih=>Em ih e) es
def ao4(es):En es=false->∀e∈es,∀s∈e,eK s:=by induction es with|nil=>simp_all|cons e es ih=>intro h e' aK;have⟨E,F⟩:=PU h;rcases gE.1 aK with rfl|aK;exact F;exact ih E e' aK
def kF.kind{w}{L}{g}{sz}{es}{vs}(h:kF w L g sz es vs):kF w L (gQ (En es) g) sz es vs:=by cases hp:En es with|true=>exact h|false=>have hf:=ao4 es hp;exact fun i e H=>⟨(h i e H).1,fun j s hs=>by have⟨v,a,b,c⟩:=(h i e H).2 j s hs;exact⟨v,a,hf e (bN H) s (bN hs) _ _ _ _ _ b,c⟩⟩
def TQ(T:aG)(ev:sD)(ae:Nat)(t:TypeId)(n:Nat)(ps:Array (Nat×Operand))(K:bC):Prop:=
 aX T t fun te=>match te.ti with
  |.slice e=>aX T e fun ee=>iq ee.zero fun z=>og (n*ee.size) 16777216 (og 1 ee.size (vG n z fun es=>UA ev ee.size ps.toList es fun es=>K (.sl ae) [(ae,dr (En es) e ee.size es)] [ae]))
  |_=>False
def af8(hT:bl P T){J}{h}{ae}(hf:h[ae]?=some .fresh){t:TypeId}{n}{ps}{K}(o:TQ T (az J) ae t n ps K):aN P J h (.buildSlice t n ps) K:=by
 replace o:=b4 hT o;generalize ax:(bk P t).ti=ti at o;cases ti with
 |slice e=>
  replace o:=b4 hT o;obtain⟨i,z,Q,iW,_,hz,d8,hi,kW,o⟩:=oc o;obtain⟨HN,o⟩:=qq o;obtain⟨dX,o⟩:=qq o;replace o:=Jm o;obtain⟨es,o,hlen,M⟩:=aim ps.toList o;have hu:=fi (bm ax sM).1;refine⟨_,_,_,o,fun w X g F A d ty pos after guard O I ap=>?_,sM⟩;have cE:=(ap ae sM).trans hf;rw[iW]at M HN dX⊢;obtain⟨vs,rG,hl,cN⟩:=M w (Ex X g) g A ((Array.range (n*i.size)).map (z.cells[· % z.cells.size]!)) (fun p hp=>I p.2 (by simp only[Op.operands,ew];grind)) sM
   (by rw[hz];exact(Fg kW hi).p)
  have dg:es.length=n:=by rw[hlen];simp
  have a7:(Instr.buildSlice t n (ps.map fun(i,x)=>(i,A x))).run P w=.ok (.slice (some ⟨w.heap.size,0,none⟩) n n) (w.alloc (.cells vs e)):=by exact adx
  unfold ea bO;rw[show execOp A ⟨d,.buildSlice t n ps,ty,pos,after,guard⟩=(do pure (.value (<-Instr.buildSlice t n (ps.map fun(i,x)=>(i,A x)))))from rfl,cu a7];have:=PB O cE (p:=En es) (t:=e) (sz:=i.size) (cap:=n) (es:=es) (vs:=vs) G (by simp only[maxLen];have:=Nat.le_mul_of_pos_right n dX;omega) (by rw[hl,dg]) cN.kind;simp_all
 |_=>cases o
def Qm{α:Type}(c:Bool)(n:Nat)(x:α)(k:List α->Prop):Prop:=Bool.rec (k (List.replicate n x)) (iz n fun n=>vG n x k) c
def aaw{α:Type}{c}{n}{x}{k:List α->Prop}(h:Qm c n x k):k (List.replicate n x):=by cases c with|true=>exact Jm (mf (k:=fun n=>vG n x k) h)|false=>exact h
def Yj(T:aG)(c:Bool)(ae:Nat)(t:TypeId)(n m:SV)(K:bC):Prop:=
 aX T t fun te=>match te.ti with
  |.slice e=>aX T e fun ee=>iq ee.zero fun z=>match n,m with
   |.int _ n,.int _ m=>bo (decide (m=n/\0<=n/\n*ee.bytes<=281474976710656/\n<=9223372036854775807/\0<ee.size)) (Qm c n.toNat z fun r=>K (.sl ae) [(ae,.row e ee.size r)] [ae])
   |_,_=>False
  |_=>False
def abY(z):sC (iq z):=fun k h=>by cases z with|nil=>exact⟨_,h,fun _ h=>h⟩|cons x xs=>cases x<;>first|cases h|exact⟨_,h,fun _ h=>h⟩
def ano(hT:bl P T){c}{J}{h}{ae}(hf:h[ae]?=some .fresh){t:TypeId}{x y}{K}(o:az J x fun n=>az J y fun m=>Yj T c ae t n m K):aN P J h (.makeSlice t x y) K:=by
 refine Yi hT hf ?_;have⟨sx,o,hx⟩:=jK J x _ o;have⟨sy,o,hy⟩:=jK J y _ o;have⟨te,o,ht⟩:=gq T t _ o;refine ht _ ?_;cases ax:te.ti with
 |slice e=>
  rw[ax]at o;have⟨ee,o,H⟩:=gq T e _ o;have⟨z,o,hz⟩:=abY ee.zero _ o;simp only;refine H _ (hz _ (hx _ (hy _ ?_)));cases sx with
  |int q1 n=>cases sy with|int q2 m=>have⟨hc,o⟩:=bL o;exact⟨cZ hc,aaw (k:=fun r=>K (.sl ae) [(ae,.row e ee.size r)] [ae]) o⟩|_=>cases o
  |_=>omega
 |_=>simp_all
def LM(T:aG)(c:Bool)(U:dm)(t:TypeId)(m:SV)(K:bC):Prop:=
 aX T t fun te=>match te.ti with
  |.slice e=>aX T e fun ee=>iq ee.zero fun z=>(match m with
   |.nils=>K (.tup []) [] []
   |.z0=>K (.tup []) [] []
   |.ss b lo n=>fJ U b fun p t0 q es=>bd q ee.size (bo (Nat.ble (lo+n) es.length) (Qm c n z fun r=>Eu c lo es fun a=>Be c (lo+n) es fun d=>jo c r d fun y=>jo c a y fun aS=>K (.tup []) [(b,dr p t0 q aS)] [b]))
   |_=>False)
  |_=>False
def ag0(hT:bl P T){c}{J}{h:Hp}{t:TypeId}{kB}{xs}{x}(bD:kB.toList=t::kB.toList.tail)(bv:xs.toList=[x]){K} (o:az J x fun m=>LM T c (av h) t m K):aN P J h (.call ⟨.builtin .clear,xs,kB⟩) K:=by
 have⟨m,o,hm⟩:=bS o;replace o:=b4 hT o;generalize ax:(bk P t).ti=ti at o;have n5:∀A:Operand->Value,xs.map A= #[A x]:=fun A=>by exact Bz
 have iS:kB[0]?=some t:=by rw[<-eF,bD];rfl
 have gI:x∈(Op.call ⟨.builtin .clear,xs,kB⟩).operands.toList:=by simp[Op.operands,Call.operands];rw[<-qN,bv];simp
 have hex:∀A d ty pos after guard,
  execOp A ⟨d,.call ⟨.builtin .clear,xs,kB⟩,ty,pos,after,guard⟩=(do pure (Next.value (<-Builtin.clear_ kB ty #[A x])):Sem Next):=fun A d ty pos after guard=>by
  exact adf
 cases ti with
 |slice e=>
  have hu:=fi (bm ax sM).1;replace o:=b4 hT o;have⟨i,z,Q,iW,jM,hz,d8,hi,kW,o⟩:=oc o;have empty:(∀w L g v,af w L g m v->∃a c,v=.slice a 0 c)->K (.tup []) [] []->aN P J h (.call ⟨.builtin .clear,xs,kB⟩) K:=by intro hv o;refine⟨_,_,_,o,fun w X g F A d ty pos after guard O I ap=>?_,sM⟩;have⟨a,c',Ac⟩:=hv w _ g _ (hm w _ g A (I x gI));refine dD (hex A d ty pos after guard) (v:=.tuple #[]) (w':=w) ?_ ⟨g,pr,O,.refl _ _ _,rfl⟩;cases a with|none=>simp[Builtin.clear_,iS,bB hu,Ac]|some a=>simp[Builtin.clear_,iS,bB hu,Ac]
  cases m with
  |nils=>exact empty (fun w L g v D=>by cases D<;>simp_all) o
  |z0=>exact empty (fun w L g v D=>by cases D<;>simp_all) o
  |ss b lo n=>
   have⟨p,t0,q,es,M,o⟩:=kz o;have⟨hq,bi⟩:=b2 o;have⟨jp,aU⟩:=bL bi;have jp:=nw jp;rw[iW]at hq;subst hq;have dc:=aaw (k:=fun r=>Eu c lo es fun a=>Be c (lo+n) es fun d=>jo c r d fun y=>jo c a y fun aS=>K (.tup []) [(b,dr p t0 i.size aS)] [b]) aU;have kR:=P5 (k:=fun a=>Be c (lo+n) es fun d=>jo c (List.replicate n (bk P e).zero) d fun y=>jo c a y fun aS=>K (.tup []) [(b,dr p t0 i.size aS)] [b]) dc;have rI:=abl (k:=fun d=>jo c (List.replicate n (bk P e).zero) d fun y=>jo c (es.take lo) y fun aS=>K (.tup []) [(b,dr p t0 i.size aS)] [b]) kR;have s9:=zp (k:=fun y=>jo c (es.take lo) y fun aS=>K (.tup []) [(b,dr p t0 i.size aS)] [b]) rI;have Dl:=zp (k:=fun aS=>K (.tup []) [(b,dr p t0 i.size aS)] [b]) s9;rw[hz]at Dl;refine⟨_,_,_,Dl,fun w X g F A d ty pos after guard O I ap=>?_,sM⟩;have aP:=(ap b sM).trans M;have D:=hm w _ g A (I x gI);rcases se O aP with⟨u,cap,vs,ak,cR,d0,U,hl,cN⟩|⟨ak,dA⟩;obtain⟨aa,gA,bf⟩:∃aa,A x=.slice (some ⟨u,aa,none⟩) n (cap-lo)/\(lo<cap->aa=lo*i.size):=by generalize A x=v at D;cases D with|ss h' hle I=>simp_all|eS h'=>simp_all|ej h'=>simp_all
   by_cases lq:n=0;subst lq;refine dD (hex A d ty pos after guard) (v:=.tuple #[]) (w':=w) (by simp[Builtin.clear_,iS,bB hu,gA]) ⟨g,pr,?_,.refl _ _ _,rfl⟩;have e:es.take lo++(List.replicate 0 (z.cells.toList.map qA)++es.drop (lo+0))=es:=sM;rw[e,kC];exact pC O ak rfl rfl rfl rfl rfl (fun _ _=>rfl) (zn rfl cR d0 U hl cN);have bf:=bf (by omega);subst bf;have Oc:(Builtin.zeroCells z.cells n).toList.length=n*i.size:=by simp[BK,kW]
   have zQ:lo*i.size+n*i.size<=vs.size:=by rw[hl,<-jg];exact e8 _ G
   have bQ:=yw (P:=P) u (lo*i.size) t0 (Builtin.zeroCells z.cells n).toList 0 vs w U (by omega) (Rt hi n);simp only[sA]at bQ;have⟨f1,f2,f3,f4,f5⟩:=qE (w:=w) (u:=u) (cs:=(vs.toList.take (lo*i.size)++(Builtin.zeroCells z.cells n).toList++vs.toList.drop (lo*i.size+(Builtin.zeroCells z.cells n).toList.length)).toArray);have hS:=pE ak rfl f1 f2 f3 f4 f5;have hzv:(zeroValue e).run P w=.ok z w:=by simp[zeroValue,typeInfo,Q,d8]
   obtain⟨n',rfl⟩:=Nat.exists_eq_succ_of_ne_zero lq;refine dD (hex A d ty pos after guard) (v:=.tuple #[]) ?_ ⟨g,pr,?_,hS,rfl⟩;simp only[Builtin.clear_,iS,lG,mL,bJ,bB hu,cb,gA,hzv,bQ,da];rw[kC];have iO:∀k,(vs.toList.take (lo*i.size)++(Builtin.zeroCells z.cells (n'+1)).toList++vs.toList.drop (lo*i.size+(Builtin.zeroCells z.cells (n'+1)).toList.length)).toArray[k]?=if lo*i.size<=k/\k<lo*i.size+(n'+1)*i.size then(Builtin.zeroCells z.cells (n'+1)).toList[k-lo*i.size]? else vs[k]?:=fun k=>by have:=r8 vs.toList (lo*i.size) (Builtin.zeroCells z.cells (n'+1)).toList (by grind) k;grind
   refine pC O ak rfl f1 f2 f3 f4 f5 (zn sO cR d0 (U.set (by simp[Oc]at zQ⊢;omega)) (by simp[Oc]at zQ⊢;omega) fun k a ha=>?_);have l4:(es.take lo).length=lo:=sO;rw[gr,l4]at ha;have two:∀{z a b},a<b->a*z+z<=b*z:=fun{z a b}h=>by have:=e8 z (show a+1<=b from h);rw[oC]at this;exact this
   by_cases E:k<lo;rw[au E,je,au E]at ha;have⟨a1,a2⟩:=cN k a ha;refine⟨a1,fun j q hq=>?_⟩;have⟨v,c1,c2,c3⟩:=a2 j q hq;have hj:j<i.size:=by rw[<-a1];exact(ao.1 hq).1
   refine⟨v,?_,mF c2 hS (aC _),c3⟩;have:=two (z:=i.size) E;rw[iO,ay G,c1];rw[ay E,gr,FH]at ha;by_cases F:k-lo<n'+1;rw[au F]at ha;have⟨a1,a2⟩:=Fg (w:=w) (L:=Ex X g) (n:=n'+1) kW hi (k-lo) a ha;refine⟨a1,fun j q hq=>?_⟩;have⟨v,c1,c2,c3⟩:=a2 j q hq;have hj:j<i.size:=by rw[<-a1];exact(ao.1 hq).1
   have c2':af w (Ex X g) (gQ p g) q v:=by cases p with|true=>exact mv c2|false=>exact c2
   refine⟨v,?_,mF c2' hS (aC _),c3⟩;have e3:k*i.size=lo*i.size+(k-lo)*i.size:=by rw[<-jg];congr 1;omega
   have:=two (z:=i.size) F;rw[iO,au ⟨G,G⟩,show k*i.size+j-lo*i.size=(k-lo)*i.size+j by omega];rw[eF,Builtin.zeroCells,kW];rw[kW]at c1;exact c1;rw[ay F,uj]at ha;have Cv:lo+(n'+1)+(k-lo-(n'+1))=k:=G;rw[Cv]at ha;have⟨a1,a2⟩:=cN k a ha;refine⟨a1,fun j q hq=>?_⟩;have⟨v,c1,c2,c3⟩:=a2 j q hq;have hj:j<i.size:=by rw[<-a1];exact(ao.1 hq).1
   refine⟨v,?_,mF c2 hS (aC _),c3⟩;have e3:lo*i.size+(n'+1)*i.size<=k*i.size:=by rw[<-jg];exact e8 _ G
   rw[iO,ay G,c1];subst dA;have e0:lo=0/\n=0:=by simp at jp;omega
   obtain⟨rfl,rfl⟩:=e0;have gA:A x=.slice none 0 0:=by generalize A x=v at D;cases D with|ss h'=>simp_all|eS h'=>rfl|ej h'=>simp_all
   refine dD (hex A d ty pos after guard) (v:=.tuple #[]) (w':=w) (by simp[Builtin.clear_,iS,bB hu,gA]) ⟨g,pr,?_,.refl _ _ _,rfl⟩;simp only[List.take_nil,List.replicate_zero,List.drop_nil,yM];rw[kC];refine⟨by simp[O.len],fun j gc a hc ha=>?_,O.lt,O.inj,O.cU,O.df⟩;rw[bu]at hc;by_cases hj:b=j;subst hj;rw[ak]at ha;simp at ha;subst ha;rw[au rfl]at hc;split at hc;simp at hc;subst hc;exact YT;simp at hc;rw[ay hj]at hc;exact O.ok j gc a hc ha
  |_=>cases o
 |_=>cases o
end
section
variable{P:Program} {T:aG}
def Oy{e:TypeId}{k k'}(h:jv T e k):k/\(k'->jv T e k'):=by have⟨te,o,hs⟩:=gq T e _ h;grind
def cvK(T:aG)(h:Hp)(ae:Nat)(a t:TypeId)(ti tj:TI)(sx:SV)(K:bC):Prop:=
 match ti,tj,sx with
  |.none,_,_=>False
  |_,.int k,.int _ n=>K (.int k (k.wrap n)) [] []
  |.str,.slice e,.str s=>jv T e (s.length<=4611686018427387903/\K (.sl ae) [(ae,.row e 1 (s.map fX))] [ae])
  |.slice e,.slice _,.sl b=>jv T e (bd a t (av h b fun aT=>match aT with
   |.row t z es=>(match es with|[]=>False|x::xs=>K (.sl b) [(b,.row t z (x::xs))] [b])
   |_=>False))
  |.slice e,.str,.nils=>jv T e (K (.str []) [] [])
  |.slice e,.str,.rs z es=>jv T e (bd z 1 (uz es fun s=>K (.str s) [] []))
  |.slice e,.str,.sl b=>jv T e (av h b fun aT=>match aT with
   |.row _ z es=>bd z 1 (uz es fun s=>K (.str s) [] [b])
   |_=>False)
  |_,_,_=>False
def LP(T:aG)(c:Bool)(U:dm)(ae:Nat)(a t:TypeId)(ti tj:TI)(sx:SV)(K:bC):Prop:=
 match ti,tj,sx with
  |.str,.slice e,.str s=>jv T e (bo (decide (s.length<=4611686018427387903)) (K (.sl ae) [(ae,.row e 1 (s.map fX))] [ae]))
  |.slice e,.str,.rs z es=>jv T e (bd z 1 (wU es fun s=>K (.str s) [] []))
  |.slice e,.str,.sl b=>jv T e (U b fun aT=>match aT with
   |.row _ z es=>bd z 1 (wU es fun s=>K (.str s) [] [b])
   |_=>False)
  |.slice e,.slice _,.sl b=>jv T e (bd a t (U b fun aT=>match aT with
   |.row t z es=>(match es with|[]=>False|x::xs=>K (.sl b) [(b,.row t z (x::xs))] [b])
   |_=>False))
  |.none,_,_=>False
  |_,.int k,.int _ n=>di c K (.int k (Bo k n)) [] []
  |_,_,_=>False
def ahi(hT:bl P T){c}{J}{h:Hp}{ae}{a t:TypeId}{x}{K}(hf:qX T (.convert a t x)=true->h[ae]?=some .fresh)(o:az J x fun x=>aX T a fun ta=>aX T t fun te=>LP T c (av h) ae a t ta.ti te.ti x K):aN P J h (.convert a t x) K:=by
 have⟨sx,bi,hx⟩:=jK J x _ o;have⟨ta,aU,Ab⟩:=gq T a _ bi;have⟨te,dc,d5⟩:=gq T t _ aU;have mk:∀K':bC,cvK T h ae a t ta.ti te.ti sx K'->aN P J h (.convert a t x) K':=fun K' h'=>Ue hT hf (Ab _ (d5 _ (hx _ h')));revert mk dc;generalize ta.ti=ti;generalize te.ti=tj;intro o mk;cases ti<;>cases tj<;>cases sx<;>first|cases o|exact aN.up (mk (di c K) o)|exact aN.up (mk (di c K) (by simp only[LP,abU]at o;exact o))|exact mk K o|skip
 case str.slice.str e s=>have⟨o,M⟩:=Oy (k':=(s.length<=4611686018427387903/\K (.sl ae) [(ae,.row e 1 (s.map fX))] [ae])) o;have⟨E,F⟩:=bL o;exact mk K (M ⟨cZ E,F⟩)
 case slice.str.rs e z es=>have⟨o,M⟩:=Oy (k':=bd z 1 (uz es fun s=>K (.str s) [] [])) o;have⟨E,F⟩:=b2 o;exact mk K (M (kM E (Ly es F)))
 case slice.str.sl e b=>obtain⟨o,M⟩:=Oy (k':=av h b fun aT=>match aT with|.row _ z es=>bd z 1 (uz es fun s=>K (.str s) [] [b])|_=>False) o;have⟨aT,o,hs⟩:=PI h b _ o;refine mk K (M (hs _ ?_));cases aT with|row t0 z es=>have⟨E,F⟩:=b2 o;exact kM E (Ly es F)|_=>cases o
def If(x y:SV)(yes no:Prop):Prop:=match x,y with
 |.int q a,.int q' b=>if q=q' then dy (decide (a=b)) yes no else False
 |_,_=>False
def DQ(xs:List SV):List SV->(Bool->Prop)->Prop:=
 List.rec (fun ys k=>List.rec (k true) (fun _ _ _=>False) ys)
  (fun x _ ih ys k=>List.rec False (fun y ys' _=>If x y (ih ys' k) (k false)) ys) xs
def Ep{e:TypeId}{q}(H:P.underlying e=some (.int q))(hc:P.cellsOf e=1)(w)(xs)(j){v}(hv:xs[j]?=some v):(part e xs (j*P.cellsOf e)).run P w=.ok v w:=by simp[part,isAgg,bB H,hc,hv]
def Xm(xs):∀{ys k},DQ xs ys k->∃r,k r/\∀w L g vx vy aa d e q,P.underlying e=some (.int q)->P.cellsOf e=1->(∀i s,xs[i]?=some s->∃v,vx[aa+i]?=some v/\af w L g s v)->(∀i s,ys[i]?=some s->∃v,vy[aa+i]?=some v/\af w L g s v)->(Op.eqItems (d+1) e (P.cellsOf e) vx vy (List.range' aa xs.length)).run P w=.ok r w:=by
 induction xs with
 |nil=>intro ys k h;cases ys with|nil=>exact⟨true,h,fun w L g vx vy aa d e q _ _ _ _=>by simp[Op.eqItems]⟩|cons _ _=>cases h
 |cons x xs ih=>
  intro ys k h;cases ys with
  |nil=>cases h
  |cons y ys=>
   have h':If x y (DQ xs ys k) (k false):=h;cases x<;>cases y<;>first|cases h'|skip
   rename_i q a q' b;by_cases hq:q=q';subst hq;have h:dy (decide (a=b)) (DQ xs ys k) (k false):=by simpa only[If,dw]using h'
   have one:∀(w:World)(L:Nat->Prop)(g:Sg)(vx:Array Value)(aa:Nat)(n:Int)(l:List SV),(∀i s,(SV.int q n::l)[i]?=some s->∃v,vx[aa+i]?=some v/\af w L g s v)->vx[aa]?=some (.int q n):=fun w L g vx aa n l hx=>by have⟨v,E,F⟩:=hx 0 _ rfl;cases F;exact E
   rcases gk h with⟨M,E⟩|⟨M,E⟩;have M:=cZ M;have⟨r,o,D⟩:=ih E;subst M;refine⟨r,o,fun w L g vx vy aa d e q' H hc hx hy=>?_⟩;have E:=one w L g vx aa a xs hx;have F:=one w L g vy aa a ys hy;have fE:=D w L g vx vy (aa+1) d e q' H hc (fun i s hs=>by have:=hx (i+1) s (by simpa using hs);grind)
    (fun i s hs=>by have:=hy (i+1) s (by simpa using hs);grind)
   simp only[pI,List.range'_succ,Op.eqItems,bJ,Ep H hc w vx aa E,Ep H hc w vy aa F,cb,Sz w d e q q' a a H];simpa using fE;have M:=FD M;refine⟨false,E,fun w L g vx vy aa d e q' H hc hx hy=>?_⟩;have E:=one w L g vx aa a xs hx;have F:=one w L g vy aa b ys hy;simp only[pI,List.range'_succ,Op.eqItems,bJ,Ep H hc w vx aa E,Ep H hc w vy aa F,cb,Sz w d e q q' a b H];simp[M];simp only[If,ay hq]at h'
def Tt(T:aG)(t:TypeId)(x y:SV)(k:Bool->Prop):Prop:=
 aX T t fun te=>match te.ti,x,y with
  |.array n e,.agg xs,.agg ys=>aX T e fun ee=>match ee.ti with
   |.int _=>bd ee.size 1 (bd xs.length n (DQ xs ys k))
   |_=>False
  |_,_,_=>False
def Lj(T:aG)(op:BinOp)(t:TypeId)(x y:SV)(K:bC):Prop:=
 UH op fun w=>Tt T t x y fun r=>K (zk r w) [] []
def afn(hT:bl P T){J}{h}{op}{t ag:TypeId}{xo yo}{K}(o:az J xo fun x=>az J yo fun y=>Lj T op t x y K):aN P J h (.binOp op t xo yo ag) K:=by
 have⟨x,bi,hx⟩:=bS o;have⟨y,aU,hy⟩:=bS bi;obtain⟨w,iU,dc⟩:∃w,((op=.eql/\w=true)\/(op=.neq/\w=false))/\Tt T t x y fun r=>K (zk r w) [] []:=by cases op<;>first|cases aU|exact⟨_,.inl ⟨rfl,rfl⟩,aU⟩|exact⟨_,.inr ⟨rfl,rfl⟩,aU⟩
 replace dc:=b4 hT dc;generalize ax:(bk P t).ti=ti at dc;cases ti with
 |array n e=>
  cases x with
  |agg xs=>cases y with
   |agg ys=>
    have hu:=vU (bm ax sM).1;replace dc:=b4 hT dc;generalize xV:(bk P e).ti=tj at dc;cases tj with
    |int q=>
     have H:=so (bm xV sM).1;have⟨cY,kR⟩:=b2 dc;have⟨hn,rI⟩:=b2 kR;obtain⟨r,o,D⟩:=Xm xs rI;obtain⟨_,i,Q,dY,_⟩:=bm xV sM;have hc:P.cellsOf e=1:=by rw[<-cY,dY];simp[Program.cellsOf,Q]
     have M4:P.eqGuardType P.depth t=false:=by unfold Program.depth;rw[show 2*(P.types.size+Made.depth)+2=(2*(P.types.size+Made.depth)+1)+1 from rfl];simp[Program.eqGuardType,hu,H]
     refine⟨_,_,_,o,fun wd X g F A d ty pos after guard O I ap=>?_,sM⟩;have r1:=hx wd _ g A (I xo rO);have r2:=hy wd _ g A (I yo rO);generalize HZ:A xo=vx at r1;generalize DJ:A yo=vy at r2;cases r1 with
     | @agg _ _ vx rc _ jN=>
      cases r2 with
      | @agg _ _ vy d3 _ g7=>
       have hq:(Op.equalIn (9999+1) t (.agg vx) (.agg vy)).run P wd=.ok r wd:=by rw[run_equalIn_array wd 9999 vx vy hu Q,List.range_eq_range',<-hn];refine D wd (Ex X g) g vx vy 0 9998 e q H hc (fun i s hs=>?_) (fun i s hs=>?_);exact acF;exact acG
       have U:=SA wd op t xo yo vx vy M4;have⟨v,hv,bb⟩:=L1 (L:=Ex X g) (g:=g) iU sM U hq;rw[<-HZ,<-DJ]at hv;exact dD rfl hv ⟨g,bb,O,.refl _ _ _,rfl⟩
    |_=>cases dc
   |_=>cases dc
  |_=>simp_all
 |_=>cases dc
end
section
variable{P:Program} {T:aG}
def Xn(ks:List SV)(k:Prop):Prop:=List.rec k (fun x _ ih=>match x with|.int _ _=>ih|_=>False) ks
def al9(ks){k}:Xn ks k->k/\∀s∈ks,∃q n,s=.int q n:=by induction ks with|nil=>exact fun h=>⟨h,sM⟩|cons x ks ih=>intro h;cases x with|int q n=>have⟨E,F⟩:=ih h;simp_all|_=>exact False.elim h
def Ll(T:aG)(t:TypeId)(ks:List SV)(k:Prop):Prop:=aX T t fun te=>match te.ti with
 |.array n e=>aX T e fun ee=>match ee.ti with|.int _=>bd ee.size 1 (bd ks.length n (Xn ks k))|_=>False
 |_=>False
structure ArrKey(P:Program)(t:TypeId)(ks:List SV)(e:TypeId)(q:IntKind):Prop where
 ut:P.underlying t=some (.array ks.length e)
 Ra:P.underlying e=some (.int q)
 ce:P.cellsOf e=1
 ints:∀s∈ks,∃q n,s=.int q n
def Ts(hT:bl P T){t:TypeId}{ks}{k}(h:Ll T t ks k):k/\∃e q,ArrKey P t ks e q:=by
 have h:=b4 hT h;generalize ax:(bk P t).ti=ti at h;cases ti with
 |array n e=>have h:=b4 hT h;generalize xV:(bk P e).ti=tj at h;cases tj with|int q=>have⟨cY,h⟩:=b2 h;have⟨hn,h⟩:=b2 h;have⟨o,Q⟩:=al9 ks h;subst hn;have⟨_,i,Dh,dY,_⟩:=bm xV sM;exact⟨o,e,q,⟨vU (bm ax sM).1,so (bm xV sM).1,by rw[<-cY,dY];simp[Program.cellsOf,Dh],Q⟩⟩|_=>cases h
 |_=>cases h
def Xk{e:TypeId}(h:P.cellsOf e=1):∃inf,P.info? e=some inf/\inf.size=1:=by unfold Program.cellsOf at h;cases Q:P.info? e<;>simp_all
def T8{t e:TypeId}{q}{ks}(o:ArrKey P t ks e q){w w'}{L}{g}{v}(hv:af w' L g (.agg ks) v)(b):(Instr.checkKey b 10000 t v).run P w=.ok () w:=by
 cases hv with
 | @agg _ _ vs hl E hc=>
  have⟨inf,Dh,dY⟩:=Xk o.ce;have one:∀i,i<vs.size->(part e vs (i*1)).run P w=.ok (vs.getD i Go.undef) w:=fun i Q=>by have:=Ep o.Ra o.ce w vs i (c4 Q);rw[o.ce]at this;simp_all
  rw[show(10000:Nat)=9998+1+1 from rfl,Instr.checkKey];simp only[bJ,bB o.ut,cb];simp only[Std.Legacy.Range.forIn_eq_forIn_range',Std.Legacy.Range.size,wh,Nat.add_one_sub_one,Nat.div_one];have each:∀i∈List.range' 0 ks.length,i<vs.size:=fun i Q=>by simp_all
  generalize List.range' 0 ks.length=Xp at each;induction Xp with
  |nil=>simp
  |cons j Xp ih=>
   have axR:=one j (each j sM);have p2:(Instr.checkKey b (9998+1) e (vs.getD j Go.undef)).run P w=.ok () w:=by rw[Instr.checkKey];simp only[bJ,bB o.Ra,cb];rfl
   simp only[List.forIn_cons,bJ,run_sizeOf Dh,cb,dY,axR,p2,da];simp_all
def K8(ks:List SV)(es:List ME):Nat->(Option Nat->Prop)->Prop:=List.rec (fun _ k=>k none)
 (fun e _ ih i k=>match e.1 with
  |.agg DR=>DQ ks DR fun r=>Bool.rec (ih (Nat.succ i) k) (k (some i)) r
  |_=>False) es
def UK{t e:TypeId}{q}{ks DR}(o:ArrKey P t ks e q){r}{w}{L}{g}{v ag}(hv:af w L g (.agg ks) v)(hu:af w L g (.agg DR) ag) (D:∀w L g vx vy aa d e q,P.underlying e=some (.int q)->P.cellsOf e=1->(∀i s,ks[i]?=some s->∃v,vx[aa+i]?=some v/\af w L g s v)->(∀i s,DR[i]?=some s->∃v,vy[aa+i]?=some v/\af w L g s v)->(Op.eqItems (d+1) e (P.cellsOf e) vx vy (List.range' aa ks.length)).run P w=.ok r w):(Op.equal t v ag).run P w=.ok r w:=by cases hv with| @agg _ _ vx rc _ jN=>cases hu with| @agg _ _ vy d3 _ g7=>have⟨inf,Dh,dY⟩:=Xk o.ce;show(Op.equalIn (9999+1) t (.agg vx) (.agg vy)).run P w=.ok r w;rw[run_equalIn_array w 9999 vx vy o.ut Dh,List.range_eq_range'];refine D w L g vx vy 0 9998 e q o.Ra o.ce (fun i s hs=>?_) (fun i s hs=>?_);exact acF;exact acG
def aeU{t e:TypeId}{q}{ks}(o:ArrKey P t ks e q)(es):∀{i k},K8 ks es i k->∃r:Option Nat,k r/\(∀j,r=some j->i<=j/\j<i+es.length)/\∀(w:World)(L:Nat->Prop)(g:Sg)(v:Value)(ms:List MapEntry),af w L g (.agg ks) v->es.length=ms.length->(∀(j:Nat)(e:ME)(m:MapEntry),es[j]?=some e->ms[j]?=some m->af w L g e.1 m.key)->(match r with
   |none=>(Instr.findAsking t v ms i).run P w=.ok none w
   |some j=>∃m,ms[j-i]?=some m/\(Instr.findAsking t v ms i).run P w=.ok (some (j,m.val)) w):=by
 induction es with
 |nil=>
  intro i k h
  exact adt
 |cons a es ih=>
  intro i k h
  have⟨amu,va,gY⟩:=a
  cases amu with
  |agg DR=>
   obtain⟨r,h,D⟩:=Xm ks h
   cases r with
   |true=>
    refine⟨some i,h,fun j hj=>by grind,fun w L g v ms hv hl hc=>?_⟩
    cases ms with
    |nil=>simp at hl
    |cons m ms=>
     have H:=UK o hv (hc 0 _ m rfl rfl) D
     exact⟨m,sM,by simp only[Instr.findAsking,bJ,H,cb,dw,da]⟩
   |false=>
    have⟨r,bV,ai,HK⟩:=ih h
    refine⟨r,bV,fun j hj=>by grind,fun w L g v ms hv hl hc=>?_⟩
    cases ms with
    |nil=>simp at hl
    |cons m ms=>
     have H:=UK o hv (hc 0 _ m rfl rfl) D
     have:=HK w L g v ms hv (by simpa using hl) (fun j e' m' H hm=>hc (j+1) e' m' (by simpa using H) (by simpa using hm))
     have step:(Instr.findAsking t v (m::ms) i).run P w=(Instr.findAsking t v ms (i+1)).run P w:=by
      simp only[Instr.findAsking,bJ,H,cb]
      rfl
     cases r with
     |none=>grind
     |some j=>
      grind
  |_=>exact False.elim h
def L_{t e:TypeId}{q}{ks}(o:ArrKey P t ks e q){w}{v}(hv:∃vs,v=.agg vs){ms}{r}(h:(Instr.findAsking t v ms 0).run P w=.ok r w):(Instr.findKey t v ms).run P w=.ok r w:=by
 simp only[Instr.findKey,bJ,bB o.ut,cb];cases ms with
 |nil=>simpa[Instr.findNow,Instr.findAsking]using h
 |cons m ms=>
  obtain⟨vs,rfl⟩:=hv;have:Instr.findNow (.array ks.length e) (.agg vs) (m::ms) 0=none:=by simp[Instr.findNow,Instr.sameNow]
  simp_all
def K_{w}{L}{g}{ks}{v}(h:af w L g (.agg ks) v):∃vs,v=.agg vs:=by cases h<;>grind
def Iw(T:aG)(c:Bool)(U:dm)(t:TypeId)(m:SV)(ks:List SV)(ok:Bool)(K:bC):Prop:=
 aX T t fun te=>match te.ti with
  |.map kt d4=>Ll T kt ks (match m with
   |.mp b=>ij U b fun _ es _=>K8 ks es 0 fun r=>match r with
    |none=>k6 T d4 fun z=>Bool.rec (di c K z [] [b]) (K (.tup [z,.ff]) [] [b]) ok
    |some i=>av es i fun e=>Bool.rec (di c K e.2.1 [] [b]) (K (.tup [e.2.1,.tt]) [] [b]) ok
   |_=>False)
  |_=>False
def Cy{J}{x}{k}(h:az J x k):∃s,k s/\(∀k':SV->Prop,k' s->az J x k')/\∀w L g A,bA w L g J A x->af w L g s (A x):=by have⟨s,o,hs⟩:=jK J x _ h;have⟨s',H,D⟩:=bS (hs (fun t=>t=s) rfl);grind
def am7(hT:bl P T){c}{J}{h:Hp}{t:TypeId}{x y}{ok}{K}(o:az J x fun m=>az J y fun key=>match key with
 |.agg ks=>Iw T c (av h) t m ks ok K|key=>Aw T c (av h) t m key ok K):aN P J h (.lookup t x y ok) K:=by
 obtain⟨m,o,l6,hm⟩:=Cy o
 obtain⟨key,o,Oa,hy⟩:=Cy o
 have mk:Aw T c (av h) t m key ok K->aN P J h (.lookup t x y ok) K:=fun h'=>am9 hT (l6 _ (Oa _ h'))
 cases key with
 |agg ks=>
  replace o:Iw T c (av h) t m ks ok K:=o
  replace o:=b4 hT o
  generalize ax:(bk P t).ti=ti at o
  cases ti with
  |map kt d4=>
   have hu:=pA (bm ax sM).1
   obtain⟨o,e,q,uP⟩:=Ts hT o
   cases m with
   |mp b=>
    have o:ij (av h) b (fun _ es _=>K8 ks es 0 fun r=>match r with
     |none=>k6 T d4 fun z=>Bool.rec (di c K z [] [b]) (K (.tup [z,.ff]) [] [b]) ok
     |some i=>av es i fun e=>Bool.rec (di c K e.2.1 [] [b]) (K (.tup [e.2.1,.tt]) [] [b]) ok):=o
    obtain⟨p,es,ck,M,o⟩:=oh o
    obtain⟨r,o,ai,on⟩:=aeU uP es o
    have a7:∀w X g F A,Inv w X g F->(∀z∈(Op.lookup t x y ok).operands.toList,bA w (Ex X g) g J A z)->F[b]?=h[b]?->
     (match r with
      |none=>∀z,(zeroValue d4).run P w=.ok z w->(Instr.lookup t (A x) (A y) ok).run P w=.ok (if ok then .tuple #[z,.bool false]else z) w
      |some i=>∀e,es[i]?=some e->∃v,af w (Ex X g) g e.2.1 v/\(Instr.lookup t (A x) (A y) ok).run P w=.ok (if ok then .tuple #[v,.bool true]else v) w):=fun w X g F A O I ap=>by
     have E:=hm w _ g A (I x rO)
     have cn:=hy w _ g A (I y rO)
     have⟨u,ms,ak,U,hM,_⟩:=ly O (ap.trans M)
     have hv:A x=.map (some u):=by
      exact adK
     have hf:=on w (Ex X g) g (A y) ms.toList cn (by rw[hM.1];simp) (fun j e m H hm=>(hM.2 j e m H (by grind)).1)
     have hc:=T8 (w:=w) uP cn ms.isEmpty
     cases r with
     |none=>
      intro z hz
      have hf:=L_ uP (K_ cn) hf
      simp only[Instr.lookup,bJ,bB hu,cb,hv,my U,da,hc,hf,hz]
     |some i=>
      intro e H
      have⟨m,hm,hf⟩:=hf
      have hf:=L_ uP (K_ cn) hf
      rw[wh,eF]at hm
      refine⟨m.val,(hM.2 i e m H hm).2.1,?_⟩
      simp only[Instr.lookup,bJ,bB hu,cb,hv,my U,da,hc,hf]
    exact jD
   |_=>cases o
  |_=>cases o
 |_=>exact mk o
def IG(T:aG)(U:dm)(t:TypeId)(m:SV)(ks:List SV)(v:SV)(K:bC):Prop:=
 aX T t fun te=>match te.ti with
  |.map kt _=>Ll T kt ks (match m with
   |.mp b=>ij U b fun p es ck=>match es with
    |[]=>K .undef [(b,fF (hG p v) [(.agg ks,v,ck)] (Nat.succ ck))] [b]
    |_=>False
   |_=>False)
  |_=>False
def arG{w w'}{L E'}{g V}{ks}{v}(Q:∀s∈ks,∃q n,s=SV.int q n)(h:af w L g (.agg ks) v):af w' E' V (.agg ks) v:=by cases h with|agg hl I hc=>refine .agg hl I fun i s v hs hv=>?_;obtain⟨q,n,rfl⟩:=Q s (bN hs);have:=hc i _ v hs hv;cases this;constructor
def anS(hT:bl P T){J}{h:Hp}{t:TypeId}{x y z}{K}(o:az J x fun m=>az J y fun key=>az J z fun v=>match key with
 |.agg ks=>IG T (av h) t m ks v K|key=>AF T (av h) t m key v K):aN P J h (.mapUpdate t x y z) K:=by
 have⟨m,o,l6,hm⟩:=Cy o
 have⟨key,o,Oa,hy⟩:=Cy o
 have⟨v,o,hzk,hz⟩:=Cy o
 have mk:AF T (av h) t m key v K->aN P J h (.mapUpdate t x y z) K:=fun h'=>anU hT (l6 _ (Oa _ (hzk _ h')))
 cases key with
 |agg ks=>
  replace o:IG T (av h) t m ks v K:=o
  replace o:=b4 hT o
  generalize ax:(bk P t).ti=ti at o
  cases ti with
  |map kt d4=>
   have hu:=pA (bm ax sM).1
   obtain⟨o,e,q,uP⟩:=Ts hT o
   cases m with
   |mp b=>
    have o:ij (av h) b (fun p es ck=>match es with
     |[]=>K .undef [(b,fF (hG p v) [(.agg ks,v,ck)] (Nat.succ ck))] [b]
     |_=>False):=o
    obtain⟨p,es,ck,M,o⟩:=oh o
    cases es with
    |nil=>
     refine⟨_,_,_,o,fun w X g F A d ty pos after guard O I ap=>?_,sM⟩
     have E:=hm w _ g A (I x rO)
     have rL:=hy w _ g A (I y rO)
     have jS:=hz w _ g A (I z rO)
     obtain⟨u,ms,ak,U,hM,gy⟩:=ly O ((ap b sM).trans M)
     have hv:A x=.map (some u):=by
      exact Fi
     have Ny:ms= #[]:=by
      have:=hM.1
      simp at this
      exact Fp this.symm
     subst Ny
     have hc:=T8 (w:=w) uP rL false
     have hf:(Instr.findKey kt (A y) ([]:List MapEntry)).run P w=.ok none w:=L_ uP (K_ rL) rfl
     have D:(Instr.mapUpdate t (A x) (A y) (A z)).run P w=.ok () (jc w u ((#[]:Array MapEntry).push {key:=A y,val:=A z,born:=ck}) (ck+1)):=by
      simp only[Instr.mapUpdate,bJ,bB hu,cb,hv,my U,hc,Array.toList_empty,hf,vM U]
     refine AP (m:=Instr.mapUpdate t (A x) (A y) (A z)) rfl D ?_
     have mk:∀τ:Sg,af w (Ex X g) τ (.agg ks) (A y)->af w (Ex X g) τ v (A z)->iI w (Ex X g) τ [(.agg ks,v,ck)] ((#[]:Array MapEntry).push {key:=A y,val:=A z,born:=ck}):=fun τ a1 a2=>by
      refine⟨sM,fun i e m H hm=>?_⟩
      grind
     have hp:=tM (p:=hG p v) (c:=ck+1) O ak U (mk g rL jS) (fun hp=>by
      have⟨e1,e2⟩:=El hp
      exact mk [] (arG uP.ints rL) (e2 _ _ _ _ _ jS))
     exact⟨g,.undef,hp.1,hp.2,rfl⟩
    |cons _ _=>cases o
   |_=>cases o
  |_=>cases o
 |_=>exact mk o
end
section
variable{P:Program} {T:aG}
def amw{w w'}{X}{g}{h}(O:Inv w X g h){n}{e}{u}(H:g[n]?=some e)(U:e.owns u) (I:w'.os=w.os)(ht:w'.tape=w.tape)(b3:w'.output=w.output)(hs:w'.heap.size=w.heap.size)(hw:∀k,k≠u->w'.heap[k]?=w.heap[k]?):Inv w' X (g.set n .dead) (h.set n .dead)/\Step g.length w g w' (g.set n .dead):=by
 have hH:=(ao.1 H).1;have old:∀i e' k,(g.set n .dead)[i]?=some e'->e'.owns k->g[i]?=some e'/\i≠n:=fun i e' k E F=>by rw[bu]at E;by_cases am:n=i;subst am;rw[au rfl,au hH]at E;simp at E;subst E;simp[ba.owns]at F;grind
 have hO:∀k,bM (g.set n .dead) k->bM g k:=fun k⟨i,e',E,F⟩=>⟨i,e',(old i e' k E F).1,F⟩;have hS:Step g.length w g w' (g.set n .dead):=⟨I,ht,b3,G,fun k _ o=>hw k fun h=>o (h▸⟨n,e,H,U⟩),fun k o _=>hO k o,fun i e' _ aK _=>by grind⟩
 refine⟨⟨by simp[O.len],fun i b' e' aP aK=>?_,fun i e' k aK o=>by rw[hs];exact O.lt i e' k (old i e' k aK o).1 o,
  fun i j e1 e2 k E F g1 g2=>O.inj i j e1 e2 k (old i e1 k E g1).1 (old j e2 k F g2).1 g1 g2,fun k hx bf=>O.cU k hx (hO k bf),fun k hx=>by rw[hs];exact O.df k hx⟩,hS⟩
 rw[bu]at aP aK;by_cases am:n=i;subst am;rw[au rfl,au (by simp_all)]at aP;rw[au rfl,au hH]at aK;simp at aP aK;subst aP;subst aK;trivial;rw[ay am]at aP aK;exact adk
def LR(U:dm)(x:SV)(K:bC):Prop:=match x with|.nils=>K .nilp [] []|.sl b=>fJ U b fun _ _ _ es=>List.rec False (fun _ _ _=>K (.ep b 0 0) [] [b]) es|_=>False
def ahs{J}{h:Hp}{kB}{xs}{x}(bv:xs.toList=[x]){K} (o:az J x fun m=>LR (av h) m K):aN P J h (.call ⟨.builtin .unsafeSliceData,xs,kB⟩) K:=by
 have⟨m,o,hm⟩:=bS o;have n5:∀A:Operand->Value,xs.map A= #[A x]:=fun A=>by exact Bz
 have gI:x∈(Op.call ⟨.builtin .unsafeSliceData,xs,kB⟩).operands.toList:=by simp[Op.operands,Call.operands];rw[<-qN,bv];simp
 have hex:∀A d ty pos after guard,
  execOp A ⟨d,.call ⟨.builtin .unsafeSliceData,xs,kB⟩,ty,pos,after,guard⟩=(do pure (Next.value (<-Builtin.unsafeSliceData_ kB ty #[A x])):Sem Next):=fun A d ty pos after guard=>by
  exact adf
 cases m with
 |nils=>refine⟨_,_,_,o,fun w X g F A d ty pos after guard O I ap=>?_,sM⟩;have E:=hm w _ g A (I x gI);refine dD (hex A d ty pos after guard) (v:=.pointer none) (w':=w) ?_ ⟨g,.nilp,O,.refl _ _ _,rfl⟩;generalize aF:A x=vx at E;cases E;rfl
 |sl b=>
  have o:fJ (av h) b (fun _ _ _ es=>List.rec (motive:=fun _=>Prop) False (fun _ _ _=>K (.ep b 0 0) [] [b]) es):=o;have⟨p,T0,z,es,M,o⟩:=kz o;cases es with
  |nil=>exact o.elim
  |cons e es=>
   refine⟨_,_,_,o,fun w X g F A d ty pos after guard O I ap=>?_,by simp⟩;have E:=hm w _ g A (I x gI);rcases ot O ((ap b sM).trans M)with⟨u,cap,vs,ak,cR,_⟩|⟨_,dA⟩;have hv:A x=.slice (some ⟨u,0,none⟩) (e::es).length cap:=by generalize aF:A x=vx at E;cases E with|sl h'=>simp_all|dE h'=>simp_all|c9 h'=>simp_all
   have xu:cap≠0:=by simp at cR;omega
   refine dD (hex A d ty pos after guard) (v:=.pointer (some ⟨u,0,none⟩)) (w':=w) ?_ ⟨g,?_,O,.refl _ _ _,rfl⟩;rw[hv];have:Builtin.unsafeSliceData_ kB ty #[.slice (some ⟨u,0,none⟩) (e::es).length cap]=(pure (.pointer (some ⟨u,0,none⟩)):Sem Value):=by show(if cap≠0 then _ else _:Sem Value)=_;rw[au xu]
   rw[this];rfl;have:=af.ep (w:=w) (L:=Ex X g) (i:=0) (f:=0) ak;simpa using this;simp at dA
 |_=>cases o
def Rg(T:aG)(U:dm)(Ew:TypeId)(x y:SV)(K:bC):Prop:=match x,y with
 |.nilp,.int .i64 n=>bo (uH n 0) (K (.str []) [] [])
 |.ep b 0 0,.int .i64 n=>aX T Ew fun te=>match te.ti with|.ptr e=>aX T e fun ee=>bd ee.size 1 (jv T e (U b fun aT=>match aT with|.row t z es=>bo (Nat.beq t e) (bd z 1 (List.rec False (fun _ _ _=>bo (uH n (es.length:Int)) (wU es fun s=>K (.str s) [(b,.dead)] [b])) es))|_=>False))|_=>False
 |_,_=>False
def ata{e:TypeId}{q}(hu:P.underlying e=some (.int q))(h:(bk P e).size=1):P.cellsOf e=1:=by unfold Program.cellsOf;unfold bk at h;grind
def aut(hT:bl P T){J}{h:Hp}{Ew:TypeId}{kB}{xs}{x y}(bD:kB= #[Ew,kB.getD 1 0])(bv:xs.toList=[x,y]){K} (o:az J x fun m=>az J y fun n=>Rg T (av h) Ew m n K):aN P J h (.call ⟨.builtin .unsafeString,xs,kB⟩) K:=by
 have⟨m,o,hm⟩:=bS o;have⟨l,o,hl⟩:=bS o;have n5:∀A:Operand->Value,xs.map A= #[A x,A y]:=fun A=>by
  have:(xs.map A).toList=[A x,A y]:=by rw[KD,bv];rfl
  grind
 have gI:x∈(Op.call ⟨.builtin .unsafeString,xs,kB⟩).operands.toList:=by simp[Op.operands,Call.operands];rw[<-qN,bv];simp
 have xJ:y∈(Op.call ⟨.builtin .unsafeString,xs,kB⟩).operands.toList:=by simp[Op.operands,Call.operands];rw[<-qN,bv];simp
 have hex:∀A d ty pos after guard,
  execOp A ⟨d,.call ⟨.builtin .unsafeString,xs,kB⟩,ty,pos,after,guard⟩=(do pure (Next.value (<-Builtin.unsafeString_ kB ty #[A x,A y])):Sem Next):=fun A d ty pos after guard=>by
  exact adf
 cases m with
 |nilp=>
  cases l with
  |int q n=>
   cases q<;>first|cases o|skip
   have⟨hn,o⟩:=bL o;rw[zB]at hn;have hn:=cZ hn;subst hn;refine⟨_,_,_,o,fun w X g F A d ty pos after guard O I ap=>?_,sM⟩;have E:=hm w _ g A (I x gI);have cn:=hl w _ g A (I y xJ);refine dD (hex A d ty pos after guard) (v:=.string .empty) (w':=w) ?_ ⟨g,.str (s:=[]),O,.refl _ _ _,rfl⟩;generalize aF:A x=vx at E;generalize DJ:A y=vy at cn;cases E;cases cn;rw[bD];exact Lib.run_unsafeString_none w _ _ _ none
  |_=>cases o
 |ep b i f=>
  cases i<;>cases f<;>cases l<;>first|cases o|skip
  rename_i q n;cases q<;>first|cases o|skip
  replace o:=b4 hT o;generalize ax:(bk P Ew).ti=ti at o;cases ti with
  |ptr e=>
   have qk:=Bh (bm ax sM).1;replace o:=b4 hT o;have⟨ake,o⟩:=b2 o;have⟨hue,o⟩:=Ap hT o;have MP:=ata hue ake;have⟨aT,M,o⟩:=bg o;cases aT with
   |row t z es=>
    have⟨ht,o⟩:=bL o;have ht:=gS ht;have⟨hz,o⟩:=b2 o;cases es with
    |nil=>cases o
    |cons e0 es=>
     have⟨hn,o⟩:=bL o;rw[zB]at hn;have hn:=cZ hn;have⟨s,hs,o⟩:=Ly _ o;refine⟨_,_,_,o,fun w X g F A d ty pos after guard O I ap=>?_,sM⟩;have E:=hm w _ g A (I x gI);have cn:=hl w _ g A (I y xJ);have kX:z=1:=hz;subst kX;rcases yu O ((ap b sM).trans M)with⟨u,cap,vs,ak,cR,mX,⟨fr,U,_⟩,ql,cN⟩|⟨_,dA⟩;have hv:A x=.pointer (some ⟨u,0,none⟩):=by generalize aF:A x=vx at E;cases E with|ep h'=>grind|hb h'=>grind
     have N4:A y=.int .i64 n:=by generalize aF:A y=vy at cn;cases cn;rfl
     have hlen:s.length=(e0::es).length:=by rw[hs];simp
     have qg:w.shape? u=some (e,vs.size):=by subst ht;simp[World.shape?,U]
     have a7:(Builtin.unsafeString_ kB ty #[A x,A y]).run P w=.ok (.string ⟨s.toArray⟩) (w.freeze ⟨u,0,none⟩ s.length):=by
      rw[hv,N4,hn,<-hlen,bD];refine Lib.run_unsafeString_row w _ _ _ e qk MP u vs.size qg s (by grind) (by omega) (by unfold maxLen at mX;omega) fun j a hj=>?_;have oY:(e0::es)[j]?=some (fX a):=by rw[hs,bz,hj];rfl
      have⟨_,d2⟩:=cN j _ oY;have⟨v,lv,n4,_⟩:=d2 0 (.int .u8 a.toNat) rfl;rw[Nat.mul_one,sA]at lv;cases n4;rw[lf];simp only[World.cell?,U,jE];exact lv
     have uR:∀k,k≠u->(w.freeze ⟨u,0,none⟩ s.length).heap[k]?=w.heap[k]?:=fun k o=>by unfold World.freeze;grind
     have Wo:=amw (w':=w.freeze ⟨u,0,none⟩ s.length) O ak rfl (by unfold World.freeze;split<;>rfl) (by unfold World.freeze;split<;>rfl) (by unfold World.freeze;split<;>rfl) (by unfold World.freeze;split<;>simp) uR;refine dD (hex A d ty pos after guard) a7 ⟨g.set b .dead,.str,?_,Wo.2,sM⟩;rw[kC];exact Wo.1;simp at dA
   |_=>cases o
  |_=>cases o
 |_=>cases l<;>cases o
end
section
variable{P:Program} {T:aG}
def aeX(T:aG)(c:Bool)(op:BinOp)(t:TypeId)(x y:SV)(K:bC):Prop:=
 aX T t fun te=>match te.ti with
  |.array _ _=>Lj T op t x y K
  |_=>wQ T c op t x y fun s=>K s [] []
end
section
variable{P:Program} {T:aG}
def P1(op:BinOp)(x y:SV)(K:SV->Prop):Prop:=match op with|.eql=>(match x,y with|.pz q,.int q' b=>bo (yb q q') (bo (uH b 0) (K .ff))|_,_=>False)|_=>False
def apC(hT:bl P T){J}{h}{op}{t ag:TypeId}{xo yo}{K}(o:az J xo fun x=>az J yo fun y=>P1 op x y (fun s=>K s [] [])):aN P J h (.binOp op t xo yo ag) K:=by
 obtain⟨sx,o,hx⟩:=bS o;obtain⟨sy,o,hy⟩:=bS o;cases op with
 |eql=>
  cases sx with
  |pz q=>
   cases sy with
   |int q' b=>
    obtain⟨hq,bi⟩:=bL o;obtain⟨M,aU⟩:=bL bi;have hq:=OI hq;rw[zB]at M;have M:=cZ M;exact ed aU fun w L g A d ty pos after guard I=>by
     have E:=hx w L g A (I xo rO);have F:=hy w L g A (I yo rO);generalize HZ:A xo=vx at E;generalize DJ:A yo=vy at F;cases F;cases E with
     | @pz _ _ a ha=>
      have dn:q8 T .eql t (.int q a) (.int q 0) (· =.bool (decide (a=0))):=by unfold q8;simp only[dw];rfl
      obtain⟨s1,e1,M⟩:=Lv hT dn;subst e1;obtain⟨v,hv,D⟩:=M w L g _ _ xo yo .int .int;refine⟨v,cu (by simp_all),?_⟩;have e:decide (a=0)=false:=sO;rw[e]at D;cases D;exact .ff
   |_=>cases o
  |_=>cases o
 |_=>cases o
def TG(T:aG)(c:Bool)(U:dm)(op:BinOp)(t:TypeId)(x y:SV)(cy:Bool)(K:bC):Prop:=
 match y with
 |.nilm=>tD T U op t x .nilm cy K
 |.nili=>tD T U op t x .nili cy K
 |.ifc ag s=>tD T U op t x (.ifc ag s) cy K
 |.nilp=>tD T U op t x .nilp cy K
 |.ptr b aa=>tD T U op t x (.ptr b aa) cy K
 |.nils=>(match x with
  |.rs z es=>List.rec (wQ T c op t (.rs z []) .nils fun s=>K s [] []) (fun e r _=>tD T U op t (.rs z (e::r)) .nils cy K) es
  |x=>tD T U op t x .nils cy K)
 |.agg ys=>aeX T c op t x (.agg ys) K
 |.int q b=>(match x with
  |.pz q'=>P1 op (.pz q') (.int q b) fun s=>K s [] []
  |x=>wQ T c op t x (.int q b) fun s=>K s [] [])
 |y=>wQ T c op t x y fun s=>K s [] []
def afP(hT:bl P T){c}{J}{h:Hp}{op}{t ag:TypeId}{xo yo}{K}(o:az J xo fun x=>az J yo fun y=>TG T c (av h) op t x y (x_ yo) K):aN P J h (.binOp op t xo yo ag) K:=by
 obtain⟨x,bi,hx⟩:=jK J xo _ o;obtain⟨y,aU,hy⟩:=jK J yo _ bi;have nl:tD T (av h) op t x y (x_ yo) K->aN P J h (.binOp op t xo yo ag) K:=fun h'=>aom hT (hx _ (hy _ h'));have B5:wQ T c op t x y (fun s=>K s [] [])->aN P J h (.binOp op t xo yo ag) K:=fun h'=>aN.up (c:=c) (TH hT (ae:=0) (hx _ (hy _ (afQ h'))));have app:P1 op x y (fun s=>K s [] [])->aN P J h (.binOp op t xo yo ag) K:=fun h'=>apC hT (hx _ (hy _ h'));have auU:Lj T op t x y K->aN P J h (.binOp op t xo yo ag) K:=fun h'=>afn hT (hx _ (hy _ h'));cases y with
 |nilm=>exact nl aU
 |nili=>exact nl aU
 |ifc _ _=>exact nl aU
 |nilp=>exact nl aU
 |ptr _ _=>exact nl aU
 |nils=>
  cases x with
  |rs z es=>cases es<;>first|exact nl aU|exact B5 aU
  |_=>first|exact nl aU|exact B5 aU
 |int _ _=>cases x<;>first|exact B5 aU|exact app aU
 |agg ys=>obtain⟨te,dc,ht⟩:=gq T t _ aU;grind
 |_=>exact B5 aU
def XN(T:aG)(U:dm)(x:SV)(t:TypeId)(c:Bool)(K:bC):Prop:=
 match x with
 |.sl b=>ve T U t (.sl b) (di c K)
 |.ss b l n=>ve T U t (.ss b l n) (di c K)
 |.nilm=>ve T U t .nilm (di c K)
 |.mp b=>ve T U t (.mp b) (di c K)
 |.z0=>ve T U t .z0 (di c K)
 |x=>aX T t fun te=>match te.ti,x with
  |.str,.str s=>di c K (.int .i64 (s.length:Int)) [] []
  |.slice _,.nils=>di c K (.int .i64 0) [] []
  |.slice _,.rs _ es=>di c K (.int .i64 (es.length:Int)) [] []
  |.slice _,.qu n=>di c K (.int .i64 (n:Int)) [] []
  |_,_=>False
def LC(T:aG)(U:dm)(t:TypeId)(x:SV)(K:bC):Prop:=aX T t fun te=>match te.ti,x with
 |.slice _,.sl b=>fJ U b fun _ _ _ es=>match es with|[]=>False|_::_=>K (.pz .i64) [] [b]
 |.slice _,.nils=>K (.int .i64 0) [] []
 |_,_=>False
def agl(hT:bl P T){J}{h:Hp}{t:TypeId}{kB}{xs}{x}(bD:kB.toList=t::kB.toList.tail)(bv:xs.toList=[x]){K} (o:az J x fun m=>LC T (av h) t m K):aN P J h (.call ⟨.builtin .cap,xs,kB⟩) K:=by
 obtain⟨m,o,hm⟩:=bS o;replace o:=b4 hT o;generalize ax:(bk P t).ti=ti at o;have n5:∀A:Operand->Value,xs.map A= #[A x]:=fun A=>by exact Bz
 have iS:kB[0]?=some t:=by rw[<-eF,bD];rfl
 have gI:x∈(Op.call ⟨.builtin .cap,xs,kB⟩).operands.toList:=by simp[Op.operands,Call.operands];rw[<-qN,bv];simp
 have hex:∀A d ty pos after guard,
  execOp A ⟨d,.call ⟨.builtin .cap,xs,kB⟩,ty,pos,after,guard⟩=(do pure (Next.value (<-Builtin.cap_ kB ty #[A x])):Sem Next):=fun A d ty pos after guard=>by
  exact adf
 cases ti with
 |slice e=>
  have hu:=fi (bm ax sM).1;cases m with
  |nils=>
   refine⟨_,_,_,o,fun w X g F A d ty pos after guard O I ap=>?_,sM⟩;have E:=hm w _ g A (I x gI);have hv:A x=.slice none 0 0:=by generalize aF:A x=vx at E;cases E;rfl
   refine dD (hex A d ty pos after guard) (v:=.int .i64 0) (w':=w) ?_ ⟨g,.int,O,.refl _ _ _,rfl⟩;simp only[Builtin.cap_,iS,lG,mL,bJ,bB hu,cb,hv,da,goInt];rfl
  |sl b=>
   have o:=o;obtain⟨p,T0,z,es,M,o⟩:=kz o;match es,M,o with
   |[],_,o=>cases o
   |e0::es,M,o=>
   refine⟨_,_,_,o,fun w X g F A d ty pos after guard O I ap=>?_,sM⟩;have E:=hm w _ g A (I x gI);have hv:∃a n c,A x=.slice a n c/\0<c:=by
    generalize aF:A x=vx at E;rcases ot O ((ap b sM).trans M)with⟨u,cap,vs,ak,cR⟩|⟨ak,dA⟩;cases E with|sl h'=>grind|dE h'=>simp_all|c9 h'=>simp_all
    simp at dA
   obtain⟨a,n,c,hv,hc⟩:=hv;refine dD (hex A d ty pos after guard) (v:=.int .i64 (c:Int)) (w':=w) ?_ ⟨g,.pz G,O,.refl _ _ _,rfl⟩;simp only[Builtin.cap_,iS,lG,mL,bJ,bB hu,cb,hv,da,goInt]
  |_=>cases o
 |_=>simp_all
def T_(T:aG)(c:Bool)(U:dm)(t:TypeId)(x:SV)(K:bC):Prop:=
 match x with
 |.nilm=>Gx T U t .nilm K
 |.mp b=>Gx T U t (.mp b) K
 |x=>LM T c U t x K
def jX(T:aG)(op:Op):Bool:=
 match op with
 |.makeMap _ _=>true
 |.range _ _=>true
 |op=>qX T op
def Lw(ev:sD)(fs:List (Nat×TypeId×Nat))(ps:List (Nat×Operand)):List SV->(List SV->Prop)->Prop:=
 List.rec (fun cs k=>k cs)
  (fun p _ ih cs k=>av fs p.1 fun q=>ev p.2 fun s=>lk s fun c=>bd c.length q.2.2 (tJ cs q.1 c fun bU=>ih bU k)) ps
def Lk(n sz:Nat)(e:TypeId):List (Nat×TypeId×Nat):=(List.range n).map fun i=>(i*sz,e,sz)
def aiW{f u}(hfg:∀i p,f i=some p->u i=some p)(l:List (Nat×Value)):∀{vs r},Instr.fill f vs l=some r->Instr.fill u vs l=some r:=by induction l with|nil=>intro vs r h;exact h|cons p l ih=>intro vs r h;obtain⟨i,v⟩:=p;simp only[Instr.fill]at h⊢;grind
def af6(hT:bl P T){J}{h}{t e:TypeId}{n}{ps}{K}(ax:(bk P t).ti=.array n e) (o:aX T e fun ee=>iq ee.zero fun _=>iq (bk P t).zero fun z=>Lw (az J) (Lk n ee.size e) ps.toList z fun cs=>K (.agg cs) [] []):aN P J h (.build t ps) K:=by replace o:=b4 hT o;obtain⟨alS,auN,g9,dY,_,_,_,_,_,o⟩:=oc o;obtain⟨i,z,Q,_,_,hz,d8,hi,_,o⟩:=oc o;rw[hz]at o;obtain⟨cs,o,M⟩:=TP ps.toList o;have hu:=vU (bm ax sM).1;exact ed o fun w L g A d ty pos after guard I=>by obtain⟨cP,rG,hl,hc⟩:=M w L g A z.cells (fun p hp=>I p.2 (by simp only[Op.operands,ew];exact⟨p,hp,rfl⟩)) (Fe hi);refine⟨.agg cP,cu (m:=Instr.build t (ps.map fun(i,x)=>(i,A x))) (run_build w t _ cP ?_),.agg hl (fun j v hv=>?_) fun j s v hs hv=>(hc j s v hs hv).1⟩;unfold Program.built;simp only[Q,hu,d8,g9];have e2:(ps.map fun(i,x)=>(i,A x)).toList=ps.toList.map fun p=>(p.1,A p.2):=sM;rw[e2];refine aiW (fun j p hj=>?_) _ rG;unfold Lk at hj;grind;exact Ka
def ll(ev:sD)(l:List Operand):(List SV->Prop)->Prop:=
 List.rec (fun k=>k []) (fun x _ ih k=>ev x fun s=>ih fun r=>k (s::r)) l
def eB{J}{x}{k}(h:az J x k):∃s,k s/\(∀w L g A,bA w L g J A x->af w L g s (A x))/\∀k',k' s->az J x k':=by obtain⟨s,E,F⟩:=jK J x _ h;obtain⟨s',rfl,h3⟩:=bS (F (fun s'=>s'=s) rfl);grind
inductive lI(α:Type):Type where|mk (a:α)
def lI.run{α:Type}(b:lI α)(k:α->Prop):Prop:=lI.rec (fun a=>k a) b
abbrev aeq:=aG->Bool->sD->dm->Nat->bC->Prop
def opB(op:Op):lI aeq:=
 match op with
 |.move x=>⟨fun T c ev U ae K=>ev x fun s=>di c K s [] []⟩
 |.assign x=>⟨fun T c ev U ae K=>ev x fun s=>di c K s [] []⟩
 |.load t x=>⟨fun T c ev U ae K=>ev x fun x=>X2 T c U t x K⟩
 |.store t x v=>⟨fun T c ev U ae K=>ev x fun x=>ev v fun v=>abj T U t x v K⟩
 |.fieldAddr t x f=>⟨fun T c ev U ae K=>aX T t fun te=>ev x fun x=>match te.ti,x with
  |.struct fs,.ptr b off=>av fs f fun p=>vm p.2.2 (iz (off+p.1) fun aa=>K (.ptr b aa) [] [])
  |.struct fs,.ep b i aa=>av fs f fun p=>vm p.2.2 (iz (aa+p.1) fun aa=>K (.ep b i aa) [] [])
  |.struct fs,.rp z es i aa=>av fs f fun p=>vm p.2.2 (iz (aa+p.1) fun aa=>K (.rp z es i aa) [] [])
  |_,_=>False⟩
 |.nilCheck x=>⟨fun T c ev U ae K=>ev x fun x=>match x with
  |.ptr b aa=>K (.ptr b aa) [] []
  |.ep b i f=>K (.ep b i f) [] []
  |.rp z es i f=>K (.rp z es i f) [] []
  |_=>False⟩
 |.field t x f=>⟨fun T c ev U ae K=>aX T t fun te=>ev x fun x=>match te.ti,x with
  |.struct fs,.agg cs=>av fs f fun p=>r7 T cs p.1 p.2.1 fun s=>di c K s [] []
  |_,_=>False⟩
 |.binOp op t x y _=>⟨fun T c ev U ae K=>ev x fun x=>ev y fun y'=>TG T c U op t x y' (x_ y) K⟩
 |.unOp op _ x=>⟨fun T c ev U ae K=>ev x fun x=>JV op x fun s=>di c K s [] []⟩
 |.indexAddr t x i=>⟨fun T c ev U ae K=>(match x with
  |.global u=>ev i fun i=>Xh T U t u i K
  |x=>ev x fun x=>ev i fun i=>Ot T c U t x i K)⟩
 |.index t x i=>⟨fun T c ev U ae K=>ev x fun x=>ev i fun i=>abk T c t x i K⟩
 |.extract x i=>⟨fun T c ev U ae K=>ev x fun x=>match x with
  |.tup vs=>av vs i fun s=>di c K s [] []
  |_=>False⟩
 |.convert a t x=>⟨fun T c ev U ae K=>ev x fun x=>aX T a fun ta=>aX T t fun te=>LP T c U ae a t ta.ti te.ti x K⟩
 |.alloc t=>⟨fun T c ev U ae K=>aX T t fun te=>iq te.zero fun z=>K (.ptr ae 0) [(ae,.fix t z)] [ae]⟩
 |.box t x=>⟨fun T c ev U ae K=>ev x fun s=>lk s fun cs=>K (.ptr ae 0) [(ae,.fix t cs)] [ae]⟩
 |.build t ps=>⟨fun T c ev U ae K=>aX T t fun te=>match te.ti with
  |.struct fs=>iq te.zero fun z=>Lw ev fs ps.toList z fun cs=>K (.agg cs) [] []
  |.array n e=>aX T e fun ee=>iq ee.zero fun _=>iq te.zero fun z=>Lw ev (Lk n ee.size e) ps.toList z fun cs=>K (.agg cs) [] []
  |_=>False⟩
 |.slice t x lo Q mx=>⟨fun T c ev U ae K=>ev x fun x=>aa8 T c ev U t x lo Q mx K⟩
 |.buildSlice t n ps=>⟨fun T c ev U ae K=>TQ T ev ae t n ps K⟩
 |.makeSlice t n m=>⟨fun T c ev U ae K=>ev n fun n=>ev m fun m=>Yj T c ae t n m K⟩
 |.makeMap _ r=>⟨fun T c ev U ae K=>(match r with|none=>K (.mp ae) [(ae,.mapB [] 0)] [ae]|some _=>False)⟩
 |.lookup t x y ok=>⟨fun T c ev U ae K=>ev x fun m=>ev y fun key=>match key with
  |.agg ks=>Iw T c U t m ks ok K|key=>Aw T c U t m key ok K⟩
 |.mapUpdate t x y z=>⟨fun T c ev U ae K=>ev x fun m=>ev y fun key=>ev z fun v=>match key with
  |.agg ks=>IG T U t m ks v K|key=>AF T U t m key v K⟩
 |.mapEntry t x y=>⟨fun T c ev U ae K=>ev x fun m=>ev y fun key=>Pf T U t m key K⟩
 |.entryStore _ x y z=>⟨fun T c ev U ae K=>ev x fun m=>ev y fun st=>ev z fun v=>L2 U m st v K⟩
 |.range t x=>⟨fun T c ev U ae K=>ev x fun x=>aaj T U ae t x K⟩
 |.next x str=>⟨fun T c ev U ae K=>ev x fun x=>YO c U x str K⟩
 |.entry x=>⟨fun T c ev U ae K=>ev x fun x=>UD U x K⟩
 |.makeInterface t x=>⟨fun T c ev U ae K=>ev x fun x=>Yu T t x K⟩
 |.typeAssert x _ t ok=>⟨fun T c ev U ae K=>ev x fun x=>taV T c t x ok K⟩
 |.pick b x y=>⟨fun T c ev U ae K=>ev b fun b=>match b with
  |.tt=>ev x fun s=>di c K s [] []
  |.ff=>ev y fun s=>di c K s [] []
  |_=>False⟩
 |.makeFunc fn first lj=>⟨fun T c ev U ae K=>(match fn,first.toList,lj.toList with
  |.func f,[],cs=>ll ev cs fun l=>K (.fn f l) [] []
  |.func f,fs,[]=>ll ev fs fun l=>K (.eh f l) [] []
  |_,_,_=>False)⟩
 |.call cl=>⟨fun T c ev U ae K=>(match cl with
  |⟨.builtin .len,xs,kB⟩=>(match xs.toList,kB.toList with
   |[x],[t]=>ev x fun v=>XN T U v t c K
   |_,_=>False)
  |⟨.builtin .cap,xs,kB⟩=>(match xs.toList,kB.toList with
   |[x],[t]=>ev x fun v=>LC T U t v K
   |_,_=>False)
  |⟨.builtin .unsafeSliceData,xs,_⟩=>(match xs.toList with
   |[x]=>ev x fun v=>LR U v K
   |_=>False)
  |⟨.builtin .unsafeString,xs,kB⟩=>(match xs.toList,kB.toList with
   |[x,y],[t,_]=>ev x fun ag=>ev y fun v=>Rg T U t ag v K
   |_,_=>False)
  |⟨.builtin .append,xs,kB⟩=>(match xs.toList,kB.toList with
   |[x,y],[t,ag]=>ev x fun s=>ev y fun v=>Ld T c U ae t ag s v K
   |_,_=>False)
  |⟨.builtin .delete,xs,kB⟩=>(match xs.toList,kB.toList with
   |[x,y],t::_=>ev x fun m=>ev y fun key=>LW T U t m key K
   |_,_=>False)
  |⟨.builtin .clear,xs,kB⟩=>(match xs.toList,kB.toList with
   |[x],t::_=>ev x fun m=>T_ T c U t m K
   |_,_=>False)
  |⟨.builtin .min,xs,_⟩=>ll ev xs.toList fun l=>match l with
   |[.int k x,.int _ y]=>di c K (.int k (if y<x then y else x)) [] []
   |_=>False
  |⟨.builtin .max,xs,_⟩=>ll ev xs.toList fun l=>match l with
   |[.int k x,.int _ y]=>di c K (.int k (if y>x then y else x)) [] []
   |_=>False
  |_=>False)⟩
 |_=>⟨fun _ _ _ _ _ _=>False⟩
def vu(T:aG)(c:Bool)(ev:sD)(U:dm)(ae:Nat)(op:Op)(K:bC):Prop:=(opB op).run fun f=>f T c ev U ae K
def de(T:aG)(c:Bool)(J:Fr)(h:Hp)(ae:Nat)(op:Op)(K:bC):Prop:=vu T c (az J) (av h) ae op K
def aiL(J)(l):sC (ll (az J) l):=by induction l with|nil=>intro k h;exact⟨[],h,fun _ h=>h⟩|cons x l ih=>intro k h;obtain⟨s,E,hs⟩:=jK J x _ h;obtain⟨r,F,D⟩:=ih _ E;exact⟨s::r,F,fun k' bV=>hs _ (D (fun r=>k' (s::r)) bV)⟩
def anF{J}{h}{f}{first lj}{l}(jP:first.toList=l)(co:lj.toList=[]){K}(o:ll (az J) l fun l=>K (.eh f l) [] []):aN P J h (.makeFunc (.func f) first lj) K:=by
 obtain⟨ss,o,hl⟩:=nN (J:=J) (l:=l) (k:=fun l=>K (.eh f l) [] []) o;have hc:lj= #[]:=by rw[<-yR (xs:=lj),co]
 subst hc;refine ed o fun w L g A d ty pos after guard I=>?_;have D:=hl w L g A fun y hy=>I y (by simp[Op.operands];grind);refine⟨.func (.func f) (first.map A) #[],cu (m:=Instr.makeFunc (.func f) (first.map A) (#[].map A)) (by simp[Instr.makeFunc]),.eh ?_ fun j s v bW hv=>D.2 j s v bW ?_⟩;have:=D.1;grind;grind
def RV{ab:Prop}(k:ab:=by obtain⟨l,bi,hl⟩:=aiL J xs.toList _ (show ll (az J) xs.toList _ from o);obtain⟨l',e,D⟩:=nN (J:=J) (l:=xs.toList) (k:=fun l'=>l'=l) (hl _ rfl);subst e;match l',bi,hl with|[],bi,_=>simp_all|[a],bi,_=>simp_all|a::b::d::r,bi,_=>simp_all|[a,b],bi,hl=>cases a<;>cases b<;>first|exact bi.elim|exact ahX (hl _ bi)):ab:=k
def acH{ab:Prop}(k:ab:=by refine aN.up (c:=c) (lz hT (fun bx=>hf bx) (ae:=ae) ?_);obtain⟨s,bi,hs⟩:=jK J x _ o;refine hs _ ?_;cases s<;>exact bi):ab:=k
def yk(hT:bl P T){c}{J}{h}{ae}{op}{K}(hf:jX T op=true->h[ae]?=some .fresh)(o:de T c J h ae op K):aN P J h op K:=by
 cases op with
 |move x=>exact aN.up (c:=c) (lz hT (fun bx=>hf bx) (ae:=ae) o)
 |assign x=>exact aN.up (c:=c) (lz hT (fun bx=>hf bx) (ae:=ae) o)
 |unOp aa t x=>exact aN.up (c:=c) (lz hT (fun bx=>hf bx) (ae:=ae) o)
 |extract x i=>exact acH
 |field t x f=>refine aN.up (c:=c) (lz hT (fun bx=>hf bx) (ae:=ae) ?_);obtain⟨te,bi,d5⟩:=gq T t _ o;obtain⟨s,aU,hs⟩:=jK J x _ bi;refine d5 _ (hs _ ?_);omega
 |fieldAddr t x f=>
  refine aN.up (c:=c) (lz hT (fun bx=>hf bx) (ae:=ae) ?_);obtain⟨te,bi,d5⟩:=gq T t _ o;obtain⟨s,aU,hs⟩:=jK J x _ bi;refine d5 _ (hs _ ?_);revert aU;generalize te.ti=ti;intro aU;cases ti<;>cases s<;>first
   |cases aU
   |(obtain⟨p,hp,dc⟩:=PI _ _ _ aU
     refine dc _ ?_
     obtain⟨E,F⟩:=D9 hp
     have F:=mf F
     cases hq:p.2.2 with
     |zero=>exact absurd hq E
     |succ q=>exact F)
 |nilCheck x=>exact acH
 |alloc t=>refine aN.up (c:=c) (lz hT (fun bx=>hf bx) (ae:=ae) ?_);exact o
 |box t x=>refine aN.up (c:=c) (lz hT (fun bx=>hf bx) (ae:=ae) ?_);exact o
 |pick b x y=>refine aN.up (c:=c) (lz hT (fun bx=>hf bx) (ae:=ae) ?_);obtain⟨s,bi,hs⟩:=jK J b _ o;refine hs _ ?_;grind
 |makeFunc fn first lj=>
  cases fn<;>first|cases o|skip
  rename_i f;have o:(match Fn.func f,first.toList,lj.toList with|.func f,[],cs=>ll (az J) cs fun l=>K (.fn f l) [] []|.func f,fs,[]=>ll (az J) fs fun l=>K (.eh f l) [] []|_,_,_=>False):=o;cases jP:first.toList with|nil=>rw[jP]at o;refine aN.up (c:=c) (lz hT (fun bx=>hf bx) (ae:=ae) ?_);show(match Fn.func f,first.toList with|.func f,[]=>mT J lj.toList fun l=>di c K (.fn f l) [] []|_,_=>False);rw[jP];exact o|cons x xs=>cases co:lj.toList with|cons _ _=>simp_all|nil=>rw[jP,co]at o;exact anF jP co o
 |build t ps=>
  obtain⟨te,bi,d5⟩:=gq T t _ o;have ht:=b4 hT (d5 (fun x=>x=te) rfl);cases ax:te.ti<;>rw[ax]at bi<;>first|cases bi|skip
  refine aN.up (c:=c) (lz hT (fun bx=>hf bx) (ae:=ae) (d5 _ ?_));simp only[ax];exact bi;refine af6 hT (by rw[ht,ax]) ?_;rw[ht];exact bi
 |load t x=>obtain⟨s,o,hx,_⟩:=eB (show az J x _ from o);exact am4 hT hx o
 |store t x v=>obtain⟨s,o,hx,_⟩:=eB (show az J x _ from o);obtain⟨y,o,hy,_⟩:=eB o;exact atH hT hx hy o
 |indexAddr t x i=>
  have key:(az J x fun x=>az J i fun i=>Ot T c (av h) t x i K)->aN P J h (.indexAddr t x i) K:=fun o=>by obtain⟨s,o,hx,_⟩:=eB o;obtain⟨y,o,hy,_⟩:=eB o;exact al0 hT hx hy o
  cases x with|global u=>exact al1 hT o|_=>exact key o
 |index t x i=>exact atK hT o
 |slice t x lo Q mx=>exact ati hT o
 |buildSlice t n ps=>exact af8 hT (hf rfl) o
 |makeSlice t n m=>exact ano hT (hf rfl) o
 |makeMap t r=>cases r with|none=>exact Yh (hf rfl) o|some _=>exact o.elim
 |lookup t x y ok=>obtain⟨m,o,hm,bq⟩:=eB (show az J x _ from o);obtain⟨key,o,hy,DH⟩:=eB o;have old:(match(generalizing:=false) key with|.agg ks=>Iw T c (av h) t m ks ok K|key=>Aw T c (av h) t m key ok K)->aN P J h (.lookup t x y ok) K:=fun h'=>am7 (c:=c) hT (bq _ (DH _ h'));exact old o
 |mapUpdate t x y z=>obtain⟨m,o,hm,bq⟩:=eB (show az J x _ from o);obtain⟨key,o,hy,DH⟩:=eB o;obtain⟨v,o,hz,hz'⟩:=eB o;have old:(match(generalizing:=false) key with|.agg ks=>IG T (av h) t m ks v K|key=>AF T (av h) t m key v K)->aN P J h (.mapUpdate t x y z) K:=fun h'=>anS hT (bq _ (DH _ (hz' _ h')));exact old o
 |mapEntry t x y=>exact anB hT o
 |entryStore t x y z=>exact ait o
 |range t x=>exact aak hT (hf rfl) o
 |next x s=>exact aok o
 |entry x=>exact aio o
 |makeInterface t x=>exact anJ hT o
 |typeAssert x xt t ok=>exact atU hT o
 |convert a t x=>obtain⟨s,o,hx,hx'⟩:=eB (show az J x _ from o);exact ahi hT hf (hx' _ o)
 |binOp op t x y ag=>exact afP hT o
 |call cl=>
  obtain⟨callee,xs,kB⟩:=cl;cases callee with
  |builtin b=>
   have ahX:cH T J h ae (.call ⟨.builtin b,xs,kB⟩) (di c K)->aN P J h (.call ⟨.builtin b,xs,kB⟩) K:=fun h'=>aN.up (lz hT (fun bx=>hf (by cases b<;>exact bx)) h');cases b with
   |len=>
    have cF:(match xs.toList,kB.toList with|[x],[t]=>az J x fun v=>XN T (av h) v t c K|_,_=>False):=o;match bv:xs.toList,bD:kB.toList with
    |[x],[t]=>
     rw[bv,bD]at cF;obtain⟨v,bi,m2,hv⟩:=eB (show az J x _ from cF);have E:ve T (av h) t v (di c K)->aN P J h (.call ⟨.builtin .len,xs,kB⟩) K:=fun h'=>aN.up (XP hT (t:=t) (by rw[bD];rfl) bv (hv _ h'));have F:cH T J h 0 (.call ⟨.builtin .len,xs,kB⟩) (di c K)->aN P J h (.call ⟨.builtin .len,xs,kB⟩) K:=fun h'=>aN.up (lz hT (fun bx=>absurd bx (by simp[qX])) h')
     have h3:∀te:TE,(∀k:TE->Prop,k te->aX T t k)->(match te.ti,[v]with
      |.str,[.str s]=>di c K (.int .i64 (s.length:Int)) [] []
      |.slice _,[.nils]=>di c K (.int .i64 0) [] []
      |.slice _,[.rs _ es]=>di c K (.int .i64 (es.length:Int)) [] []
      |.slice _,[.qu n]=>di c K (.int .i64 (n:Int)) [] []
      |.slice _,[.sl b]=>av h b fun aT=>match aT with
       |.row _ _ es=>di c K (.int .i64 (es.length:Int)) [] [b]
       |_=>False
      |_,_=>False)->aN P J h (.call ⟨.builtin .len,xs,kB⟩) K:=fun te d5 h'=>F (by
      show mT J xs.toList _
      rw[bv,bD]
      exact hv _ (d5 _ h'))
     clear o cF hv;cases v<;>first
      |exact E bi
      |(obtain⟨te,dc,d5⟩:=gq T t _ (show aX T t _ from bi)
        refine h3 te d5 ?_
        clear h3
        revert dc
        generalize te.ti=ti
        intro dc
        cases ti<;>first|exact dc|exact dc.elim)
    |[],_=>simp_all
    |_::_::_,_=>simp_all
    |[_],[]=>simp_all
    |[_],_::_::_=>simp_all
   |append=>have cF:(match xs.toList,kB.toList with|[x,y],[t,ag]=>az J x fun s=>az J y fun v=>Ld T c (av h) ae t ag s v K|_,_=>False):=o;match bv:xs.toList,bD:kB.toList with|[x,y],[t,ag]=>rw[bv,bD]at cF;obtain⟨s,bi,hs0,hs⟩:=eB (show az J x _ from cF);obtain⟨v,bi,m2,hv⟩:=eB bi;exact ae6 hT (hf rfl) bv bD (hs _ (hv _ bi))|[],_=>simp_all|[_],_=>simp_all|_::_::_::_,_=>simp_all|[_,_],[]=>simp_all|[_,_],[_]=>simp_all|[_,_],_::_::_::_=>simp_all
   |delete=>have cF:(match xs.toList,kB.toList with|[x,y],t::_=>az J x fun m=>az J y fun key=>LW T (av h) t m key K|_,_=>False):=o;match bv:xs.toList,bD:kB.toList with|[x,y],t::r=>rw[bv,bD]at cF;exact Ui hT (t:=t) (by rw[bD];rfl) bv cF|[],_=>simp_all|[_],_=>simp_all|_::_::_::_,_=>simp_all|[_,_],[]=>simp_all
   |clear=>
    have cF:(match xs.toList,kB.toList with|[x],t::_=>az J x fun m=>T_ T c (av h) t m K|_,_=>False):=o;match bv:xs.toList,bD:kB.toList with
    |[x],t::r=>rw[bv,bD]at cF;obtain⟨v,bi,hv⟩:=jK J x _ (show az J x _ from cF);have E:Gx T (av h) t v K->aN P J h (.call ⟨.builtin .clear,xs,kB⟩) K:=fun h'=>Ua hT (t:=t) (by rw[bD];rfl) bv (hv _ h');have F:LM T c (av h) t v K->aN P J h (.call ⟨.builtin .clear,xs,kB⟩) K:=fun h'=>ag0 hT (t:=t) (by rw[bD];rfl) bv (hv _ h');clear o cF hv;cases v<;>first|exact E bi|exact F bi
    |[],_=>simp_all
    |_::_::_,_=>simp_all
    |[_],[]=>simp_all
   |cap=>have cF:(match xs.toList,kB.toList with|[x],[t]=>az J x fun v=>LC T (av h) t v K|_,_=>False):=o;match bv:xs.toList,bD:kB.toList with|[x],[t]=>rw[bv,bD]at cF;exact agl hT (t:=t) (by rw[bD];rfl) bv cF|[],_=>simp_all|_::_::_,_=>simp_all|[_],[]=>simp_all|[_],_::_::_=>simp_all
   |unsafeSliceData=>have cF:(match xs.toList with|[x]=>az J x fun v=>LR (av h) v K|_=>False):=o;match bv:xs.toList with|[x]=>rw[bv]at cF;exact ahs bv cF|[]=>simp_all|_::_::_=>simp_all
   |unsafeString=>
    have cF:(match xs.toList,kB.toList with|[x,y],[t,_]=>az J x fun ag=>az J y fun v=>Rg T (av h) t ag v K|_,_=>False):=o;match bv:xs.toList,bD:kB.toList with
    |[x,y],[t,ag]=>
     rw[bv,bD]at cF;have ha:kB= #[t,kB.getD 1 0]:=by
      have:kB= #[t,ag]:=by rw[<-yR (xs:=kB),bD]
      rw[this];rfl
     exact aut hT ha bv cF
    |[],_=>simp_all
    |[_],_=>simp_all
    |_::_::_::_,_=>simp_all
    |[_,_],[]=>simp_all
    |[_,_],[_]=>simp_all
    |[_,_],_::_::_::_=>simp_all
   |min=>exact RV
   |max=>exact RV
   |_=>exact o.elim
  |value _=>exact o.elim
  |invoke _ _=>exact o.elim
 |_=>exact o.elim
end
