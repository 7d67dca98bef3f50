/- Lemmas for TopZ; tactic blocks in binders fill in some arguments. -/
import Derived.Test.YtfkepgkmobgleaaGreatDoorProg
import Derived.Laws.Externs
import Derived.Lib.Bytealg
import Derived.Shelf.Lay
import Derived.Shelf.LaySoft
import Derived.Shelf.Strconv.Itoa3
import Derived.Shelf.Strings.Builder1
import Derived.Shelf.Strings.Builder2
import Derived.Shelf.Strings.Builder2Cap
import Derived.Test.YtfkepgkmobgleaaGreatDoorP09
set_option linter.all false
namespace Go.Sx
section
variable{P:Program} {aH:Env}
def tP{m}{ok}{b}{k}(h:qD m ok [] b k):k b/\b<m/\ok b=true:=by
 rcases gk h with⟨_,h⟩|⟨M,h⟩;exact h.elim;have ai:b<m:=by rcases nD b m with h'|h';exact h';rw[Fk h']at M;simp at M
 obtain⟨aw,h⟩:=bL h;exact⟨h,ai,aw⟩
def aaE{m}{ok}{s}{k}(h:A1 m ok [] s k):k s/\hX m ok [] s s:=by
 cases s<;>simp only[A1]at h;case ptr b aa=>obtain⟨h,ai,aw⟩:=tP h;refine⟨h,fun w L E' g V v hm _ D=>?_⟩;cases D with|ptr U=>exact .ptr (hm.old _ _ ai aw U sM)|eD U=>exact .eD (hm.old _ _ ai aw U sM)
 case ep b i f=>obtain⟨h,ai,aw⟩:=tP h;refine⟨h,fun w L E' g V v hm _ D=>?_⟩;cases D with|ep U=>exact .ep (hm.old _ _ ai aw U sM)|hb U=>exact .hb (hm.old _ _ ai aw U sM)
 case sl b=>obtain⟨h,ai,aw⟩:=tP h;refine⟨h,fun w L E' g V v hm _ D=>?_⟩;cases D with|sl U=>exact .sl (hm.old _ _ ai aw U sM)|dE U=>exact .dE (hm.old _ _ ai aw U sM)|c9 U=>exact .c9 (hm.old _ _ ai aw U sM)
 case mp b=>obtain⟨h,ai,aw⟩:=tP h;refine⟨h,fun w L E' g V v hm _ D=>?_⟩;cases D with|mp U=>exact .mp (hm.old _ _ ai aw U sM)|gN U=>exact .gN (hm.old _ _ ai aw U sM)
 case ss b l n=>obtain⟨h,ai,aw⟩:=tP h;refine⟨h,fun w L E' g V v hm _ D=>?_⟩;cases D with|ss U hl I=>exact .ss (hm.old _ _ ai aw U sM) hl I|eS U=>exact .eS (hm.old _ _ ai aw U sM)|ej U=>exact .ej (hm.old _ _ ai aw U sM)
 case it b=>obtain⟨h,ai,aw⟩:=tP h;refine⟨h,fun w L E' g V v hm _ D=>?_⟩;cases D with|it U=>exact .it (hm.old _ _ ai aw U sM)|ho U=>exact .ho (hm.old _ _ ai aw U sM)
 case tl b n=>obtain⟨h,ai,aw⟩:=tP h;refine⟨h,fun w L E' g V v hm _ D=>?_⟩;cases D with|tl U E F=>exact .tl (hm.old _ _ ai aw U sM) E F|eY U=>exact .eY (hm.old _ _ ai aw U sM)|fM U=>exact .fM (hm.old _ _ ai aw U sM)
 case tp b n i f=>obtain⟨h,ai,aw⟩:=tP h;refine⟨h,fun w L E' g V v hm _ D=>?_⟩;cases D with|tp U=>exact .tp (hm.old _ _ ai aw U sM)|np U=>exact .np (hm.old _ _ ai aw U sM)
 case any=>exact⟨h,fun _ _ _ _ _ _ _ _ _=>.any⟩
 all_goals first|cases h|exact⟨h,.nd fun w L g V v D=>by(cases D<;>first|(constructor;done)|(constructor<;>assumption))⟩
def A3{m}{ok}{f}(hf:∀{s k},f s k->k s/\hX m ok [] s s)(l):∀{k},vL f l k->k l/\oK m ok [] l l:=by induction l with|nil=>intro k h;exact⟨h,rfl,sM⟩|cons x l ih=>intro k h;obtain⟨h,hx⟩:=hf h;obtain⟨h,hl⟩:=ih h;refine⟨h,rfl,fun i s s' hs bW=>?_⟩;cases i with|zero=>simp_all|succ i=>exact hl.2 i s s' (by simpa using hs) (by simpa using bW)
def Jr{m}{ok}:∀n{s k},oq m ok [] n s k->k s/\hX m ok [] s s:=by intro n;induction n with|zero=>intro s k h;exact aaE h|succ n ih=>intro s k h;cases s with|agg cs=>obtain⟨h,hl⟩:=A3 ih cs h;exact⟨h,hl.agg⟩|tup cs=>obtain⟨h,hl⟩:=A3 ih cs h;exact⟨h,hl.tup⟩|fn f cs=>obtain⟨h,hl⟩:=A3 ih cs h;exact⟨h,hl.fn⟩|eh f cs=>obtain⟨h,hl⟩:=A3 ih cs h;exact⟨h,hl.eh⟩|ifc T s=>obtain⟨h,hl⟩:=ih h;exact⟨h,hl.ifc⟩|_=>exact aaE h
def aaG{m}{ok}(l):∀{k},Js m ok [] l k->k l/\∀e∈l,oK m ok [] e e:=by induction l with|nil=>intro k h;exact⟨h,sM⟩|cons x l ih=>intro k h;obtain⟨h,hx⟩:=A3 (fun h=>Jr 2 h) x h;obtain⟨h,hl⟩:=ih h;simp_all
def arY{m}{ok}(l):∀{k},EJ m ok [] l k->k l/\∀e∈l,hX m ok [] e.1 e.1/\hX m ok [] e.2.1 e.2.1:=by induction l with|nil=>intro k h;exact⟨h,sM⟩|cons x l ih=>intro k h;obtain⟨h,hx⟩:=Jr 2 (show oq m ok [] 2 x.1 (fun a=>oq m ok [] 2 x.2.1 fun b=>EJ m ok [] l fun r=>k ((a,b,x.2.2)::r))from h);obtain⟨h,hy⟩:=Jr 2 h;grind
def RD{ab:Prop}(k:ab:=by refine⟨h,fun w L E' g V e hm hE M=>?_⟩;cases e<;>simp only[aB]at M⊢;exact M):ab:=k
def ac1{ab:Prop}(k:ab:=by obtain⟨v,a,b,c⟩:=(h7 i e H).2 j s hs;exact⟨v,a,(hl e (bN H)).2 j s s hs hs w L E' g V v hm hE b,c⟩):ab:=k
def arX{m}{ok}{b}{k}(h:vK m ok [] b k):k b/\wz m ok [] b b:=by
 cases b with
 |fix t cs=>obtain⟨h,hl⟩:=A3 (fun h=>Jr 2 h) cs h;refine⟨h,fun w L E' g V e hm hE M=>?_⟩;cases e<;>simp only[aB]at M⊢;obtain⟨vs,E,F,h3⟩:=M;exact⟨vs,E,F,fun i s v hs hv=>⟨hl.2 i s s hs hs w L E' g V v hm hE (h3 i s v hs hv).1,(h3 i s v hs hv).2⟩⟩
 |row t z es=>refine⟨h,fun w L E' g V e hm hE M=>?_⟩;exact acV
 |prow t z es=>
  obtain⟨h,hl⟩:=aaG es h;refine⟨h,fun w L E' g V e hm hE M=>?_⟩;cases e<;>simp only[aB]at M⊢;case row=>obtain⟨E,F,h3,h4,vs,h5,h6,h7⟩:=M;refine⟨E,F,h3,h4,vs,h5,h6,fun i e H=>⟨(h7 i e H).1,fun j s hs=>?_⟩⟩;exact ac1
  case rownil=>exact M
 |mapB es c=>refine⟨h,fun w L E' g V e hm hE M=>?_⟩;cases e<;>simp only[aB]at M⊢;obtain⟨ms,E,F,h3⟩:=M;exact ad2
 |pmap es c=>obtain⟨h,hl⟩:=arY es h;refine⟨h,fun w L E' g V e hm hE M=>?_⟩;cases e<;>simp only[aB]at M⊢;obtain⟨ms,E,F,h3⟩:=M;refine⟨ms,E,F,fun i e mm H bq=>?_⟩;obtain⟨a1,a2,a3⟩:=h3 i e mm H bq;obtain⟨b1,c0⟩:=hl e (bN H);exact⟨b1 w L E' g V _ hm hE a1,c0 w L E' g V _ hm hE a2,a3⟩
 |mit mb s l st=>cases mb with|none=>exact RD|some b=>obtain⟨h,ai,aw⟩:=tP h;refine⟨h,fun w L E' g V e hm hE M=>?_⟩;cases e<;>simp only[aB]at M⊢;obtain⟨r,E,F⟩:=M;refine⟨r,E,?_⟩;rcases F with⟨g',a,b⟩|F;exact .inl ⟨g',hm.old _ _ ai aw a sM,b⟩;exact .inr (hm.old _ _ ai aw F sM)
 |sit s p=>exact RD
 |asn ab=>exact RD
 |imap es c=>refine⟨h,fun w L E' g V e hm hE M=>?_⟩;cases e<;>simp only[aB]at M⊢;obtain⟨iX,ms,E,F,h3⟩:=M;exact Ru
 |tail t z es=>obtain⟨h,hl⟩:=aaG es h;refine⟨h,fun w L E' g V e hm hE M=>?_⟩;cases e<;>simp only[aB]at M⊢;case row=>obtain⟨E,F,h3,h4,vs,h5,h6,h7,h8⟩:=M;refine⟨E,F,h3,h4,vs,h5,h6,fun i e H=>⟨(h7 i e H).1,fun j s hs=>?_⟩,h8⟩;exact ac1
 |glob g0 t cs=>refine⟨h,fun w L E' g V e hm hE M=>?_⟩;cases e<;>simp only[aB]at M⊢;obtain⟨h0,vs,E,F,h3⟩:=M;exact adZ
 |dead=>refine⟨h,fun w L E' g V e hm hE M=>?_⟩;cases e<;>simp only[aB]at M⊢
 |fresh=>refine⟨h,fun w L E' g V e hm hE M=>?_⟩;cases e<;>simp only[aB]at M⊢
def Qn{α:Type}{x:α}{j}(hj:j<16):(aO.cK x).toAQ[j]?=some x:=by exact uc
def aht{i}(h:i<4096):pN rh i=some .dead:=by unfold pN rh;rw[Qn G];show lh (aO.cK (aO.cK bK.dead)) (i % 256)=_;unfold lh;rw[Qn G];exact Qn G
def as5{h:Hp}(acc):∀{bY k},QD (av h) acc bY k->∃D',k D'/\D'.view.length=bY.view.length/\∀j,j<bY.view.length->D'.view[j]?=if j∈acc then h[j]? else bY.view[j]?:=by induction acc with|nil=>intro bY k o;exact⟨bY,o,rfl,fun j _=>by simp⟩|cons b acc ih=>intro bY k o;obtain⟨x,hx,o⟩:=bg o;obtain⟨auO,o,ai,hv⟩:=ER o;obtain⟨D',o,hl,U⟩:=ih o;grind
def Ym{ad}{acc}{k}(o:Iz ad acc k):∃bY,k bY/\bY.view.length=ad.view.length/\∀j,j<ad.view.length->bY.view[j]?=if j∈acc then ad.view[j]? else some .dead:=by
 have o:=Is (k:=fun n=>QD (eZ ad) acc ⟨n,rh⟩ k) o;rw[mV]at o;obtain⟨bY,o,hl,U⟩:=as5 acc o;have hle:ad.view.length<=4096:=by have:ad.view.length=min ad.n 4096:=nu;omega
 have h0:(HW.view ⟨ad.view.length,rh⟩).length=ad.view.length:=by have:(HW.view ⟨ad.view.length,rh⟩).length=min ad.view.length 4096:=nu;omega
 refine⟨bY,o,by rw[hl,h0],fun j hj=>?_⟩;rw[U j (by rw[h0];exact hj)];by_cases Wg:j∈acc;simp_all;rw[ay Wg,ay Wg];have:(HW.view ⟨ad.view.length,rh⟩)[j]?=some ((pN rh j).getD .dead):=qH (show j<min ad.view.length 4096 by omega);rw[this,aht G];rfl
def ajn{h:Hp}{ok}(aA:List (Nat×Nat)):∀{k},Mi (av h) ok aA k->∃tn,k tn/\(∀p∈aA,p.2∈tn)/\∀p∈aA,h[p.2]?=some .fresh/\ok p.2=false:=by
 induction aA with
 |nil=>intro k o;exact⟨[],o,sM,sM⟩
 |cons p aA ih=>
  intro k o;obtain⟨b,M,o⟩:=bg o;cases b with
  |fresh=>rcases gk o with⟨_,o⟩|⟨I,o⟩;cases o;obtain⟨tn,o,E,F⟩:=ih (k:=fun l=>k (p.2::l)) o;grind
  |_=>cases o
def auL{m}{ok}{aA}{h':Hp}(wr):∀{k},Rq m ok aA (av h') wr k->∃w1,k w1/\(∀p∈w1,p.1<m/\ok p.1=true/\(∃b,h'[p.1]?=some b/\wz m ok aA b p.2)/\p.1∈wr)/\∀i∈wr,∃p∈w1,p.1=i:=by
 induction wr with
 |nil=>intro k o;exact⟨[],o,sM,sM⟩
 |cons i wr ih=>
  intro k o;rcases gk o with⟨_,o⟩|⟨M,o⟩;cases o;have ai:i<m:=by rcases nD i m with h'|h';exact h';rw[Fk h']at M;simp at M
  obtain⟨aw,o⟩:=bL o;obtain⟨b,M,o⟩:=bg o;obtain⟨b',o,D,_⟩:=Jq o;obtain⟨w1,o,E,F⟩:=ih o;refine⟨_,o,fun p hp=>?_,fun j hj=>?_⟩;grind;rcases gE.1 hj with rfl|hj;simp_all;simp_all
def auK{m}{ok}{aA}{h':Hp}(l:List (Nat×Nat)):∀{k},Rp m ok aA (av h') l k->∃w2,k w2/\(∀p∈w2,∃a,(a,p.1)∈l/\∃b,h'[a]?=some b/\wz m ok aA b p.2)/\∀q∈l,(∃p∈w2,p.1=q.2)/\∃b,h'[q.1]?=some b:=by induction l with|nil=>intro k o;exact⟨[],o,sM,sM⟩|cons q l ih=>intro k o;obtain⟨b,M,o⟩:=bg o;obtain⟨b',o,D,_⟩:=Jq o;obtain⟨w2,o,E,F⟩:=ih o;refine⟨_,o,fun p hp=>?_,fun r ds=>?_⟩;grind;rcases gE.1 ds with rfl|ds;simp_all;grind
def asC{m}{ok}{h':Hp}{wr}(acc):∀{k},EN m ok (av h') wr acc k->k/\∀i∈acc,i∉wr->∃b,h'[i]?=some b/\wz m ok [] b b:=by
 induction acc with
 |nil=>intro k o;exact⟨o,sM⟩
 |cons i acc ih=>
  intro k o;have o:Bool.rec (motive:=fun _=>Prop) (av h' i fun b=>vK m ok [] b fun _=>EN m ok (av h') wr acc k) (EN m ok (av h') wr acc k) (jy i wr):=o;cases M:jy i wr with
  |true=>rw[M]at o;obtain⟨o,E⟩:=ih o;refine⟨o,fun j hj hn=>?_⟩;rcases gE.1 hj with rfl|hj;exact absurd (Pb wr M) hn;exact E j hj hn
  |false=>rw[M]at o;obtain⟨b,zL,o⟩:=bg o;obtain⟨o,D⟩:=arX o;grind
def abI(ws):∀{h i},(∃p∈ws,p.1=i)->i<h.length->∃p∈ws,p.1=i/\(bF ws h)[i]?=some p.2:=by
 induction ws with
 |nil=>simp_all
 |cons q ws ih=>
  intro h i hp ai;by_cases hw:∃p∈ws,p.1=i;obtain⟨p,hp,e,U⟩:=ih (h:=h.set q.1 q.2) hw (by simpa using ai);exact⟨p,KL _ hp,e,U⟩;have H:q.1=i:=by obtain⟨p,hp,e⟩:=hp;rcases gE.1 hp with rfl|hp;exact e;grind
  refine⟨q,List.mem_cons_self ..,H,?_⟩;have:(bF ws (h.set q.1 q.2))[i]?=(h.set q.1 q.2)[i]?:=oB ws fun p hp e=>hw ⟨p,hp,e⟩;show(bF ws (h.set q.1 q.2))[i]?=_;simp_all
def me(ok:Nat->Bool)(g:Sg):Sg:=g.mapIdx fun i e=>if ok i=true then e else .dead
def Az{ok}{g}{i}{e}(h:(me ok g)[i]?=some e):(ok i=true/\g[i]?=some e)\/(ok i=false/\e=.dead):=by unfold me at h;grind
def Yl{ok}{g}{i}{e}(h:g[i]?=some e):(me ok g)[i]?=some (if ok i=true then e else .dead):=by unfold me;simp_all
def anr{ok}{g}:(me ok g).length=g.length:=by simp[me]
def AA(ok:Nat->Bool)(X:Nat->Prop)(g:Sg):Nat->Prop:=fun u=>Ex X g u/\¬bM (me ok g) u
def D3{ok}{g}{u}(h:bM (me ok g) u):bM g u:=by obtain⟨i,e,H,U⟩:=h;rcases Az H with⟨_,h⟩|⟨_,rfl⟩;exact⟨i,e,h,U⟩;simp[ba.owns]at U
def Yn{ok}{X}{g}(u):Ex (AA ok X g) (me ok g) u↔Ex X g u:=by constructor;rintro(h|h);exact h.1;exact .inr (D3 h);intro h;by_cases I:bM (me ok g) u;exact .inr I;exact .inl ⟨h,I⟩
def Yo{ok}{g}(i:Nat)(e)(h:g[i]?=some e)(_:¬e.loose):(me ok g)[i]?=some e\/(me ok g)[i]?=some .dead:=by rw[Yl h];cases ok i<;>simp
def ans{w}{X}{g}{F hm}{ok}(O:Inv w X g F)(hl:hm.length=F.length)(l6:∀j,j<F.length->hm[j]?=if ok j=true then F[j]? else some .dead):Inv w (AA ok X g) (me ok g) hm:=by
 refine⟨by rw[anr,O.len,hl],fun i b e M H=>?_,fun i e u H U=>?_,fun i j e e' u H aK U bP=>?_,fun u hx=>hx.2,fun u hx=>?_⟩;have Q:i<F.length:=by rw[<-hl];exact(ao.1 M).1
 rw[l6 i Q]at M;rcases Az H with⟨I,h⟩|⟨I,rfl⟩;rw[au I]at M;exact(O.ok i b e M h).le (fun u U=>(Yn u).1 U) Yo;rw[I]at M;simp at M;subst M;trivial;rcases Az H with⟨_,h⟩|⟨_,rfl⟩;exact O.lt i e u h U;simp[ba.owns]at U;rcases Az H with⟨_,h⟩|⟨_,rfl⟩;rcases Az aK with⟨_,h'⟩|⟨_,rfl⟩;exact O.inj i j e e' u h h' U bP;simp[ba.owns]at bP;simp[ba.owns]at U;rcases hx.1 with hx|⟨i,e,H,U⟩;exact O.df u hx;exact O.lt i e u H U
def lO(ok:Nat->Bool)(aA:List (Nat×Nat))(g V:Sg):Sg:=
 g.mapIdx fun i e=>if ok i=true then V.getD i .dead else match aA.find? (fun p=>p.2==i)with|some p=>V.getD p.1 .dead|none=>e
def Ge{ok}{aA}{g V}:(lO ok aA g V).length=g.length:=by simp[lO]
def adi{ab:Prop}(k:ab:=by rw[<-M];refine(oB _ fun p hp Du=>?_).symm;rcases eJ.1 hp with hp|hp;grind;grind):ab:=k
def abt{f}{l}{h hm h':Hp}{ae}{ok}{aJ wr}{s}{K:bC}(dd:∀i,ok i=true↔i∈aJ)(o5:hm.length=h.length) (l6:∀j,j<h.length->hm[j]?=if ok j=true then h[j]? else some .dead)(z7:∀j,j<h.length->ok j=true->j∈aJ)(hle:h.length<=h'.length)(gz:∀i,i<h.length->i∉wr->h'[i]?=hm[i]?) (akk:∀w X g vs,Inv w X g hm->b5 w (Ex X g) g l vs->bO P (callFunc f vs.toArray) w fun v w'=>∃V,af w' (Ex X V) V s v/\Inv w' X V h'/\Step h.length w g w' V) (o:JZ (av h') wr [] fun todo=>vl (av h') h.length 4096 (qC 3 s todo) 0 [] fun new _=>IV h.length new ae [] fun aA=>Mi (av h) ok aA fun tn=>oq h.length ok aA 3 s fun s'=>EN h.length ok (av h') wr aJ (Rq h.length ok aA (av h') wr fun w1=>Rp h.length ok aA (av h') aA fun w2=>fA w1 w2 fun ws=>fA tn aJ fun Qh=>K s' ws Qh)):∃s ws aJ,K s ws aJ/\(∀p∈ws,p.1∈aJ)/\∀w X g F vs,Inv w X g F->F.length=h.length->b5 w (Ex X g) g l vs->(∀i∈aJ,F[i]?=h[i]?)->ea P (callFunc f vs.toArray) w X g F s ws:=by
 obtain⟨todo,o⟩:=abV wr o;obtain⟨new,_,o,_,_⟩:=Iy 4096 o Gh (by simp);obtain⟨aA,o,d6,Nn⟩:=Zb new o;obtain⟨tn,o,Hx,dp⟩:=ajn aA o;obtain⟨s',o,qi⟩:=A2 3 o;obtain⟨o,tf⟩:=asC aJ o;obtain⟨w1,o,N6,alE⟩:=auL wr o;obtain⟨w2,o,xX,W2⟩:=auK aA o;have o:=iL (iL o);have cX:∀a a' j,(a,j)∈aA->(a',j)∈aA->a=a':=fun a a' j E F=>by obtain⟨rR,e1⟩:=fx.1 E;obtain⟨i2,e2⟩:=fx.1 F;grind
 have akC:∀p∈aA,p.2<h.length:=fun p hp=>(ao.1 (dp p hp).1).1;refine⟨s',w1++w2,tn++aJ,o,fun p hp=>?_,fun w X g F vs O hlen D dz=>?_⟩;grind;have W9:g.length=h.length:=by rw[O.len,hlen]
 have akR:∀j,j<F.length->hm[j]?=if ok j=true then F[j]? else some .dead:=fun j hj=>by grind
 have hIm:=ans (ok:=ok) O (by rw[o5,hlen]) akR;have hrm:b5 w (Ex (AA ok X g) (me ok g)) (me ok g) l vs:=⟨D.1,fun i s v hs hv=>(D.2 i s v hs hv).mono _ (fun _ _ _=>rfl) (aC _) (fun u _ hn h=>hn ((Yn u).1 h)) Yo⟩;unfold ea;refine(akk w _ _ vs hIm hrm).mono fun v w'⟨V,bb,aE,hS⟩=>?_;have qa:∀i,i<h.length->i<V.length:=fun i Q=>by rw[aE.len];have:=hle;omega
 have akm:∀p∈aA,g[p.2]?=some .fresh:=fun p hp=>by refine lR O ?_;grind
 have bc:∀(i:Nat)(e:ba),(lO ok aA g V)[i]?=some e->(ok i=true/\V[i]?=some e)\/(ok i=false/\∃a,(a,i)∈aA/\V[a]?=some e)\/(ok i=false/\(∀a,(a,i)∉aA)/\g[i]?=some e):=fun i e H=>by
  unfold lO at H;rw[List.getElem?_mapIdx]at H;cases Q:g[i]? with
  |none=>grind
  |some e0=>
   have cj:i<h.length:=by rw[<-W9];exact(ao.1 Q).1
   rw[Q]at H;cases I:ok i with
   |true=>grind
   |false=>
    rw[I]at H;cases C6:aA.find? (fun p=>p.2==i)with
    |some p=>
     rw[C6]at H;have hp:=Su C6;have Du:p.2=i:=by have:=List.find?_some C6;simpa using this
     obtain⟨b,aP⟩:=(W2 p hp).2;have hg:p.1<V.length:=by rw[aE.len];exact(ao.1 aP).1
     grind
    |none=>grind
 have HE:∀(i:Nat)(e:ba),i<h.length->ok i=true->V[i]?=some e->(lO ok aA g V)[i]?=some e:=fun i e Q I H=>by unfold lO;grind
 have akZ:∀(a i:Nat)(e:ba),(a,i)∈aA->V[a]?=some e->(lO ok aA g V)[i]?=some e:=fun a i e ha H=>by have Q:=akC _ ha;unfold lO;grind
 have aws:∀(i:Nat)(e:ba),ok i=false->(∀a,(a,i)∉aA)->g[i]?=some e->(lO ok aA g V)[i]?=some e:=fun i e I dW H=>by unfold lO;grind
 have ax:uB h.length ok aA V (lO ok aA g V):=⟨fun i e Q I H _=>HE i e Q I H,fun a j e ha H=>akZ a j e ha H⟩;have MJ:∀u,X u->AA ok X g u:=fun u hx=>⟨.inl hx,fun I=>O.cU u hx (D3 I)⟩;have MK:∀(i:Nat)(e:ba)(u:Nat),ok i=false->g[i]?=some e->e.owns u->AA ok X g u:=fun i e u I H U=>by refine⟨.inr ⟨i,e,H,U⟩,fun⟨j,e',aK,bP⟩=>?_⟩;rcases Az aK with⟨bf,h'⟩|⟨_,rfl⟩;have:=O.inj i j e e' u H h' U bP;grind;simp[ba.owns]at bP
 have hE:∀u,Ex X (lO ok aA g V) u->Ex (AA ok X g) V u:=by rintro u (hx|⟨i,e,H,U⟩);exact .inl (MJ u hx);rcases bc i e H with⟨_,E⟩|⟨_,a,_,E⟩|⟨I,_,E⟩;exact .inr ⟨i,e,E,U⟩;exact .inr ⟨a,e,E,U⟩;exact .inl (MK i e u I E U)
 have ca:Step g.length w g w' (lO ok aA g V):=by refine⟨hS.os,hS.tape,hS.output,hS.size,fun u U I=>hS.frame u U fun h=>I (D3 h),fun u⟨i,e,H,U⟩ai=>?_,fun i e Q H hf=>?_⟩;rcases bc i e H with⟨_,E⟩|⟨_,a,_,E⟩|⟨_,_,E⟩;exact D3 (hS.gG u ⟨i,e,E,U⟩ ai);exact D3 (hS.gG u ⟨a,e,E,U⟩ ai);exact⟨i,e,E,U⟩;have cj:i<h.length:=G;cases I:ok i with|true=>have:=Yl (ok:=ok) H;rw[au I]at this;exact(hS.g_ i e cj this hf).imp (HE i e cj I) (HE i .dead cj I)|false=>by_cases ha:∃a,(a,i)∈aA;obtain⟨a,ha⟩:=ha;have:=akm _ ha;simp only at this;rw[H]at this;simp at this;exact absurd (by rw[this];trivial) hf;grind
 refine⟨lO ok aA g V,qi w' _ _ V _ v ax hE bb,⟨by rw[Ge,pB,O.len],fun i b e M H=>?_,fun i e u H U=>?_,fun i j e e' u H aK U bP=>?_,fun u hx⟨i,e,H,U⟩=>?_,fun u hx=>fj (O.df u hx) hS.size⟩,ca,Ge⟩;have cj:i<h.length:=by have:=(ao.1 M).1;rw[pB]at this;omega
 rcases bc i e H with⟨I,E⟩|⟨I,a,ha,E⟩|⟨I,dW,E⟩;by_cases hw:i∈wr;obtain⟨p,hp,Du,NK⟩:=abI (w1++w2) (h:=F) (i:=i) (by obtain⟨p,hp,e⟩:=alE i hw;grind) G;rw[NK]at M;simp at M;subst M;rcases eJ.1 hp with hp|hp;obtain⟨_,_,⟨fb,dn,DA⟩,_⟩:=N6 p hp;rw[Du]at dn;exact DA w' _ _ V _ e ax hE (aE.ok i fb e dn E);grind;have d1:F[i]?=some b:=by exact adi
 have Hg:h'[i]?=some b:=by rw[gz i cj hw,l6 i cj,au I,<-dz i (List.mem_append_right _ (z7 i cj I))];exact d1
 obtain⟨fb,dn,DA⟩:=tf i (z7 i cj I) hw;rw[Hg]at dn;simp at dn;subst dn;have alz:uB h.length ok [] V (lO ok aA g V):=⟨ax.old,sM⟩;exact DA w' _ _ V _ e alz hE (aE.ok i b e Hg E);obtain⟨p,hp,Du,NK⟩:=abI (w1++w2) (h:=F) (i:=i) (by obtain⟨p,hp,e⟩:=(W2 _ ha).1;grind) G;rw[NK]at M;simp at M;subst M;rcases eJ.1 hp with hp|hp;grind;obtain⟨a',g6,fb,dn,DA⟩:=xX p hp;rw[Du]at g6;have:=cX a a' i ha g6;subst this;exact DA w' _ _ V _ e ax hE (aE.ok a fb e dn E);have d1:F[i]?=some b:=by exact adi
 refine(O.ok i b e d1 E).step ca (aC _) fun u U=>hS.frame u (O.lt i e u E U) (MK i e u I E U).2;rcases bc i e H with⟨_,E⟩|⟨_,a,_,E⟩|⟨_,_,E⟩;exact aE.lt i e u E U;exact aE.lt a e u E U;exact fj (O.lt i e u E U) hS.size;have mix:∀(a i:Nat)(e e':ba),V[a]?=some e->e.owns u->ok i=false->g[i]?=some e'->e'.owns u->False:=fun a i e e' E F I h3 h4=>
  aE.cU u (MK i e' u I h3 h4) ⟨a,e,E,F⟩
 have hle:∀p∈aA,h.length<=p.1:=fun p hp=>by obtain⟨k,o⟩:=fx.1 hp;exact(d6 k p o).1
 rcases bc i e H with⟨o1,E⟩|⟨o1,a,ha,E⟩|⟨o1,n1,E⟩<;>rcases bc j e' aK with⟨o2,F⟩|⟨o2,a',g6,F⟩|⟨o2,tB,F⟩;exact aE.inj i j e e' u E F U bP;have:=aE.inj i a' e e' u E F U bP;have b1:=hle _ g6;have c0:=(ao.1 H).1;rw[Ge]at c0;omega;grind;have:=aE.inj a j e e' u E F U bP;have b1:=hle _ ha;have c0:=(ao.1 aK).1;rw[Ge]at c0;omega;have:=aE.inj a a' e e' u E F U bP;obtain⟨k1,e1⟩:=fx.1 ha;obtain⟨k2,e2⟩:=fx.1 g6;grind;grind;grind;grind;exact O.inj i j e e' u E F U bP;rcases bc i e H with⟨_,E⟩|⟨_,a,_,E⟩|⟨_,_,E⟩;exact aE.cU u (MJ u hx) ⟨i,e,E,U⟩;exact aE.cU u (MJ u hx) ⟨a,e,E,U⟩;exact O.cU u hx ⟨i,e,E,U⟩
def LB(hV:ka P aH){rec}(fE:sH P rec){f}{l}{ad}{ae}{K}(o:B_ P aH rec f l ad ae K):∃s ws aJ,K s ws aJ/\(∀p∈ws,p.1∈aJ)/\∀w X g F vs,Inv w X g F->F.length=ad.view.length->b5 w (Ex X g) g l vs->(∀i∈aJ,F[i]?=ad.view[i]?)->ea P (callFunc f vs.toArray) w X g F s ws:=by
 unfold B_ at o;cases hp:nJ f aH.ps with
 |some sp=>rw[hp]at o;obtain⟨s,o,hs⟩:=hV.ps f sp hp l _ o;have sY:oF P f l ad.view ae K:=hs.cA o;obtain⟨s,ws,aJ,o,hc⟩:=sY.ok;exact⟨s,ws,aJ,o,hc.sub,fun w X g F vs O _ D dz=>hc.ok w X g F vs O D dz⟩
 |none=>
 rw[hp]at o;cases hh:nJ f aH.hs with
 |some sp=>
  rw[hh]at o;have o:=o;rw[mV]at o;obtain⟨aJ,mk,o,MM,alm⟩:=Iy 4096 o Gh sM;generalize aw:mG mk=ok at o;have dd:∀i,ok i=true↔i∈aJ:=fun i=>by rw[<-aw];exact MM i
  obtain⟨bY,o,o5,l6⟩:=Ym o;have z7:∀j,j<ad.view.length->ok j=true->j∈aJ:=fun j _ h=>(dd j).1 h;replace l6:∀j,j<ad.view.length->bY.view[j]?=if ok j=true then ad.view[j]? else some .dead:=fun j hj=>by simp_all
  have o:=Is (k:=fun m=>sp l bY fun s H' wr=>tailD m ae ad ok aJ K s H' wr) o;obtain⟨s,H',wr,o,sZ,hle,hcg⟩:=(hV.hs f sp hh l bY _ o).ok;unfold tailD at o;simp only[mV]at o;refine abt dd o5 l6 z7 (by rw[<-o5];exact hle) (fun i Q hw=>sZ i (by rw[o5];exact Q) hw) (fun w X g vs O D=>?_) o;have hl:g.length=ad.view.length:=by rw[O.len,o5]
  rw[<-hl];exact(hcg.ok w X g vs O D).mono fun v w'⟨s1,E,V,⟨e1,e2⟩,a,b,c⟩=>⟨V,by rw[<-e1];exact a,by rw[<-e2];exact b,c⟩
 |none=>
 rw[hh]at o;have o:vl (eZ ad) 0 4096 (sc (qC 3) l []) 0 [] fun acc mk=>
  Iz ad acc fun bY=>CJ aH.FT f fun fn=>Gk fn.body fun cd=>JK l fn.ntmps fun J=>As ad fun m=>
   rec false m fn.ntmps cd J bY [] (Qt aH.T fn m ae ad (mG mk) acc K):=o
 rw[mV]at o;obtain⟨aJ,mk,o,MM,alm⟩:=Iy 4096 o Gh sM;generalize aw:mG mk=ok at o;have dd:∀i,ok i=true↔i∈aJ:=fun i=>by rw[<-aw];exact MM i
 obtain⟨bY,o,o5,l6⟩:=Ym o;have z7:∀j,j<ad.view.length->ok j=true->j∈aJ:=fun j _ h=>(dd j).1 h;replace l6:∀j,j<ad.view.length->bY.view[j]?=if ok j=true then ad.view[j]? else some .dead:=fun j hj=>by simp_all
 obtain⟨fn,hf,hn,o⟩:=U4 hV o;obtain⟨c,M,o⟩:=TL o;obtain⟨J,o,hs⟩:=abh o;have o:=Is (k:=fun m=>rec false m fn.ntmps c J bY [] (Qt aH.T fn m ae ad ok aJ K)) o;obtain⟨x,F',H',wr,o,hc,hM⟩:=fE false ad.view.length fn.ntmps c J bY [] _ G o;have hc:=hc
 have key:(∀i,x≠ .exit i)/\(vI H' fn.ntmps F' aH.T fn.results.toList fun rl=>sn rl fun s=>
  tailD ad.view.length ae ad ok aJ K s H' wr):=by
  cases x with
  |normal=>exact⟨sM,o⟩
  |ret=>exact⟨sM,o⟩
  |exit i=>cases o
 obtain⟨hx,o⟩:=key;rw[aaA]at o;obtain⟨ss,o,gK⟩:=Qr hV.tab _ o;obtain⟨s,o,bQ⟩:=Q2 o;unfold tailD at o;simp only[mV]at o;exact abt dd o5 l6 z7 (by have:=hM.le;omega) hM.same (fun w X g vs O D=>Uq hf hn M hs hc hx gK bQ O D) o
end
section
variable{P:Program} {aH:Env}
def ap3(n):∀{ad k},EB n ad k->∃H',k H'/\ad.view.length<=H'.view.length/\(∀i,i<ad.view.length->H'.view[i]?=ad.view[i]?)/\∀w X g,Inv w X g ad.view->∃V,Inv w X V H'.view/\Step g.length w g w V:=by induction n with|zero=>intro ad k o;exact⟨ad,o,aC _,fun _ _=>rfl,fun w X g O=>⟨g,O,.refl _ _ _⟩⟩|succ n ih=>intro ad k o;have⟨H1,o,hv⟩:=vC (show mn ad .fresh (fun _ H'=>EB n H' k)from o);have⟨H',o,hle,gz,hs⟩:=ih o;rw[hv]at hle gz hs;refine⟨H',o,by grind,fun i Q=>by grind,fun w X g O=>?_⟩;exact ab6
def arJ{T}(l):∀{ad k},EI T l ad k->∃ns H',k ns H'/\ad.view.length<=H'.view.length/\(∀i,i<ad.view.length->H'.view[i]?=ad.view[i]?)/\∀w X g,Inv w X g ad.view->∃V,Inv w X V H'.view/\Step g.length w g w V:=by
 induction l with
 |nil=>intro ad k o;exact⟨[],ad,o,aC _,fun _ _=>rfl,fun w X g O=>⟨g,O,.refl _ _ _⟩⟩
 |cons aa l ih=>
  intro ad k o;have six:(mn ad .fresh fun n H'=>EB 15 H' fun H'=>EI T l H' fun ns fz=>k (n::ns) fz)->∃ns H',k ns H'/\ad.view.length<=H'.view.length/\(∀i,i<ad.view.length->H'.view[i]?=ad.view[i]?)/\
   ∀w X g,Inv w X g ad.view->∃V,Inv w X V H'.view/\Step g.length w g w V:=fun o=>by
   have⟨H1,o,hv⟩:=vC o
   have⟨KP,o,akI,alu,jT⟩:=ap3 15 o
   have⟨ns,H',o,hle,gz,hs⟩:=ih o
   rw[hv]at akI alu jT
   refine⟨_,H',o,by grind,fun i Q=>by grind,fun w X g O=>?_⟩
   have⟨ct,i8⟩:=O.fresh
   have⟨c8,be,b_⟩:=jT w X _ ct
   have⟨V,aE,ca⟩:=hs w X _ be
   exact⟨V,aE,(i8.trans (b_.le sM)).trans ca.any⟩
  have other:(Bool.rec (EI T l ad fun ns fz=>k (0::ns) fz) (mn ad .fresh fun n H'=>EI T l H' fun ns fz=>k (n::ns) fz) (jX T aa.op))->∃ns H',k ns H'/\ad.view.length<=H'.view.length/\(∀i,i<ad.view.length->H'.view[i]?=ad.view[i]?)/\
   ∀w X g,Inv w X g ad.view->∃V,Inv w X V H'.view/\Step g.length w g w V:=fun o=>by
   cases hn:jX T aa.op with
   |true=>
    rw[hn]at o
    have⟨H1,o,hv⟩:=vC o
    have⟨ns,H',o,hle,gz,hs⟩:=ih o
    rw[hv]at hle gz hs
    refine⟨_,H',o,by grind,fun i Q=>by grind,fun w X g O=>?_⟩
    exact ab6
   |false=>
    rw[hn]at o
    grind
  have⟨d,op,ty,pos,after,guard⟩:=aa;cases op with
  |call c=>have⟨callee,xs,kB⟩:=c;cases callee with|value x=>exact six o|invoke r n=>exact six o|builtin b=>exact other o
  |_=>exact other o
def ai3(hV:ka P aH){rec}(fE:sH P rec){ops}{n}{F0}{ad}{ae}{aa}{K}{J}{h}(us:eT n F0=J)(lQ:ad.view=h)(o:Mb P aH rec n F0 ad ae aa.op K):∃s ws aJ,K s ws aJ/\(∀p∈ws,p.1∈aJ)/\∀(w:World)(X:Nat->Prop)(g:Sg)(F:Hp)(a:Act),Inv w X g F->F.length=h.length->(∀t∈aa.looksAt ops,∀s,J[t]?=some s->∃v,a.tmps[t]?=some v/\af w (Ex X g) g s v)->(∀i∈aJ,F[i]?=h[i]?)->ea P (execOp a.eval aa) w X g F s ws:=by
 obtain⟨d,op,ty,pos,after,guard⟩:=aa;have plain:(Bool.rec (vu aH.T aH.c (ia n F0) (eZ ad) 0 op K) (eZ ad ae fun b=>match b with|.fresh=>vu aH.T aH.c (ia n F0) (eZ ad) ae op K|_=>False) (jX aH.T op))->∃s ws aJ,K s ws aJ/\(∀p∈ws,p.1∈aJ)/\
  ∀(w:World)(X:Nat->Prop)(g:Sg)(F:Hp)(a:Act),Inv w X g F->F.length=h.length->(∀t∈(Oper.mk d op ty pos after guard).looksAt ops,∀s,J[t]?=some s->∃v,a.tmps[t]?=some v/\af w (Ex X g) g s v)->
  (∀i∈aJ,F[i]?=h[i]?)->ea P (execOp a.eval ⟨d,op,ty,pos,after,guard⟩) w X g F s ws:=by
  intro o
  subst us;subst lQ
  have U:aN P (eT n F0) ad.view op K:=by
   cases hn:jX aH.T op with
   |true=>
    rw[hn]at o
    rw[mV,GN]at o
    have⟨b,M,o⟩:=bg o
    cases b with
    |fresh=>exact yk hV.tab (fun _=>M) o
    |_=>cases o
   |false=>
    rw[hn]at o
    exact yk hV.tab (fun h=>by simp_all) (PN o)
  have⟨s,ws,aJ,o,aw,e4⟩:=U
  exact⟨s,ws,aJ,o,e4,fun w X g F a O _ hl D=>aw w X g F a.eval d ty pos after guard O (fun x hx=>vw hl x hx) D⟩
 cases op with
 |call c=>
  have⟨callee,xs,kB⟩:=c;cases callee with
  |value x=>
   have⟨sx,o,hx⟩:=zE o;rw[us]at hx;cases sx with
   |fn f cs=>have⟨l,o,hl⟩:=zG o;rw[us]at hl;have o:=iL o;have⟨s,ws,aJ,o,e4,aw⟩:=LB hV fE o;rw[lQ]at aw;refine⟨s,ws,aJ,o,e4,fun w X g F a O hlen l4 ap=>?_⟩;have kT:=vw l4;have D:=hx w _ g a.eval (kT x (by simp[Op.operands,Call.operands]));have fP:=hl w _ g a.eval fun y hy=>kT y (by simp[Op.operands,Call.operands];grind);generalize aF:a.eval x=vx at D;cases D with| @fn _ _ _ vs Hz co=>rw[Gr aF];refine aw w X g F _ O hlen ⟨by rw[c_,c_,fP.1,Hz];simp,fun i s v hs hv=>?_⟩ ap;exact acL
   |eh f cs=>have⟨l,o,hl⟩:=zG o;rw[us]at hl;have o:=iL o;have⟨s,ws,aJ,o,e4,aw⟩:=LB hV fE o;rw[lQ]at aw;refine⟨s,ws,aJ,o,e4,fun w X g F a O hlen l4 ap=>?_⟩;have kT:=vw l4;have D:=hx w _ g a.eval (kT x (by simp[Op.operands,Call.operands]));have fP:=hl w _ g a.eval fun y hy=>kT y (by simp[Op.operands,Call.operands];grind);generalize aF:a.eval x=vx at D;cases D with| @eh _ _ _ vs Hz co=>rw[Gp aF];refine aw w X g F _ O hlen ⟨by rw[c_,c_,fP.1,Hz];simp,fun i s v hs hv=>?_⟩ ap;rw[gr]at hs hv;rw[show vs.toList.length=cs.length by simp[Hz]]at hv;split at hs;grind;rename_i ai;rw[ay ai]at hv;exact fP.2 _ s v hs hv
   |_=>cases o
  |invoke r name=>
   have⟨sx,o,hx⟩:=zE o;rw[us]at hx;cases sx with
   |ifc t s0=>have⟨f,xI,o⟩:=YA o;have⟨l,o,hl⟩:=zG o;rw[us]at hl;have⟨s,ws,aJ,o,e4,aw⟩:=LB hV fE o;rw[lQ]at aw;refine⟨s,ws,aJ,o,e4,fun w X g F a O hlen l4 ap=>?_⟩;have kT:=vw l4;have D:=hx w _ g a.eval (kT r (by simp[Op.operands,Call.operands]));have fP:=hl w _ g a.eval fun y hy=>kT y (by simp[Op.operands,Call.operands];grind);generalize aF:a.eval r=vx at D;cases D with| @ifc _ _ _ v jS=>refine bO.congr ?_ (Xo hV xI aF w);refine aw w X g F _ O hlen ⟨by simp[fP.1],fun i s v' hs hv=>?_⟩ ap;cases i with|zero=>grind|succ i=>exact fP.2 i s v' (by simpa using hs) (by simpa using hv)
   |_=>cases o
  |builtin b=>exact plain o
 |_=>exact plain o
def ah4(hV:ka P aH){rec}(fE:sH P rec){ops}{n}(l):∀{ids J ad K},GD P aH rec n ops.toList l ids J ad K->∃rs F' H',K rs F' H'/\iJ P ops (eT n J) ad.view l rs (eT n F') H'.view:=by
 induction l with
 |nil=>intro ids J ad K o;exact⟨[],J,ad,o,.nil⟩
 |cons aa l ih=>
  intro ids J ad K o;cases ids with
  |nil=>exact o.elim
  |cons ae ids=>
   have cF:Bm ops.toList n J aa.guard (Mb P aH rec n J ad ae aa.op fun s ws aJ=>tL n J aa.dst s fun F'=>Bj ws ad fun H'=>
    GD P aH rec n ops.toList l ids F' H' fun rs=>K (⟨s,ws,aJ⟩::rs))
    (tL n J aa.dst .undef fun F'=>GD P aH rec n ops.toList l ids F' ad fun rs=>K (⟨.undef,[],[]⟩::rs)):=o
   rw[abO]at cF;have⟨b,o,hw⟩:=Ri cF;cases b with|true=>have⟨s,ws,aJ,o,e4,aw⟩:=ai3 hV fE (ops:=ops) (aa:=aa) rfl rfl o;have⟨F1,o,hp⟩:=I8 o;have⟨H1,o,hv⟩:=Re o;have⟨rs,F',H',o,D⟩:=ih o;rw[hp,hv]at D;exact⟨_,F',H',o,.cons ⟨fun w X g F a O hlen hl ap=>.inl ⟨hw w _ g a hl,aw w X g F a O hlen hl ap⟩,e4⟩ D⟩|false=>simp only[dI,ek]at o;have⟨F1,o,hp⟩:=I8 o;have⟨rs,F',H',o,D⟩:=ih o;rw[hp]at D;exact⟨_,F',H',o,.cons ⟨fun w X g F a O _ hl ap=>.inr ⟨hw w _ g a hl,rfl,rfl⟩,sM⟩ D⟩
def iJ.same{ops}{J F'}{h h'}{l}{rs}(D:iJ P ops J h l rs F' h'):h'.length=h.length/\∀i,(∀r∈rs,∀p∈r.ws,p.1≠i)->h'[i]?=h[i]?:=by induction D with|nil=>simp_all|cons U D ih=>refine⟨by rw[ih.1,pB],fun i Q=>?_⟩;rw[ih.2 i fun r ds=>Q r (KL _ ds)];exact oB _ (Q _ (List.mem_cons_self ..))
def am6{m}(rs):∀{wr k},X3 m rs wr k->∃bt,k bt/\(∀i,i∈wr->i∈bt)/\∀r∈rs,∀p∈r.ws,p.1<m->p.1∈bt:=by induction rs with|nil=>intro wr k h;exact⟨wr,h,fun _ h=>h,sM⟩|cons r rs ih=>intro wr k h;have⟨m6,h,E,F⟩:=OQ r.ws h;have⟨bt,o,h3,h4⟩:=ih h;grind
def iJ.apt{ops}{F0 Ff}{h0 hf}{recs}(D:iJ P ops F0 h0 ops.toList recs Ff hf) (Q:∀i aa r,ops[i]?=some aa->recs[i]?=some r->BT ops (ops.toList.zip (recs.map ik)) i (aa,ik r)):KZ P ops recs F0 h0/\Ff=FL ops.toList recs F0 (fun _=>true) ops.size/\hf=HL recs h0 (fun _=>true) ops.size:=by
 have hW:=D;obtain⟨a1,a2,a3,a4⟩:=hW.at (ops:=ops) (recs:=recs) ops.toList (fun i=>by rw[jE]) (fun i=>by rw[jE]);have hlen:recs.length=ops.size:=by rw[a1];simp
 exact⟨⟨⟨hlen,fun i aa r I qe=>(a2 i aa r (by simp_all) qe).sub,Q⟩,fun i aa r I qe=>by simp_all⟩,by rw[a3];simp,by rw[a4];simp⟩
def apa{ops}{cs}{rs}(hg:I3 ops=some cs)(hlen:rs.length=ops.size) (ht:∀a j r rj c,rs[a]?=some r->cs[a]?=some c->j<0+a->([]++rs)[j]?=some rj->c.testBit j=true\/((∀b∈rj.ws.map (·.1),b∉r.aJ)/\∀b∈r.ws.map (·.1),b∉rj.aJ))(i)(aa)(r)(I:ops[i]?=some aa)(D:rs[i]?=some r):BT ops (ops.toList.zip (rs.map ik)) i (aa,ik r):=by
 have⟨hl,hp⟩:=apr (ops:=ops) ops.toList (pre:=[]) (done:=[]) (cl:=[]) rfl rfl rfl sM hg;have Q:i<cs.length:=by rw[hl];simpa using(iF.1 I).1
 have hc:=aD Q;have⟨E,F,h3⟩:=hp i _ hc aa (by grind);have l5:(ops.toList.zip (rs.map ik)).map (·.1)=ops.toList:=by rw[BN];simp[hlen]
 refine⟨E,cs[i],by grind,fun j y hj hy=>?_⟩;rw[ug]at hy;have⟨lw,HU⟩:=hy;rw[bz]at HU;cases Dz:rs[j]? with|none=>grind|some rj=>rw[Dz]at HU;simp only[nC,BH]at HU;rcases h3 j y.1 hj lw with h|h;exact .inl h;rcases ht i j r rj _ D hc G (by grind)with h'|⟨h4,h5⟩;exact .inl h';refine .inr ?_;unfold wJ;rw[h,<-HU];simp only[KJ,bR,c5];constructor;simp only[AB,yN,BM,ik];omega;simp only[AB,yN,BM,ik];omega
def aps{ops}{k}(h:PZ ops k):∃cs,I3 ops=some cs/\k cs:=by unfold PZ at h;cases hp:I3 ops<;>simp_all
def eb.draw(hm:P.follows .mixedOrders=true){m}{id}{ops}{J F'}{h h' bx}{rs} (qf:∀w X g,Inv w X g h->∃V,Inv w X V h'/\Step g.length w g w V)(a7:iJ P ops J h' ops.toList rs F' bx)(xz:∀i aa r,ops[i]?=some aa->rs[i]?=some r->BT ops (ops.toList.zip (rs.map ik)) i (aa,ik r)):eb P m (.region id ops true) J h (wq .normal F' bx):=by
 intro w X g tmps O hF;refine wp_region_any hm ?_;have⟨hp,e1,e2⟩:=a7.apt xz;have⟨c7,ct,i8⟩:=qf w X g O;have CP:=hF.step i8 (aC _);have b_:Step c7.length w c7 {w with drawn:=w.drawn+1} c7:=⟨rfl,rfl,rfl,aC _,fun _ _ _=>rfl,fun _ h _=>h,fun _ _ _ h _=>.inl h⟩;have lW:=CP.step b_ (aC _);have be:Inv {w with drawn:=w.drawn+1} X c7 h':=ct.heap rfl;have MA:∀k,FL ops.toList rs J (cO (Array.replicate ops.size false)) k=J:=by exact adq
 have My:∀k,HL rs h' (cO (Array.replicate ops.size false)) k=h':=by exact adr
 have Hh:∀i,cO (Array.replicate ops.size false) i=false:=fun i=>by exact adC
 have o:(fun F1 E=>F1=F'/\E=bx) (FL ops.toList rs J (fun _=>true) ops.size) (HL rs h' (fun _=>true) ops.size):=⟨e1.symm,e2.symm⟩;refine Uu hp (K:=fun F1 E=>F1=F'/\E=bx) o ops.size _ (List.range ops.size) ⟨tmps,[]⟩ _ c7 sM (fun i aa _ Q=>by rw[Hh]at Q;simp at Q) sM (fun i Q _=>pG.2 Q) rfl ?_ ?_ (i8.any.trans b_.any)<;>grind
def ah6(hV:ka P aH){rec}(fE:sH P rec){m n}{id}{ops}{J}{ad}{wr}{K}(hm:m<=ad.view.length)(o:Us P aH rec m n ops J ad wr K):∃F' H' bt,K F' H' bt/\eb P m (.region id ops true) (eT n J) ad.view (wq .normal (eT n F') H'.view)/\oI m ad.view wr H'.view bt:=by
 have⟨cs,hg,o⟩:=aps o;have⟨ids,H1,o,hle,gz,qf⟩:=arJ ops.toList o;have⟨rs,F',H',o,a7⟩:=ah4 hV fE ops.toList o;have⟨o,_,ht⟩:=auh rs [] rfl sM o;have⟨bt,o,E,F⟩:=am6 rs o;have⟨hl,hs⟩:=a7.same;have hlen:rs.length=ops.size:=by rw[a7.len];simp
 exact⟨F',H',bt,o,.draw hV.mixed qf a7 (apa hg hlen ht),E,fun i Q hn=>by grind,G⟩
def eb.amt{m}{a b}{J F1}{h E}{K}(ha:eb P m a J h (wq .normal F1 E))(M:eb P m b F1 E K):eb P m (.seq a b) J h K:=
 eb.seq (ha.mono fun x J h⟨e1,e2,e3⟩=>by simp_all)
def ag8(hV:ka P aH){rec}(fE:sH P rec){m n}(c):∀{J ad wr K},m<=ad.view.length->Uc P aH rec m n c J ad wr K->∃x F' H' bt,K x F' H' bt/\eb P m c (eT n J) ad.view (wq x (eT n F') H'.view)/\oI m ad.view wr H'.view bt:=by
 induction c with
 |skip=>intro J ad wr K _ o;exact⟨_,_,_,_,o,fun w X g tmps O hF=>wp_skip ⟨rfl,.normal,_,_,g,rfl,⟨rfl,rfl,rfl⟩,O,hF,.refl _ _ _⟩,.refl⟩
 |region id ops draw=>intro J ad wr K hm o;cases draw with|false=>obtain⟨F',h',bt,o,hM,hw⟩:=aoN hV fE ops.toList hm o;exact⟨_,_,_,_,o,fun w X g tmps O hF=>wp_region_list (hw w X g tmps O hF),hM⟩|true=>obtain⟨F',h',bt,o,hs,hM⟩:=ah6 hV fE (id:=id) hm o;grind
 |seq a b jV jW=>intro J ad wr K hm o;obtain⟨x,F1,E,m6,o,hs,hM⟩:=jV hm o;cases x with|normal=>obtain⟨x,F2,F,Rn,o,jT,MC⟩:=jW (dF hm hM.le) o;exact⟨x,F2,F,Rn,o,.amt hs jT,hM.trans MC⟩|exit i=>exact⟨_,_,_,_,o,eb.seq (hs.mono fun x J h⟨e1,e2,e3⟩=>by simp_all),hM⟩|ret=>exact⟨_,_,_,_,o,eb.seq (hs.mono fun x J h⟨e1,e2,e3⟩=>by simp_all),hM⟩
 |cond c a b jV jW=>intro J ad wr K hm o;obtain⟨s,o,hs⟩:=zE o;cases s with|tt=>obtain⟨x,F1,E,m6,o,hc,hM⟩:=jV hm o;refine⟨x,F1,E,m6,o,fun w X g tmps O hF=>?_,hM⟩;have D:=hs w (Ex X g) g (Act.eval ⟨tmps,[]⟩) (cC.iA (a:=⟨tmps,[]⟩) hF c);generalize hv:Act.eval ⟨tmps,[]⟩ c=v at D;cases D;exact wi (t:=true) hv (hc w X g tmps O hF)|ff=>obtain⟨x,F1,E,m6,o,hc,hM⟩:=jW hm o;refine⟨x,F1,E,m6,o,fun w X g tmps O hF=>?_,hM⟩;have D:=hs w (Ex X g) g (Act.eval ⟨tmps,[]⟩) (cC.iA (a:=⟨tmps,[]⟩) hF c);generalize hv:Act.eval ⟨tmps,[]⟩ c=v at D;cases D;exact wi (t:=false) hv (hc w X g tmps O hF)|_=>cases o
 |block id c ih=>intro J ad wr K hm o;obtain⟨x,F1,E,m6,o,hc,hM⟩:=ih hm o;cases x with|normal=>exact⟨_,_,_,_,o,eb.block (hc.mono fun x J h⟨e1,e2,e3⟩=>by simp_all),hM⟩|ret=>exact⟨_,_,_,_,o,eb.block (hc.mono fun x J h⟨e1,e2,e3⟩=>by simp_all),hM⟩|exit i=>cases M:Nat.beq i id with|true=>simp only[M]at o;exact⟨_,_,_,_,o,eb.block (hc.mono fun x J h⟨e1,e2,e3⟩=>by subst e1;subst e2;subst e3;simp only[M];exact⟨rfl,rfl,rfl⟩),hM⟩|false=>simp only[M]at o;exact⟨_,_,_,_,o,eb.block (hc.mono fun x J h⟨e1,e2,e3⟩=>by simp_all),hM⟩
 |loop c _=>intro J ad wr K hm o;have⟨x,F',h',bt,o,⟨n,hc⟩,hM⟩:=fE true m n c J ad wr K hm o;exact⟨x,F',h',bt,o,fun w X g tmps O hF=>wp_loop_rounds n (hc w X g tmps O hF),hM⟩
 |rangeFunc f ps a b _ _=>intro J ad wr K _ o;cases o
 |exit id=>intro J ad wr K _ o;exact⟨_,_,_,_,o,fun w X g tmps O hF=>wp_exit ⟨rfl,.exit id,_,_,g,rfl,⟨rfl,rfl,rfl⟩,O,hF,.refl _ _ _⟩,.refl⟩
 |scope c ih=>intro J ad wr K hm o;have⟨x,F1,E,m6,o,hc,hM⟩:=ih hm o;refine⟨x,F1,E,m6,o,fun w X g tmps O hF=>wp_scope_straight (j8 (hc w X g tmps O hF) fun e a w' hq=>?_),hM⟩;cases e with|goto l=>obtain⟨_,x,_,_,_,hx,_⟩:=hq;cases hx|_=>exact hq
 |label l=>intro J ad wr K _ o;exact⟨_,_,_,_,o,fun w X g tmps O hF=>wp_label ⟨rfl,.normal,_,_,g,rfl,⟨rfl,rfl,rfl⟩,O,hF,.refl _ _ _⟩,.refl⟩
 |goto l=>intro J ad wr K _ o;cases o
 |ret=>intro J ad wr K _ o;exact⟨_,_,_,_,o,fun w X g tmps O hF=>wp_ret ⟨rfl,.ret,_,_,g,rfl,⟨rfl,rfl,rfl⟩,O,hF,.refl _ _ _⟩,.refl⟩
 |refuse bZ=>intro J ad wr K _ o;cases o
def asa{c}{aV Q'}(hq:∀e a w,aV e a w->Q' e a w):∀{n a w},Code.rounds P c aV n a w->Code.rounds P c Q' n a w:=by intro n;induction n with|zero=>intro a w h;cases h|succ n ih=>intro a w h;rw[KC]at h⊢;refine j8 h fun e a' w' z6=>?_;cases e<;>first|exact ih z6|exact hq _ _ _ z6
def Km{ab:Prop}(k:ab:=by rw[KC];refine j8 (hc w X g tmps O hF) fun e a' w' hq=>?_;have⟨hd,x1,F',h',V,d7,⟨e1,e2,e3⟩,aE,cB,hS⟩:=hq;subst e1;subst e2;subst e3;cases e<;>cases d7;exact⟨hd,_,_,_,V,rfl,⟨rfl,rfl,rfl⟩,aE,cB,hS⟩):ab:=k
def ast(hV:ka P aH):∀fuel,sH P (EL P aH fuel):=by intro fuel;induction fuel with|zero=>intro b m n c J ad wr K _ o;exact o.elim|succ fuel ih=>intro b m n c J ad wr K hm o;have o:=o;have⟨x,F1,E,m6,o,hc,hM⟩:=ag8 hV ih c hm o;cases b with|false=>exact⟨x,F1,E,m6,o,hc,hM⟩|true=>have o:=o;cases x with|normal=>have⟨y,F2,F,Rn,o,⟨k,D⟩,MC⟩:=ih true m n c F1 E m6 K (dF hm hM.le) o;refine⟨y,F2,F,Rn,o,⟨k+1,fun w X g tmps O hF=>?_⟩,hM.trans MC⟩;rw[KC];refine j8 (hc w X g tmps O hF) fun e a' w' hq=>?_;have⟨hd,x1,F',h',V,d7,⟨e1,e2,e3⟩,aE,cB,hS⟩:=hq;subst e1;subst e2;subst e3;have⟨t2,zA⟩:=a';have hd:=hd;subst hd;cases e<;>cases d7;exact(asa fun e a w h=>jm.from hS h) (D w' X V t2 aE cB)|exit i=>refine⟨.exit i,F1,E,m6,o,⟨1,fun w X g tmps O hF=>?_⟩,hM⟩;exact Km|ret=>refine⟨.ret,F1,E,m6,o,⟨1,fun w X g tmps O hF=>?_⟩,hM⟩;exact Km
def TU(hV:ka P aH)(fuel){f}{l}{ad}{K}(o:oP P aH (EL P aH fuel) f l ad K):∃s H' wc,K s H' wc/\oH ad.view H'.view wc/\ad.view.length<=H'.view.length/\oG P f l ad.view s H'.view:=
 Gq hV (ast hV fuel) o
end
def k0{p:Option Func}{a:Func}{b:String->Func}(h:p=some a)(k:a=b a.name:=by kernel_rfl)(q:(a.name== "runtime.NumGoroutine")=false:=by decide):∃n,(n== "runtime.NumGoroutine")=false/\p=some (b n):=⟨_,q,tK h k⟩
end Go.Sx
namespace Go.Proofs.YtfkepgkmobgleaaGreatDoor
open Go.Sx Tryz
abbrev z0:SV:=.int .i64 0
noncomputable def abX:List SV:=Nat.rec [] (fun _ l=>z0::z0::z0::z0::z0::z0::.nils::l) 32
noncomputable def q0:TE:=⟨.other,1,8,[.any],false,false⟩
noncomputable def q1:TE:=⟨.other,1,0,[.bot],false,false⟩
noncomputable def q2:TE:=⟨.none,0,0,[.bot],false,false⟩
noncomputable def q3:TE:=⟨.struct [(0,(2,1)),(1,(2,1))],2,16,[z0,z0],true,true⟩
noncomputable def q4:TE:=⟨.iface,1,16,[.nili],false,false⟩
noncomputable def q5:TE:=⟨.struct [(0,(3,1)),(1,(3,1)),(2,(3,1))],3,24,[z0,z0,z0],true,true⟩
noncomputable def q6:TE:=⟨.int .i64,1,8,[z0],false,false⟩
noncomputable def Je:TE:=⟨.int .u8,1,1,[.int .u8 0],false,false⟩
noncomputable def Jf:TE:=⟨.int .u64,1,8,[.int .u64 0],false,false⟩
noncomputable def Jg:TE:=⟨.struct [(0,(3,1)),(1,(3,1)),(2,(2,1))],3,24,[z0,z0,z0],true,true⟩
noncomputable def Jc:TE:=⟨.struct [(0,(9,1)),(1,(3,1)),(2,(3,1)),(3,(3,1)),(4,(3,1))],5,48,[.str [],z0,z0,z0,z0],true,true⟩
noncomputable def Jd:TE:=⟨.struct [(0,(3,1)),(1,(2,1))],2,16,[z0,z0],true,true⟩
noncomputable def P9:TE:=⟨.str,1,16,[.str []],false,false⟩
noncomputable def P_:TE:=⟨.int .i32,1,4,[.int .i32 0],false,false⟩
noncomputable def Z2:TE:=⟨.struct [(0,(2,1)),(1,(3,1)),(2,(4,1)),(3,(6,1))],4,24,[z0,z0,.ff,.int .u8 0],true,true⟩
noncomputable def Z3:TE:=⟨.struct [(0,(9,1)),(1,(12,1))],2,24,[.str [],.int .u64 0],false,true⟩
noncomputable def Z4:TE:=⟨.struct [(0,(17,1))],1,8,[.nilp],false,true⟩
noncomputable def Z5:TE:=⟨.struct [(0,(3,1)),(1,(26,2)),(3,(28,3)),(6,(30,3)),(9,(3,1)),(10,(3,1)),(11,(2,1)),(12,(3,1)),(13,(2,1)),(14,(31,1))],15,136,[z0,z0,z0,z0,z0,z0,z0,z0,z0,z0,z0,z0,z0,z0,.nils],true,true⟩
noncomputable def Z6:TE:=⟨.struct [(0,(3,1)),(1,(3,1)),(2,(3,1)),(3,(3,1)),(4,(9,1)),(5,(42,1))],6,72,[z0,z0,z0,z0,.str [],.nils],true,true⟩
noncomputable def Z7:TE:=⟨.struct [(0,(36,1)),(1,(3,1))],2,16,[z0,z0],true,true⟩
noncomputable def Z8:TE:=⟨.struct [(0,(3,1)),(1,(3,1)),(2,(3,1)),(3,(3,1)),(4,(3,1)),(5,(2,1))],6,48,[z0,z0,z0,z0,z0,z0],true,true⟩
noncomputable def Z9:TE:=⟨.struct [(0,(22,1)),(1,(3,1))],2,32,[.nils,z0],true,true⟩
noncomputable def Z_:TE:=⟨.struct [(0,(33,15)),(15,(3,1)),(16,(3,1)),(17,(2,1)),(18,(4,1)),(19,(3,1)),(20,(67,1)),(21,(72,1)),(22,(73,1)),(23,(74,1)),(24,(70,1)),(25,(75,1)),(26,(77,1)),(27,(22,1)),(28,(50,1))],29,352,[z0,z0,z0,z0,z0,z0,z0,z0,z0,z0,z0,z0,z0,z0,.nils,z0,z0,z0,.ff,z0,.nilp,.nils,.nils,.nils,.nilp,.nils,.nili,.nils,.nils],false,true⟩
noncomputable def q23:TE:=⟨.struct [(0,(3,1)),(1,(22,1))],2,32,[z0,.nils],true,true⟩
noncomputable def q24:TE:=⟨.struct [(0,(3,1)),(1,(3,1)),(2,(105,1)),(3,(104,1)),(4,(106,1)),(5,(3,1))],6,80,[z0,z0,.nils,.nilm,.nils,z0],true,true⟩
noncomputable def q25:TE:=⟨.struct [(0,(3,1)),(1,(3,1)),(2,(3,1)),(3,(3,1)),(4,(2,1)),(5,(2,1))],6,48,[z0,z0,z0,z0,z0,z0],true,true⟩
noncomputable def q26:TE:=⟨.struct [(0,(111,6)),(6,(22,1))],7,72,[z0,z0,z0,z0,z0,z0,.nils],true,true⟩
noncomputable def q27:TE:=⟨.struct [(0,(109,1)),(1,(114,224))],225,2328,.nils::abX,true,true⟩
noncomputable def q28:TE:=⟨.struct [(0,(117,1))],1,8,[.nilp],true,true⟩
noncomputable def q29:TE:=⟨.struct [(0,(122,1))],1,8,[.nilp],true,true⟩
noncomputable def q30:TE:=⟨.struct [(0,(127,1)),(1,(131,1)),(2,(35,1))],3,24,[.nilp,.nilm,.nilp],true,true⟩
noncomputable def q31:TE:=⟨.struct [(0,(26,2)),(2,(167,1)),(3,(170,1)),(4,(173,1)),(5,(173,1)),(6,(172,1))],7,56,[z0,z0,.nilp,.nilp,.nilp,.nilp,.nilm],true,true⟩
noncomputable def q32:TE:=⟨.struct [(0,(167,1)),(1,(178,1))],2,16,[.nilp,.nilm],true,true⟩
noncomputable def q33:TE:=⟨.struct [(0,(2,1)),(1,(181,1)),(2,(182,1))],3,40,[z0,.nils,.nilp],true,true⟩
noncomputable def q34:TE:=⟨.struct [(0,(3,1)),(1,(3,1)),(2,(3,1)),(3,(3,1)),(4,(3,1)),(5,(2,1)),(6,(2,1))],7,56,[z0,z0,z0,z0,z0,z0,z0],true,true⟩
noncomputable def q35:TE:=⟨.struct [(0,(3,1)),(1,(3,1)),(2,(3,1)),(3,(3,1)),(4,(3,1))],5,40,[z0,z0,z0,z0,z0],true,true⟩
noncomputable def q36:TE:=⟨.struct [(0,(200,1)),(1,(201,1)),(2,(202,1)),(3,(3,1)),(4,(2,1))],5,40,[.nilp,.nilp,.nilp,z0,z0],true,true⟩
noncomputable def q37:TE:=⟨.struct [(0,(3,1)),(1,(3,1)),(2,(75,1)),(3,(3,1))],4,48,[z0,z0,.nils,z0],true,true⟩
noncomputable def q38:TE:=⟨.struct [(0,(239,1)),(1,(136,1))],2,32,[.nilp,.nils],true,true⟩
noncomputable def q39:TE:=⟨.struct [(0,(2,1)),(1,(251,1)),(2,(252,1)),(3,(2,1)),(4,(2,1))],5,40,[z0,.nilm,.nilm,z0,z0],true,true⟩
noncomputable def q40:TE:=⟨.struct [(0,(255,1))],1,8,[.nilm],true,true⟩
noncomputable def q41:TE:=⟨.struct [(0,(2,1)),(1,(41,1)),(2,(252,1)),(3,(2,1))],4,32,[z0,.nilm,.nilm,z0],true,true⟩
noncomputable def q42:TE:=⟨.struct [(0,(3,1)),(1,(3,1))],2,16,[z0,z0],true,true⟩
noncomputable def q43:TE:=⟨.struct [(0,(3,1)),(1,(235,1))],2,16,[z0,.int .u64 0],true,true⟩
noncomputable def q44:TE:=⟨.struct [(0,(28,3)),(3,(293,32)),(35,(3,1)),(36,(3,1)),(37,(4,1)),(38,(4,1))],39,80,[z0,z0,z0,.ff,.ff,.ff,.ff,.ff,.ff,.ff,.ff,.ff,.ff,.ff,.ff,.ff,.ff,.ff,.ff,.ff,.ff,.ff,.ff,.ff,.ff,.ff,.ff,.ff,.ff,.ff,.ff,.ff,.ff,.ff,.ff,z0,z0,.ff,.ff],true,true⟩
noncomputable def q45:TE:=⟨.struct [(0,(3,1)),(1,(3,1)),(2,(3,1)),(3,(3,1))],4,32,[z0,z0,z0,z0],true,true⟩
noncomputable def q46:TE:=⟨.struct [(0,(3,1)),(1,(9,1)),(2,(3,1)),(3,(3,1))],4,40,[z0,.str [],z0,z0],true,true⟩
noncomputable def q47:TE:=⟨.struct [(0,(3,1)),(1,(3,1)),(2,(3,1)),(3,(287,1))],4,48,[z0,z0,z0,.nils],true,true⟩
noncomputable def q48:TE:=⟨.struct [(0,(3,1)),(1,(3,1)),(2,(41,1))],3,24,[z0,z0,.nilm],true,true⟩
noncomputable def q49:TE:=⟨.struct [(0,(235,1)),(1,(235,1))],2,16,[.int .u64 0,.int .u64 0],true,true⟩
noncomputable def q50:TE:=⟨.struct [(0,(9,1)),(1,(4,1))],2,24,[.str [],.ff],true,true⟩
noncomputable def q51:TE:=⟨.struct [(0,(70,1)),(1,(3,1)),(2,(3,1)),(3,(41,1)),(4,(41,1))],5,40,[.nilp,z0,z0,.nilm,.nilm],true,true⟩
noncomputable def q52:TE:=⟨.struct [(0,(33,15)),(15,(50,1)),(16,(3,1)),(17,(167,1)),(18,(170,1)),(19,(337,1)),(20,(252,1)),(21,(3,1))],22,208,[z0,z0,z0,z0,z0,z0,z0,z0,z0,z0,z0,z0,z0,z0,.nils,.nils,z0,.nilp,.nilp,.nilm,.nilm,z0],true,true⟩
noncomputable def q53:TE:=⟨.struct [(0,(3,1)),(1,(3,1)),(2,(4,1))],3,24,[z0,z0,.ff],true,true⟩
noncomputable def q54:TE:=⟨.struct [(0,(2,1)),(1,(2,1)),(2,(2,1))],3,24,[z0,z0,z0],true,true⟩
noncomputable def q55:TE:=⟨.struct [(0,(3,1)),(1,(3,1)),(2,(2,1)),(3,(3,1))],4,32,[z0,z0,z0,z0],true,true⟩
noncomputable def q56:TE:=⟨.array 256 4,256,256,List.replicate 256 (.ff),false,true⟩
noncomputable def q57:TE:=⟨.struct [(0,(5,1)),(1,(5,1))],2,2,[.int .u8 0,.int .u8 0],true,true⟩
noncomputable def q58:TE:=⟨.struct [(0,(9,1)),(1,(9,1)),(2,(245,1))],3,48,[.str [],.str [],.nili],false,true⟩
noncomputable def q59:TE:=⟨.struct [(0,(9,1))],1,16,[.str []],true,true⟩
noncomputable def q60:TE:=⟨.struct [(0,(17,1)),(1,(17,1)),(2,(17,1)),(3,(9,1))],4,40,[.nilp,.nilp,.nilp,.str []],false,true⟩
noncomputable def q61:TE:=⟨.struct [(0,(541,0))],0,0,[],false,true⟩
noncomputable def q62:TE:=⟨.struct [(0,(12,1)),(1,(12,1)),(2,(444,1)),(3,(544,1)),(4,(5,1)),(5,(5,1)),(6,(545,1)),(7,(546,1)),(8,(349,1)),(9,(547,1)),(10,(548,1))],11,48,[.int .u64 0,.int .u64 0,.int .u32 0,.int .u8 0,.int .u8 0,.int .u8 0,.int .u8 0,.any,.nilp,.int .i32 0,.int .i32 0],false,true⟩
noncomputable def q63:TE:=⟨.struct [(0,(3,1)),(1,(3,1)),(2,(2,1)),(3,(2,1)),(4,(2,1)),(5,(2,1)),(6,(2,1)),(7,(2,1)),(8,(2,1)),(9,(2,1))],10,80,[z0,z0,z0,z0,z0,z0,z0,z0,z0,z0],true,true⟩
noncomputable def q64:TE:=⟨.bool,1,1,[.ff],false,false⟩
noncomputable def q65:TE:=⟨.ptr 540,1,8,[.nilp],false,false⟩
noncomputable def q66:TE:=⟨.ptr 543,1,8,[.nilp],false,false⟩
noncomputable def q67:TE:=⟨.ptr 550,1,8,[.nilp],false,false⟩
noncomputable def q68:TE:=⟨.slice 3,1,24,[.nils],false,false⟩
noncomputable def q69:TE:=⟨.ptr 60,1,8,[.nilp],false,false⟩
noncomputable def q70:TE:=⟨.slice 49,1,24,[.nils],false,false⟩
noncomputable def q71:TE:=⟨.ptr 79,1,8,[.nilp],false,false⟩
noncomputable def q72:TE:=⟨.slice 44,1,24,[.nils],false,false⟩
noncomputable def q73:TE:=⟨.map 3 3,1,8,[.nilm],false,false⟩
noncomputable def q74:TE:=⟨.slice 4,1,24,[.nils],false,false⟩
noncomputable def q75:TE:=⟨.slice 53,1,24,[.nils],false,false⟩
noncomputable def q76:TE:=⟨.slice 2,1,24,[.nils],false,false⟩
noncomputable def q77:TE:=⟨.ptr 108,1,8,[.nilp],false,false⟩
noncomputable def q78:TE:=⟨.ptr 116,1,8,[.nilp],false,false⟩
noncomputable def q79:TE:=⟨.slice 153,1,24,[.nils],false,false⟩
noncomputable def q80:TE:=⟨.slice 144,1,24,[.nils],false,false⟩
noncomputable def q81:TE:=⟨.slice 199,1,24,[.nils],false,false⟩
noncomputable def q82:TE:=⟨.slice 193,1,24,[.nils],false,false⟩
noncomputable def q83:TE:=⟨.slice 26,1,24,[.nils],false,false⟩
noncomputable def q84:TE:=⟨.map 9 3,1,8,[.nilm],false,false⟩
noncomputable def q85:TE:=⟨.slice 301,1,24,[.nils],false,false⟩
noncomputable def q86:TE:=⟨.slice 223,1,24,[.nils],false,false⟩
noncomputable def q87:TE:=⟨.slice 299,1,24,[.nils],false,false⟩
noncomputable def q88:TE:=⟨.array 32 113,224,2304,abX,false,true⟩
noncomputable def q89:TE:=⟨.ptr 175,1,8,[.nilp],false,false⟩
noncomputable def q90:TE:=⟨.ptr 180,1,8,[.nilp],false,false⟩
noncomputable def q91:TE:=⟨.ptr 184,1,8,[.nilp],false,false⟩
noncomputable def q92:TE:=⟨.ptr 133,1,8,[.nilp],false,false⟩
noncomputable def q93:TE:=⟨.map 3 594,1,8,[.nilm],false,false⟩
noncomputable def q94:TE:=⟨.slice 5,1,24,[.nils],false,false⟩
noncomputable def q95:TE:=⟨.slice 9,1,24,[.nils],false,false⟩
noncomputable def q96:TE:=⟨.ptr 226,1,8,[.nilp],false,false⟩
noncomputable def q97:TE:=⟨.slice 46,1,24,[.nils],false,false⟩
noncomputable def q98:TE:=⟨.ptr 254,1,8,[.nilp],false,false⟩
noncomputable def q99:TE:=⟨.ptr 257,1,8,[.nilp],false,false⟩
noncomputable def ap7:TE:=⟨.map 3 562,1,8,[.nilm],false,false⟩
noncomputable def ap8:TE:=⟨.ptr 259,1,8,[.nilp],false,false⟩
noncomputable def ap9:TE:=⟨.map 3 393,1,8,[.nilm],false,false⟩
noncomputable def aqa:TE:=⟨.slice 182,1,24,[.nils],false,false⟩
noncomputable def aqb:TE:=⟨.ptr 419,1,8,[.nilp],false,false⟩
noncomputable def aqc:TE:=⟨.slice 190,1,24,[.nils],false,false⟩
noncomputable def aqd:TE:=⟨.slice 274,1,24,[.nils],false,false⟩
noncomputable def aqe:TE:=⟨.ptr 204,1,8,[.nilp],false,false⟩
noncomputable def aqf:TE:=⟨.ptr 295,1,8,[.nilp],false,false⟩
noncomputable def aqg:TE:=⟨.ptr 303,1,8,[.nilp],false,false⟩
noncomputable def aqh:TE:=⟨.ptr 305,1,8,[.nilp],false,false⟩
noncomputable def aqi:TE:=⟨.ptr 190,1,8,[.nilp],false,false⟩
noncomputable def aqj:TE:=⟨.slice 20,1,24,[.nils],false,false⟩
noncomputable def aqk:TE:=⟨.ptr 241,1,8,[.nilp],false,false⟩
noncomputable def aql:TE:=⟨.slice 111,1,24,[.nils],false,false⟩
noncomputable def aqm:TE:=⟨.array 5 3,5,40,[z0,z0,z0,z0,z0],false,true⟩
noncomputable def aqn:TE:=⟨.map 3 448,1,8,[.nilm],false,false⟩
noncomputable def aqo:TE:=⟨.map 3 2,1,8,[.nilm],false,false⟩
noncomputable def aqp:TE:=⟨.map 3 451,1,8,[.nilm],false,false⟩
noncomputable def aqq:TE:=⟨.slice 290,1,24,[.nils],false,false⟩
noncomputable def aqr:TE:=⟨.array 32 4,32,32,[.ff,.ff,.ff,.ff,.ff,.ff,.ff,.ff,.ff,.ff,.ff,.ff,.ff,.ff,.ff,.ff,.ff,.ff,.ff,.ff,.ff,.ff,.ff,.ff,.ff,.ff,.ff,.ff,.ff,.ff,.ff,.ff],false,true⟩
noncomputable def aqs:TE:=⟨.ptr 327,1,8,[.nilp],false,false⟩
noncomputable def aqt:TE:=⟨.ptr 334,1,8,[.nilp],false,false⟩
noncomputable def aqu:TE:=⟨.ptr 339,1,8,[.nilp],false,false⟩
noncomputable def aqv:TE:=⟨.map 3 491,1,8,[.nilm],false,false⟩
noncomputable def aqw:TE:=⟨.map 3 343,1,8,[.nilm],false,false⟩
noncomputable def aqx:TE:=⟨.map 344 4,1,8,[.nilm],false,false⟩
noncomputable def aqy:TE:=⟨.ptr 111,1,8,[.nilp],false,false⟩
noncomputable def aqz:TE:=⟨.array 2 3,2,16,[z0,z0],false,true⟩
noncomputable def aqA:TE:=⟨.ptr 5,1,8,[.nilp],false,false⟩
noncomputable def aqB:TE:=⟨.ptr 299,1,8,[.nilp],false,false⟩
noncomputable def aqC:TE:=⟨.slice 360,1,24,[.nils],false,false⟩
noncomputable def aqD:TE:=⟨.map 3 195,1,8,[.nilm],false,false⟩
noncomputable def aqE:TE:=⟨.array 24 5,24,24,[.int .u8 0,.int .u8 0,.int .u8 0,.int .u8 0,.int .u8 0,.int .u8 0,.int .u8 0,.int .u8 0,.int .u8 0,.int .u8 0,.int .u8 0,.int .u8 0,.int .u8 0,.int .u8 0,.int .u8 0,.int .u8 0,.int .u8 0,.int .u8 0,.int .u8 0,.int .u8 0,.int .u8 0,.int .u8 0,.int .u8 0,.int .u8 0],false,true⟩
noncomputable def aqF:TE:=⟨.slice 448,1,24,[.nils],false,false⟩
noncomputable def aqG:TE:=⟨.other,1,8,[.nilp],false,false⟩
noncomputable def aqH:TE:=⟨.ptr 113,1,8,[.nilp],false,false⟩
noncomputable def aqI:TE:=⟨.slice 21,1,24,[.nils],false,false⟩
noncomputable def aqJ:TE:=⟨.ptr 435,1,8,[.nilp],false,false⟩
noncomputable def aqK:TE:=⟨.array 20 235,20,160,[.int .u64 0,.int .u64 0,.int .u64 0,.int .u64 0,.int .u64 0,.int .u64 0,.int .u64 0,.int .u64 0,.int .u64 0,.int .u64 0,.int .u64 0,.int .u64 0,.int .u64 0,.int .u64 0,.int .u64 0,.int .u64 0,.int .u64 0,.int .u64 0,.int .u64 0,.int .u64 0],false,true⟩
noncomputable def aqL:TE:=⟨.int .u32,1,4,[.int .u32 0],false,false⟩
noncomputable def aqM:TE:=⟨.array 65 5,65,65,List.replicate 65 (.int .u8 0),false,true⟩
noncomputable def aqN:TE:=⟨.slice 458,1,24,[.nils],false,false⟩
noncomputable def aqO:TE:=⟨.ptr 513,1,8,[.nilp],false,false⟩
noncomputable def aqP:TE:=⟨.ptr 3,1,8,[.nilp],false,false⟩
noncomputable def aqQ:TE:=⟨.array 256 5,256,256,List.replicate 256 (.int .u8 0),false,true⟩
noncomputable def aqR:TE:=⟨.array 16 507,32,32,[.int .u8 0,.int .u8 0,.int .u8 0,.int .u8 0,.int .u8 0,.int .u8 0,.int .u8 0,.int .u8 0,.int .u8 0,.int .u8 0,.int .u8 0,.int .u8 0,.int .u8 0,.int .u8 0,.int .u8 0,.int .u8 0,.int .u8 0,.int .u8 0,.int .u8 0,.int .u8 0,.int .u8 0,.int .u8 0,.int .u8 0,.int .u8 0,.int .u8 0,.int .u8 0,.int .u8 0,.int .u8 0,.int .u8 0,.int .u8 0,.int .u8 0,.int .u8 0],false,true⟩
noncomputable def aqS:TE:=⟨.array 32 5,32,32,[.int .u8 0,.int .u8 0,.int .u8 0,.int .u8 0,.int .u8 0,.int .u8 0,.int .u8 0,.int .u8 0,.int .u8 0,.int .u8 0,.int .u8 0,.int .u8 0,.int .u8 0,.int .u8 0,.int .u8 0,.int .u8 0,.int .u8 0,.int .u8 0,.int .u8 0,.int .u8 0,.int .u8 0,.int .u8 0,.int .u8 0,.int .u8 0,.int .u8 0,.int .u8 0,.int .u8 0,.int .u8 0,.int .u8 0,.int .u8 0,.int .u8 0,.int .u8 0],false,true⟩
noncomputable def aqT:TE:=⟨.array 64 5,64,64,List.replicate 64 (.int .u8 0),false,true⟩
noncomputable def aqU:TE:=⟨.ptr 494,1,8,[.nilp],false,false⟩
noncomputable def aqV:TE:=⟨.ptr 531,1,8,[.nilp],false,false⟩
noncomputable def aqW:TE:=⟨.array 0 16,0,0,[],false,true⟩
noncomputable def aqX:TE:=⟨.ptr 301,1,8,[.nilp],false,false⟩
noncomputable def aqY:TE:=⟨.slice 598,1,24,[.nils],false,false⟩
noncomputable def tab:aG:=[[[q1,q0,q6,q6,q64,Je,Je,Z2],
 [Z2,P9,P9,P9,Jf,Z3,Z3,q65],
 [q66,q67,Z4,Z4,q4,P_,q68,q69],
 [q0,q3,q3,q5,q5,Jg,Jg,q70],
 [Z5,Z5,q0,q71,q6,q1,q0,q72],
 [q0,q73,q74,Z6,Z6,Z7,Z7,q0],
 [q3,q3,q75,q0,Z8,Z8,q1,q0],
 [q0,q0,q0,Z9,Z9,q0,q0,q0]],
 [[q76,q0,q0,q77,q1,q0,q78,q0],
 [q79,q80,q81,q82,q4,q4,Z_,Z_],
 [q0,q23,q23,q1,q0,q0,q0,q0],
 [q0,q1,q0,q0,q0,q0,q1,q0],
 [q0,q0,q1,q0,q0,q83,q0,q0],
 [q84,q85,q86,q24,q24,q87,q25,q25],
 [q26,q26,q88,q27,q27,q89,q1,q0],
 [q28,q28,q90,q1,q0,q29,q29,q91]],
 [[q1,q0,q92,q93,q30,q30,q0,q0],
 [q94,q95,Jc,Jc,q0,q0,q0,q0],
 [q96,q1,q0,q0,q0,q1,q0,q0],
 [Jc,Jc,q0,q0,q0,q0,Jf,q1],
 [q0,q97,q1,q0,q0,q0,q0,q98],
 [q1,q0,q99,q0,ap7,ap8,q31,q31],
 [q1,q0,ap9,q32,q32,aqa,aqb,q33],
 [q33,q0,q0,aqc,q0,q34,q34,q0]],
 [[q35,q35,q0,aqd,q1,q0,q0,aqe],
 [aqf,aqg,aqh,q36,q36,q0,q1,q0],
 [q0,q0,q1,q0,q0,q0,q0,q0],
 [q1,q0,q1,q0,q1,q0,q0,aqi],
 [q0,q37,q37,q1,q0,q0,q0,q0],
 [q0,q0,q0,Jf,aqj,q0,q0,aqk],
 [q38,q38,aql,q0,q4,q4,q1,q0],
 [aqm,q0,q0,aqn,aqo,q39,q39,aqp]],
 [[q40,q40,q41,q41,q0,q0,q0,q0],
 [q0,q0,q0,q4,q4,q1,q0,q1],
 [q0,q42,q42,q1,q0,q0,q0,q0],
 [q1,q0,q0,q0,q43,q43,q0,aqq],
 [q0,q5,q5,q0,q0,aqr,q44,q44],
 [q0,q0,q45,q45,q46,q46,q47,q47],
 [q48,q48,q0,q1,q0,q1,q0,q0],
 [q0,q0,q0,q1,q0,q0,q1,q0]],
 [[q49,q49,q0,q0,q0,aqs,q50,q50],
 [q0,q0,q0,q0,aqt,q51,q51,q0],
 [aqu,aqv,q52,q52,q0,aqw,aqx,aqy],
 [aqz,q0,q0,q0,q0,aqA,q1,q0],
 [q0,aqB,q0,q0,aqC,q1,q0,q53],
 [q53,q5,q5,q1,q0,aqD,q0,q1],
 [q0,q0,q1,q0,q0,q1,q0,q0],
 [q0,q0,q0,q1,q0,q0,q0,q0]],
 [[q0,q0,q0,q0,q0,q1,q0,q0],
 [q54,q54,q1,q0,q1,q0,q0,q0],
 [aqE,q0,q0,q1,q0,q0,q0,aqF],
 [q0,aqG,q0,q0,q0,q0,q0,q0],
 [q0,q0,q55,q55,q0,aqH,q0,q0],
 [q1,q0,q0,q0,q0,q0,aqI,q0],
 [q0,q0,q56,q56,q1,q0,q0,aqJ],
 [q0,q0,q0,aqK,aqL,aqM,q0,Jg]],
 [[Jg,q1,Jd,Jd,q1,aqN,q0,q1],
 [q0,Jd,Jd,q0,q0,q0,q0,q0],
 [q6,q1,q0,q0,q0,q0,q0,q0],
 [q0,q0,q0,q0,q0,q0,q0,q0],
 [q0,q0,q6,q1,q0,aqO,q0,q0],
 [q0,q0,q3,q3,q0,q0,Jf,q0],
 [q0,q0,aqP,q0,q0,q0,q0,q0],
 [q0,aqQ,q57,q57,aqR,q0,q1,q0]],
 [[q58,q58,q0,aqS,aqT,q0,q0,q0],
 [q0,aqU,q1,q0,q0,q0,q1,q0],
 [q0,aqV,q59,q59,q0,q0,q0,q0],
 [q0,q0,q0,q60,q60,aqW,q61,q61],
 [Je,Je,q0,P_,P_,q62,q62,q0],
 [q0,q0,q0,q1,q0,q0,q0,q0],
 [q0,q3,q3,q0,q0,q0,q0,q0],
 [q0,q0,q0,q0,q0,q1,q0,q0]],
 [[q0,q0,q0,q0,q0,q0,q0,q0],
 [q0,q0,q0,q0,q0,q0,q0,q0],
 [q0,q0,aqX,q0,aqY,q63,q63,q2],
 [q2,q2,q2,q2,q2,q2,q2,q2],
 [q2,q2,q2,q2,q2,q2,q2,q2],
 [q2,q2,q2,q2,q2,q2,q2,q2],
 [q2,q2,q2,q2,q2,q2,q2,q2],
 [q2,q2,q2,q2,q2,q2,q2,q2]]
]
open Go.Proofs.Tryz in
noncomputable def xc:List (List Func):=[[f0,f1,f2,f3,f4,f5,f6,f7,f8,f9,f10,f11,f12,f13,f14,f15],[f16,f17,f18,f19,f20,f21,f22,f23,f24,f25,f26,f27,f28,f29,f30,f31],[f32,f33,f34,f35,f36,f37,f38,f39,f40,f41,f42,f43,f44,f45,f46,f47],[f48,f49,f50,f51,f52,f53,f54,f55,f56,f57,f58,f59,f60,f61,f62,f63],[f64,f65,f66,f67,f68,f69,f70,f71,f72,f73,f74,f75,f76,f77,f78,f79],[f80,f81,f82,f83,f84,f85,f86,f87,f88,f89,f90,f91,f92,f93,f94,f95],[f96,f97,f98,f99,f100,f101,f102,f103,f104,f105,f106,f107,f108,f109,f110,f111],[f112,f113,f114,f115,f116,f117,f118,f119,f120,f121,f122,f123,f124,f125,f126,f127],[f128,f129,f130,f131,f132,f133,f134,f135,f136,f137,f138,f139,f140,f141,f142,f143],[f144,f145,f146,f147,f148,f149,f150,f151,f152,f153,f154,f155,f156,f157,f158,f159],[f160,f161,f162,f163,f164,f165,f166,f167,f168,f169,f170,f171,f172,f173,f174,f175],[f176,f177,f178,f179,f180,f181,f182,f183,f184,f185,f186,f187,f188,f189,f190,f191],[f192,f193,f194,f195,f196,f197,f198,f199,f200,f201,f202,f203,f204,f205,f206,f207],[f208,f209,f210,f211,f212,f213,f214,f215,f216,f217,f218,f219,f220,f221,f222,f223],[f224,f225,f226,f227,f228,f229,f230,f231,f232,f233,f234,f235,f236,f237,f238,f239],[f240,f241,f242,f243,f244,f245,f246,f247,f248,f249,f250,f251,f252,f253,f254,f255],[f256,f257,f258,f259,f260,f261,f262,f263,f264,f265,f266,f267,f268,f269,f270,f271],[f272,f273,f274,f275,f276,f277,f278,f279,f280,f281,f282,f283,f284,f285,f286,f287],[f288,f289,f290,f291,f292,f293,f294,f295,f296,f297,f298,f299,f300,f301,f302,f303],[f304,f305,f306,f307,f308,f309,f310,f311,f312,f313,f314,f315,f316,f317,f318,f319],[f320,f321,f322,f323,f324,f325,f326,f327,f328,f329,f330,f331,f332,f333,f334,f335],[f336,f337,f338,f339,f340,f341,f342,f343,f344,f345,f346,f347,f348,f349,f350,f351],[f352,f353,f354,f355,f356,f357,f358,f359,f360,f361,f362,f363,f364,f365,f366,f367],[f368,f369,f370,f371,f372,f373,f374,f375,f376,f377,f378,f379,f380,f381,f382,f383],[f384,f385,f386,f387,f388,f389,f390,f391,f392,f393,f394,f395,f396,f397,f398,f399],[f400,f401,f402,f403,f404,f405,f406,f407,f408,f409,f410,f411,f412,f413,f414,f415],[f416,f417,f418,f419,f420,f421,f422,f423,f424,f425,f426,f427,f428,f429,f430,f431],[f432,f433,f434,f435,f436,f437,f438,f439,f440,f441,f442,f443,f444,f445,f446,f447],[f448,f449,f450,f451,f452,f453,f454,f455,f456,f457,f458,f459,f460,f461,f462,f463],[f464,f465,f466,f467,f468,f469,f470,f471,f472,f473,f474,f475,f476,f477,f478,f479],[f480,f481,f482,f483,f484,f485,f486,f487,f488,f489,f490,f491,f492,f493,f494,f495],[f496,f497,f498,f499,f500,f501,f502,f503,f504,f505,f506,f507,f508,f509]
]
def atX:abq prog 10=tab:=by kernel_rfl
def aj:bl prog tab:=atW prog 10 atX
noncomputable def Pr:List (TypeId×String×FuncId):=[(121,"airshare/machine.join",413),(121,"airshare/machine.leave",414),(121,"airshare/machine.rebased",415),(121,"airshare/machine.step",416),(121,"airshare/machine.weight",417),(126,"airshare/machine.join",449),(126,"airshare/machine.leave",450),(126,"airshare/machine.rebased",451),(126,"airshare/machine.step",452),(126,"airshare/machine.weight",453),(130,"airshare/machine.join",486),(130,"airshare/machine.leave",487),(130,"airshare/machine.weight",488)]
noncomputable def countP:wx:=fun l k=>match l with|[.str s,.int .u8 c]=>iz (Go.Lib.countByte s c.toNat.toUInt8) fun n=>k (.int .i64 (n:Int))|_=>False
noncomputable def Xi:wx:=fun l k=>match l with|[.str s,.int .u8 c]=>x9 (Go.Lib.indexByte s c.toNat.toUInt8) fun n=>k (.int .i64 n)|_=>False
def vH{w}{L}{g}{a b}{vs}(h:b5 w L g [a,b] vs):∃x y,vs=[x,y]/\af w L g a x/\af w L g b y:=by obtain⟨hl,D⟩:=h;match vs,hl with|[x,y],_=>exact⟨x,y,rfl,D 0 a x rfl rfl,D 1 b y rfl rfl⟩
def Uf(s)(c):aY prog 327 [.str s,.int .u8 c] (· =.int .i64 (Go.Lib.countByte s c.toNat.toUInt8:Nat)):=by refine .PK rfl fun w L g vs D=>?_;obtain⟨x,y,rfl,E,F⟩:=vH D;cases E;cases F;exact⟨_,(Fo (e:=Extern.BytealgCount.count) (fn:=f327) (by kernel_rfl) Y Y Y Y _ w).trans (by rw[Go.Lib.run_countString];rfl),.int⟩
def abK(s)(c):aY prog 379 [.str s,.int .u8 c] (· =.int .i64 (Go.Lib.indexByte s c.toNat.toUInt8)):=by refine .PK rfl fun w L g vs D=>?_;obtain⟨x,y,rfl,E,F⟩:=vH D;cases E;cases F;exact⟨_,(Fo (e:=Extern.BytealgIndexByte.indexByte) (fn:=f379) (by kernel_rfl) Y Y Y Y _ w).trans (by rw[Go.Lib.run_indexByteString];rfl),.int⟩
def KY(P:Program)(f:FuncId)(sp:wx):Prop:=∀l k,sp l k->∃s,k s/\aY P f l (· =s)
def ahl:KY prog 327 countP:=by
 intro l k h;match l with
 |[.str s,.int .u8 c]=>exact⟨_,mf (k:=fun n=>k (.int .i64 (n:Int))) h,Uf s c⟩
 |[]=>cases h
 |[a]=>cases a<;>cases h
 |a::b::d::r=>cases a<;>first|cases h|(cases b<;>first|cases h|(rename_i q n;cases q<;>cases h))
 |[a,b]=>cases a<;>first|cases h|(cases b<;>first|cases h|(rename_i q n;cases q<;>first|cases h|exact⟨_,mf (k:=fun n=>k (.int .i64 (n:Int))) h,Uf _ _⟩))
def H_:KY prog 379 Xi:=by
 intro l k h;match l with
 |[.str s,.int .u8 c]=>exact⟨_,Ow (k:=fun n=>k (.int .i64 n)) h,abK s c⟩
 |[]=>cases h
 |[a]=>cases a<;>cases h
 |a::b::d::r=>cases a<;>first|cases h|(cases b<;>first|cases h|(rename_i q n;cases q<;>cases h))
 |[a,b]=>cases a<;>first|cases h|(cases b<;>first|cases h|(rename_i q n;cases q<;>first|cases h|exact⟨_,Ow (k:=fun n=>k (.int .i64 n)) h,abK _ _⟩))
noncomputable def aaM:wx:=fun l k=>match l with|[s]=>k s|_=>False
def AZ{w}{L}{g}{a}{vs}(h:b5 w L g [a] vs):∃x,vs=[x]/\af w L g a x:=by obtain⟨hl,D⟩:=h;match vs,hl with|[x],_=>exact⟨x,rfl,D 0 a x rfl rfl⟩
def asE(s):aY prog 246 [s] (· =s):=by refine .PK rfl fun w L g vs D=>?_;obtain⟨x,rfl,E⟩:=AZ D;exact⟨_,(Fo (e:=Extern.AbiNoEscape.same) (fn:=f246) (by kernel_rfl) Y Y Y Y _ w).trans rfl,E⟩
def asD:KY prog 246 aaM:=by intro l k h;match l with|[s]=>exact⟨_,h,asE s⟩|[]=>cases h|_::_::_=>cases h
def ajt:xc.flatten=prog.funcs.toList:=by kernel_rfl
def aju:(prog.funcs.toList.all fun fn=> !(fn.name== "runtime.NumGoroutine"))=true:=by kernel_rfl
noncomputable def LI:uu:=fun l ad K=>match l with
 |[.ifc ag (.mp b)]=>eZ ad b fun aT=>match aT with|.mapB es c=>mn ad (.mapB es c) fun n H'=>K (.ifc ag (.mp n)) H' []|.pmap es c=>mn ad (.pmap es c) fun n H'=>K (.ifc ag (.mp n)) H' []|_=>False
 |_=>False
noncomputable def keyOf(es:List ME)(c:Nat)(ad:HW)(K:qR):Prop:=match es with|[]=>K .nils ad []|[(.int .i64 k,_,st)]=>bo (leI (-9223372036854775808) k) (bo (leI k 9223372036854775807) (bo (Nat.ble (Nat.succ st) c) (mn ad (.row 3 1 [[.int .i64 k]]) fun n H'=>K (.sl n) H' [])))|_=>False
noncomputable def QA:uu:=fun l ad K=>match l with
 |[.nils,.fn f [.ptr fb 0]]=>dy (jy f [341,245,370,446]) (eZ ad fb fun aT=>match aT with
  |.fix _ [.mp b]=>eZ ad b fun m=>match m with|.mapB es c=>keyOf es c ad K|.pmap es c=>keyOf es c ad K|_=>False
  |_=>False) False
 |_=>False
noncomputable def LG:uu:=fun l ad K=>match l with
 |[.ptr b 0]=>eZ ad b fun aT=>match aT with|.fix T [.nilp,x]=>bo (Nat.beq T 241) (yx ad b (.fix T [.ptr b 0,x]) fun H'=>K (.tup []) H' [b])|.fix _ [.ptr b' 0,_]=>bo (Nat.beq b' b) (K (.tup []) ad [])|_=>False
 |_=>False
noncomputable def Mq:uu:=fun l ad K=>match l with|[.ptr b 0,.int .i64 n]=>bo (leI 1 n) (bo (leI n 281474976710656) (eZ ad b fun aT=>match aT with|.fix T [x,.nils]=>bo (Nat.beq T 241) (mn ad (.row 5 1 []) fun r H1=>yx H1 b (.fix T [x,.sl r]) fun H'=>K (.tup []) H' [b])|_=>False))|_=>False
noncomputable def Cq(f:Nat):Nat->List UInt8->(List UInt8->Prop)->Prop:=
 Nat.rec (fun _ _ _=>False)
  (fun _ ih n acc k=>iz (Nat.div n 10) fun q=>iz (Nat.mod n 10) fun r=>Bool.rec (ih q (UInt8.ofNat (Nat.add 48 r)::acc) k) (k (UInt8.ofNat (Nat.add 48 r)::acc)) (Nat.beq q 0)) f
noncomputable def P2(cs:List SV):Nat->Prop->Prop:=
 List.rec (fun _ k=>k) (fun s _ ih p k=>match s with
  |.int .u64 v=>bo (Nat.beq v.toNat p) (bo (leI 0 v) (iz (Nat.mul 10 p) fun p'=>ih p' k))
  |_=>False) cs
noncomputable def Mf:uu:=fun l ad K=>match l with|[.int .i64 n,.int .i64 m]=>bo (Nat.beq m.toNat 10) (bo (leI 0 n) (bo (leI n 9223372036854775807) (eZ ad 0 fun aT=>match aT with|.glob 2 T cs=>bo (Nat.beq T 443) (bd cs.length 20 (P2 cs 1 (iz n.toNat fun ag=>Cq 20 ag [] fun s=>K (.str s) ad [])))|_=>False)))|_=>False
noncomputable def Oz:List (TypeId×TypeId×Bool):=[(268,121,true),(268,126,true),(268,130,false)]
noncomputable def WV:List (FuncId×uu):=[(443,LI),(305,QA),(179,LG),(236,Mq),(170,Mf)]
noncomputable def ZV:List (FuncId×wx):=[(327,countP),(379,Xi),(246,aaM)]
noncomputable def pX:Env:=⟨tab,xc,Pr,ZV,WV,Oz,true⟩
def flat_get{α:Type}(aQ:List (List α)):∀{q r l x},(∀i rW,i<q->aQ[i]?=some rW->rW.length=16)->aQ[q]?=some l->l[r]?=some x->aQ.flatten[16*q+r]?=some x:=by induction aQ with|nil=>simp_all|cons a aQ ih=>intro q r l x hl h hx;cases q with|zero=>grind|succ q=>have ha:=hl 0 a G rfl;rw[List.flatten_cons,jf G,ha,show 16*(q+1)+r-16=16*q+r by omega];exact ih (fun i rW Q Nr=>hl (i+1) rW G (by simpa using Nr)) (by simpa using h) hx
def asd:(xc.dropLast.all fun l=>l.length==16)=true:=by kernel_rfl
def ajs:SQ prog xc:=by
 intro f l fn E F;have hq:∀i rW,i<Nat.div f 16->xc[i]?=some rW->rW.length=16:=fun i rW Q Nr=>by
  have ai:=(ao.1 E).1;have hm:rW∈xc.dropLast:=by rw[fx];refine⟨i,?_⟩;rw[List.getElem?_dropLast,au (by omega)];exact Nr
  have:=ir.1 asd rW hm;simpa using this
 have h:=flat_get xc hq E F;rw[ajt,show 16*Nat.div f 16+Nat.mod f 16=f from FK f 16,eF]at h;refine⟨h,?_⟩;have:=ir.1 aju fn (by grind);simpa using this
def anO:S6 prog Pr:=by intro e H w v;simp only[Pr,gE,v7,iE]at H;rcases H with rfl|rfl|rfl|rfl|rfl|rfl|rfl|rfl|rfl|rfl|rfl|rfl|rfl<;>kernel_rfl
end Go.Proofs.YtfkepgkmobgleaaGreatDoor
namespace Go.Proofs
open Go.Shelf Tryz Go.Sx Tryz
def laysM246_ren:Go.Shelf.Ren:=⟨fun|246=>170|283=>232|284=>233|285=>234|286=>235|129=>290|317=>289|318=>291|319=>292|320=>293|337=>337|338=>338|n=>n,fun|2=>2|3=>3|9=>9|4=>4|171=>400|0=>0|53=>235|37=>136|5=>5|173=>403|212=>443|51=>444|20=>20|213=>445|46=>158|232=>515|233=>516|n=>n,fun|17=>2|18=>8|19=>9|n=>n⟩
def laysM246:Go.Proofs.LaysM.n246 prog laysM246_ren where
 mixed:=by kernel_rfl
 f129:=tK func290
 f246:=tK func170
 f283:=tK func232
 f284:=tK func233
 f285:=tK func234
 f286:=tK func235
 f317:=tK func289
 f318:=tK func291
 f319:=tK func292
 f320:=tK func293
 f337:=tK func337
 f338:=tK func338
 t0:=underlying0
 a0:=isAgg0
 z0:=sizeOf0
 v0:=zeroValue0
 t2:=underlying2
 a2:=isAgg2
 z2:=sizeOf2
 v2:=zeroValue2
 t3:=underlying3
 a3:=isAgg3
 z3:=sizeOf3
 v3:=zeroValue3
 t4:=underlying4
 a4:=isAgg4
 z4:=sizeOf4
 v4:=zeroValue4
 t5:=underlying5
 a5:=isAgg5
 z5:=sizeOf5
 v5:=zeroValue5
 t9:=underlying9
 a9:=isAgg9
 z9:=sizeOf9
 v9:=zeroValue9
 t20:=underlying20
 a20:=isAgg20
 z20:=sizeOf20
 v20:=zeroValue20
 t37:=underlying136
 a37:=isAgg136
 z37:=sizeOf136
 v37:=zeroValue136
 t46:=underlying158
 a46:=isAgg158
 z46:=sizeOf158
 v46:=zeroValue158
 t51:=underlying444
 a51:=isAgg444
 z51:=sizeOf444
 v51:=zeroValue444
 t53:=underlying235
 a53:=isAgg235
 z53:=sizeOf235
 v53:=zeroValue235
 t171:=underlying400
 a171:=isAgg400
 z171:=sizeOf400
 v171:=zeroValue400
 t173:=underlying403
 a173:=isAgg403
 z173:=sizeOf403
 v173:=zeroValue403
 t212:=underlying443
 a212:=isAgg443
 z212:=sizeOf443
 v212:=zeroValue443
 t213:=underlying445
 a213:=isAgg445
 z213:=sizeOf445
 t232:=underlying515
 a232:=isAgg515
 z232:=sizeOf515
 v232:=zeroValue515
 t233:=underlying516
 a233:=isAgg516
 z233:=sizeOf516
 v233:=zeroValue516
 g17:=by kernel_rfl
 g18:=by kernel_rfl
 g19:=by kernel_rfl
 i0:=by kernel_rfl
 i2:=by kernel_rfl
 i3:=by kernel_rfl
 i4:=by kernel_rfl
 i5:=by kernel_rfl
 i9:=by kernel_rfl
 i20:=by kernel_rfl
 i37:=by kernel_rfl
 i46:=by kernel_rfl
 i51:=by kernel_rfl
 i53:=by kernel_rfl
 i171:=by kernel_rfl
 i173:=by kernel_rfl
 i212:=by kernel_rfl
 i232:=by kernel_rfl
 i233:=by kernel_rfl
 m17:=by kernel_rfl
 m18:=by kernel_rfl
 m19:=by kernel_rfl
def lays169_ren:Go.Shelf.Ren:=⟨fun|169=>114|n=>n,fun|70=>239|9=>9|0=>0|72=>241|37=>136|127=>349|3=>3|5=>5|n=>n,fun|n=>n⟩
def lays169:Go.Proofs.Lays.n169 prog lays169_ren where
 mixed:=by kernel_rfl
 f169:=tK func114
 t0:=underlying0
 a0:=isAgg0
 z0:=sizeOf0
 v0:=zeroValue0
 t3:=underlying3
 a3:=isAgg3
 z3:=sizeOf3
 v3:=zeroValue3
 t9:=underlying9
 a9:=isAgg9
 z9:=sizeOf9
 v9:=zeroValue9
 t37:=underlying136
 a37:=isAgg136
 z37:=sizeOf136
 v37:=zeroValue136
 t70:=underlying239
 a70:=isAgg239
 z70:=sizeOf239
 v70:=zeroValue239
 t72:=underlying241
 a72:=isAgg241
 z72:=sizeOf241
 v72:=zeroValue241
 t127:=underlying349
 a127:=isAgg349
 z127:=sizeOf349
 v127:=zeroValue349
def lays165_ren:Go.Shelf.Ren:=⟨fun|165=>171|240=>179|241=>236|276=>246|277=>294|n=>n,fun|70=>239|3=>3|0=>0|4=>4|9=>9|20=>20|72=>241|37=>136|164=>409|5=>5|n=>n,fun|n=>n⟩
def lays165:Go.Proofs.Lays.n165 prog lays165_ren where
 mixed:=by kernel_rfl
 f165:=tK func171
 f240:=tK func179
 f241:=tK func236
 f276:=tK func246
 f277:=tK func294
 t0:=underlying0
 a0:=isAgg0
 z0:=sizeOf0
 v0:=zeroValue0
 t3:=underlying3
 a3:=isAgg3
 z3:=sizeOf3
 v3:=zeroValue3
 t4:=underlying4
 a4:=isAgg4
 z4:=sizeOf4
 v4:=zeroValue4
 t9:=underlying9
 a9:=isAgg9
 z9:=sizeOf9
 v9:=zeroValue9
 t20:=underlying20
 a20:=isAgg20
 z20:=sizeOf20
 v20:=zeroValue20
 t37:=underlying136
 a37:=isAgg136
 z37:=sizeOf136
 v37:=zeroValue136
 t70:=underlying239
 a70:=isAgg239
 z70:=sizeOf239
 v70:=zeroValue239
 t72:=underlying241
 a72:=isAgg241
 z72:=sizeOf241
 v72:=zeroValue241
 t164:=underlying409
 a164:=isAgg409
 z164:=sizeOf409
 v164:=zeroValue409
end Go.Proofs
namespace Go.Sx
open Go.Sort
section
variable{P:Program}
def G5{w w'}{X}{g}{h}(O:Inv w X g h)(I:w'.os=w.os)(ht:w'.tape=w.tape)(b3:w'.output=w.output)(hs:w.heap.size<=w'.heap.size) (hw:∀u,u<w.heap.size->w'.heap[u]?=w.heap[u]?):Inv w' X g h/\Step g.length w g w' g:=by have hS:Step g.length w g w' g:=⟨I,ht,b3,hs,fun u U _=>hw u U,fun _ h _=>h,fun _ _ _ h _=>.inl h⟩;exact⟨⟨O.len,fun i b e M H=>(O.ok i b e M H).step hS (aC _) fun u U=>hw u (O.lt i e u H U),fun i e u H U=>fj (O.lt i e u H U) hs,O.inj,O.cU,fun u hx=>fj (O.df u hx) hs⟩,hS⟩
def ji.ts{f}{fn}{c}{l}{ad H'}{wr}{s}{K}(hf:P.funcs[f]?=some fn)(hn:(fn.name== "runtime.NumGoroutine")=false)(M:fn.body=some c) (o:K s H' wr)(hc:oH ad.view H'.view wr)(hle:ad.view.length<=H'.view.length) (a7:∀w X g vs,Inv w X g ad.view->b5 w (Ex X g) g l vs->Calls P f vs.toArray w fun e w'=>∃v,e=.returned v/\∃V,af w' (Ex X V) V s v/\Inv w' X V H'.view/\Step g.length w g w' V):ji P f l ad K:=
 ⟨s,H',wr,o,hc,hle,⟨fun w X g vs O D=>by
  have H:=Go.Proofs.enters_of hf hn M vs.toArray w
  unfold bO
  grind⟩⟩
def ji.ext{f}{l}{ad H'}{wr}{s}{K}(o:K s H' wr)(hc:oH ad.view H'.view wr)(hle:ad.view.length<=H'.view.length) (a7:∀w X g vs,Inv w X g ad.view->b5 w (Ex X g) g l vs->∃v w' V,(callFunc f vs.toArray).run P w=.ok (.value v) w'/\af w' (Ex X V) V s v/\Inv w' X V H'.view/\Step g.length w g w' V):ji P f l ad K:=
 ⟨s,H',wr,o,hc,hle,⟨fun w X g vs O D=>by
  have⟨v,w',V,E,F,h3,h4⟩:=a7 w X g vs O D
  unfold bO
  grind⟩⟩
end
end Go.Sx
namespace Go.Proofs.YtfkepgkmobgleaaGreatDoor
open Go.Sx Tryz
def ahY:∀f n{acc k},Cq f n acc k->k (Go.Lib.decDigits n++acc):=by
 intro f;induction f with
 |zero=>intro n acc k h;cases h
 |succ f ih=>
  intro n acc k h;have G6:=h;have E:=mf (k:=fun q=>iz (Nat.mod n 10) fun r=>Bool.rec (motive:=fun _=>Prop) (Cq f q (UInt8.ofNat (Nat.add 48 r)::acc) k) (k (UInt8.ofNat (Nat.add 48 r)::acc)) (Nat.beq q 0)) G6;have F:=mf (k:=fun r=>Bool.rec (Cq f (Nat.div n 10) (UInt8.ofNat (Nat.add 48 r)::acc) k) (k (UInt8.ofNat (Nat.add 48 r)::acc)) (Nat.beq (Nat.div n 10) 0)) E;cases hq:Nat.beq (Nat.div n 10) 0 with
  |true=>
   rw[hq]at F;have h0:n/10=0:=gS hq;have ai:n<10:=by omega
   rw[Go.Lib.decDigits_one ai];have:Nat.mod n 10=n:=Fq ai;simp_all
  |false=>
   rw[hq]at F;have h0:n/10≠0:=fun h=>by
    have:Nat.beq (Nat.div n 10) 0=true:=by show Nat.beq (n/10) 0=true;rw[h];rfl
    simp_all
   have hk:¬n<10:=G;have h3:=ih _ F;rw[Go.Lib.decDigits,dif_neg hk];have:(Go.Lib.decDigits (n/10)++[UInt8.ofNat (48+n % 10)])++acc=Go.Lib.decDigits (n/10)++UInt8.ofNat (48+n % 10)::acc:=sM;rw[this];exact h3
def apE(cs):∀{p k},P2 cs p k->k/\cs=(List.range cs.length).map fun i=>SV.int .u64 ((p*10 ^i:Nat):Int):=by
 induction cs with
 |nil=>intro p k h;exact⟨h,rfl⟩
 |cons s cs ih=>
  intro p k h;cases s with
  |int q v=>
   cases q<;>first|exact False.elim h|skip
   have⟨E,F⟩:=bL h
   have⟨h3,h4⟩:=bL F
   rw[DV]at h3
   have h3:=cZ h3
   have E:=gS E
   have⟨o,co⟩:=ih (mf h4)
   refine⟨o,?_⟩
   rw[pI,List.range_succ_eq_map,mI,pJ]
   congr 1
   ·grind
   ·rw[co]
    simp only[bh,Ft]
    apply k8
    grind
  |_=>exact False.elim h
def atV{cs}{k}(hl:cs.length=20)(h:P2 cs 1 k):k/\cs=Go.Lib.pow10Tab.map fun z=>SV.int .u64 z:=by have⟨o,co⟩:=apE cs h;refine⟨o,?_⟩;rw[co,hl];simp only[Go.Lib.pow10Tab,pJ];apply k8;intro i _;simp
def atY{w}{X}{g}{h}(O:Inv w X g h){T:TypeId}(M:h[0]?=some (.glob 2 T (Go.Lib.pow10Tab.map fun z=>SV.int .u64 z))):Go.Lib.TabIs prog w "internal/strconv.uint64pow10" .u64 Go.Lib.pow10Tab:=by
 have ai:0<g.length:=by rw[O.len];exact(ao.1 M).1
 have H:=aD ai;have aw:=O.ok 0 _ _ M H;cases ak:g[0]'ai<;>rw[ak]at aw H<;>simp only[aB]at aw;obtain⟨rfl,vs,E,F,h3⟩:=aw;have U:prog.globalNamed "internal/strconv.uint64pow10" =some 2:=by kernel_rfl
 unfold Go.Lib.TabIs World.var?;rw[U];simp only[Kr,E];congr 1;apply FN;intro i;rw[show((Go.Lib.pow10Tab.map fun z=>Value.int .u64 z).toArray)[i]?=(Go.Lib.pow10Tab[i]?).map (fun z=>Value.int .u64 z) by simp];have hl:vs.size=Go.Lib.pow10Tab.length:=by rw[<-F];simp
 by_cases Q:i<vs.size;have h4:(Go.Lib.pow10Tab.map fun z=>SV.int .u64 z)[i]?=some (.int .u64 (Go.Lib.pow10Tab[i]'(by omega))):=by rw[bz,aD (by omega)];rfl
 have:=(h3 i _ _ h4 (c4 Q)).1;rw[c4 Q,aD (by omega)];generalize vs[i]=v at this;cases this;rfl;simp_all
def ajd(l)(ad)(K)(h:Mf l ad K):ji prog 170 l ad K:=by
 unfold Mf at h;split at h;rename_i n m;have⟨E,h⟩:=bL h;obtain⟨F,h⟩:=bL h;obtain⟨h3,h⟩:=bL h;rw[mV]at h;obtain⟨aT,M,h⟩:=bg h;split at h;obtain⟨_,h⟩:=bL h;obtain⟨hl,h⟩:=b2 h;obtain⟨cF,co⟩:=atV hl h;have bi:=ahY (k:=fun s=>K (.str s) ad []) 20 n.toNat (mf (k:=fun ag=>Cq 20 ag [] fun s=>K (.str s) ad []) cF);rw[DV]at F h3;have F:=cZ F;have h3:=cZ h3;have E:=gS E;subst co;refine ji.ts (fn:=f170) (by kernel_rfl) Y rfl bi (oH.refl _ _) (aC _) fun w X g vs O D=>?_;obtain⟨x,y,rfl,r1,r2⟩:=vH D;cases r1;cases r2;have hm:m=10:=by omega
 subst hm;refine(Any.internal_strconv_FormatInt_10 laysM246 n (by omega) h3 w (atY O M)).mono fun e w'⟨H,k,os,hw⟩=>⟨_,H,g,?_⟩;have Q:Go.Lib.itoa n=Go.Lib.decDigits n.toNat++[]:=by unfold Go.Lib.itoa;rw[ay G];simp
 rw[Q];have:=G5 (w':=w') O (by rw[hw];rfl) (by rw[hw];rfl) (by rw[hw];rfl) (by simp_all) (fun u U=>by rw[hw];show(w.heap++os)[u]?=_;grind);exact⟨.str,this.1,this.2⟩;cases h;cases h
def X72:Builder.X72 prog lays165_ren where
 sizeBuilder:=by kernel_rfl
 liesBuilder:=by kernel_rfl
def S2:Lays.n240 prog lays165_ren:={lays165 with}
def Ey{w}{L}{g}{b aa u}{v}(ak:g[b]?=some (.fix u))(D:af w L g (.ptr b aa) v):v=.pointer (some ⟨u,aa,none⟩):=by cases D<;>simp_all
def agF(l)(ad)(K)(h:LG l ad K):ji prog 179 l ad K:=by
 unfold LG at h;split at h;rw[mV]at h;have⟨aT,M,h⟩:=bg h;split at h;have⟨hT,h⟩:=bL h;have hT:=gS hT;subst hT;obtain⟨H',o,ai,hv⟩:=ER h;refine ji.ts (fn:=f179) (by kernel_rfl) Y rfl o (fun i Q hn=>?_) (by rw[hv];simp) fun w X g vs O D=>?_;grind;obtain⟨v,rfl,r1⟩:=AZ D;obtain⟨u,cs,ak,U,hl,hc⟩:=sV O M;have lv:=Ey ak r1;subst lv;have jT:cs.size=2:=by simp at hl;omega
 have gc:cs[0]?=some (.pointer none):=by have:=hc 0 .nilp cs[0] rfl (c4 G);rw[c4 G];generalize cs[0]=ag at this;cases this.1;rfl
 refine(Any.Builder_copyCheck_fresh S2 X72 u w (by simp[World.cell?,U,gc]) (by simp[World.shape?,U,jT];rfl) (by simp[World.frozen?,U])).mono fun e w'⟨H,hw⟩=>⟨_,H,g,pr,?_⟩;rw[Sf w u 0 cs 241 (0,0) _ U]at hw;obtain⟨f1,f2,f3,f4,f5⟩:=qE (w:=w) (u:=u) (cs:=cs.setIfInBounds 0 (.pointer (some ⟨u,0,none⟩)));rw[hw,hv];have hS:=(pE ak rfl f1 f2 f3 f4 f5).any (m:=g.length);refine⟨pC O ak rfl f1 f2 f3 f4 f5 ⟨_,Kn w u cs _ 241 (0,0) U,by simpa using hl,fun i s ag hs hu=>?_⟩,hS⟩;match i with|0=>simp at hs;subst hs;rw[ad4 G]at hu;simp at hu;subst hu;exact⟨.ptr ak,rfl⟩|i+1=>rw[SK G]at hu;have:=hc (i+1) s ag (by simpa using hs) hu;exact⟨this.1.step hS (aC _),this.2⟩
 obtain⟨hbe,o⟩:=bL h;have aP:=gS hbe;subst aP;refine ji.ts (fn:=f179) (by kernel_rfl) Y rfl o (oH.refl _ _) (aC _) fun w X g vs O D=>?_;obtain⟨v,rfl,r1⟩:=AZ D;obtain⟨u,cs,ak,U,hl,hc⟩:=sV O M;have lv:=Ey ak r1;subst lv;have gc:cs[0]?=some (.pointer (some ⟨u,0,none⟩)):=by
  have jT:0<cs.size:=by rw[<-hl];simp
  have:=hc 0 _ cs[0] rfl (c4 jT);rw[c4 jT];congr 1;exact Ey ak this.1
 refine(Any.Builder_copyCheck_used S2 X72 u w (by simp[World.cell?,U,gc])).mono fun e w'⟨H,hw⟩=>⟨_,H,g,pr,?_⟩;rw[hw];exact⟨O,.refl _ _ _⟩;cases h;cases h
def asY{h:Hp}{x y:bK}:(h++[x]).set h.length y=h++[y]:=by simp_all
def T9{b}{ag:TypeId}{p}{es}{c}{ad}{K}(M:ad.view[b]?=some (fF p es c))(h:mn ad (fF p es c) fun n H'=>K (.ifc ag (.mp n)) H' []):ji prog 443 [.ifc ag (.mp b)] ad K:=by
 obtain⟨H',o,hv⟩:=vC h;refine ji.ext o (fun i Q _=>by grind) (by rw[hv];simp) fun w X g vs O D=>?_;obtain⟨x,ql,r1⟩:=AZ D;obtain⟨u,ms,ak,U,hM,gy⟩:=ly O M;have hx:x=.iface ag (.map (some u)):=by cases r1 with|ifc r2=>cases r2<;>simp_all
 rw[hx]at ql r1;have a7:(callFunc 443 #[.iface ag (.map (some u))]).run prog w=.ok (.value (.iface ag (.map (some w.heap.size)))) (w.alloc (.map ms c)):=by
  refine(Fo (e:=Extern.MapsClone.clone) (fn:=f443) (by kernel_rfl) Y Y Y Y _ w).trans ?_
  have e:Extern.MapsClone.clone #[.iface ag (.map (some u))]=(do
   let .map entries clock<-getObj u|stuck "maps.clone: a map expected"
   pure (.iface ag (.map (some (<-newObj (.map entries clock))))):Sem Value):=rfl
  rw[e];simp only[bJ,my U,cb];rfl
 have Ac:vs.toArray= #[.iface ag (.map (some u))]:=by rw[ql]
 rw[<-Ac]at a7;have⟨be,b_⟩:=O.fresh;have hf:(ad.view++[bK.fresh])[ad.view.length]?=some .fresh:=sM;have lX:=pM (w':=w.alloc (.map ms c)) be hf (e:=.obj w.heap.size) rfl rfl rfl rfl (aa:=.map ms c) rfl;have hl:=O.len;have hS:=b_.trans lX.any;have p1:=qW (w':=w.alloc (.map ms c)) be hf (e:=.obj w.heap.size) (b:=fF p es c) rfl rfl rfl rfl (aa:=.map ms c) rfl (by cases p with|true=>exact⟨ms,su w _,hM.1,fun i e m E F=>⟨(hM.2 i e m E F).1.step hS (aC _),(hM.2 i e m E F).2.1.step hS (aC _),(hM.2 i e m E F).2.2⟩⟩|false=>exact⟨ms,su w _,(gy rfl).1,fun i e m E F=>⟨((gy rfl).2 i e m E F).1.hP hS,((gy rfl).2 i e m E F).2.1.hP hS,((gy rfl).2 i e m E F).2.2⟩⟩);refine⟨_,_,(g++[ba.fresh]).set ad.view.length (.obj w.heap.size),a7,.ifc (.mp ?_),?_,hS⟩<;>simp_all
def agU(l)(ad)(K)(h:LI l ad K):ji prog 443 l ad K:=by unfold LI at h;split at h;rw[mV]at h;have⟨aT,M,h⟩:=bg h;split at h;exact T9 (p:=false) M h;exact T9 (p:=true) M h;cases h;cases h
end Go.Proofs.YtfkepgkmobgleaaGreatDoor
namespace Go.Sx
section
variable{P:Program}
def um(s:SV):Prop:=∀w w' L E' g V v,af w L g s v->af w' E' V s v
def q_:Nat->SV->Bool|n+1,.agg cs=>cs.all (q_ n)|n+1,.tup cs=>cs.all (q_ n)|n+1,.ifc _ s=>q_ n s|_,.int _ _=>true|_,.tt=>true|_,.ff=>true|_,.str _=>true|_,.nilp=>true|_,.nils=>true|_,.nilm=>true|_,.nili=>true|_,_=>false
def Gz:∀n s,q_ n s=true->um s:=by
 intro n;induction n with
 |zero=>intro s h w w' L E' g V v D;cases s<;>simp only[q_,dI]at h<;>(cases D<;>constructor)
 |succ n ih=>
  intro s h w w' L E' g V v D;cases s<;>simp only[q_,dI]at h;case agg cs=>cases D with|agg hl E hc=>exact .agg hl E fun i s v hs hv=>ih s (ir.1 h s (bN hs)) w w' L E' g V v (hc i s v hs hv)
  case tup cs=>cases D with|tup hl hc=>exact .tup hl fun i s v hs hv=>ih s (ir.1 h s (bN hs)) w w' L E' g V v (hc i s v hs hv)
  case ifc T s=>cases D with|ifc hc=>exact .ifc (ih s h w w' L E' g V _ hc)
  all_goals(cases D<;>constructor)
def aaz{l}(hl:∀s∈l,um s){w w'}{L E'}{g V}{vs}(h:b5 w L g l vs):b5 w' E' V l vs:=
 ⟨h.1,fun i s v hs hv=>hl s (bN hs) w w' L E' g V v (h.2 i s v hs hv)⟩
def oG.atn{f}{l}{s}{h'}(hc:oG P f l [] s h')(hl:∀x∈l,um x)(hs:um s)(h):oG P f l h s h:=by refine⟨fun w X g vs O D=>?_⟩;have kh:Inv w (Ex X g) [] []:=⟨rfl,sM,sM,sM,fun u _=>tE u,fun u hx=>by rcases hx with hx|⟨i,e,H,U⟩;exact O.df u hx;exact O.lt i e u H U⟩;refine(hc.ok w (Ex X g) [] vs kh (aaz hl D)).mono fun v w'⟨s1,E,V,⟨e1,_⟩,a1,a2,a3⟩=>?_;subst e1;have:=G5 O a3.os a3.tape a3.output a3.size fun u U=>a3.frame u U (tE u);exact⟨s1,h,g,⟨rfl,rfl⟩,hs _ _ _ _ _ _ _ a1,this.1,this.2⟩
def Ef(cs:List SV):Bool:=cs.all fun s=>match s with|.int _ _=>true|_=>false
def ama{w w'}{L E'}{g V}{cs}(M:Ef cs=true){vs cP:Array Value}(E:cs.length=vs.size)(CN:cs.length=cP.size) (h:∀(i:Nat)(s:SV)(v:Value),cs[i]?=some s->vs[i]?=some v->af w L g s v/\v.oneCell'=true) (h':∀(i:Nat)(s:SV)(v:Value),cs[i]?=some s->cP[i]?=some v->af w' E' V s v/\v.oneCell'=true):vs=cP:=by apply Array.ext G;intro i Q f_;have hc:cs[i]?=some (cs[i]'(by omega)):=aD _;have a:=(h i _ _ hc (c4 Q)).1;have b:=(h' i _ _ hc (c4 f_)).1;have o:=ir.1 M _ (Kq (by omega:i<cs.length));generalize cs[i]'G=s at a b o;cases s<;>simp only[dI]at o;generalize vs[i]=x at a;generalize cP[i]=y at b;cases a;cases b;rfl
noncomputable def B4:List UInt8->List UInt8->Bool:=
 List.rec (fun l=>match l with|[]=>true|_=>false)
  (fun x _ ih l=>match l with|[]=>false|y::t=>Bool.rec false (ih t) (Nat.beq x.toNat y.toNat))
def afM:∀{a b:List UInt8},B4 a b=true->a=b:=by
 intro a;induction a with
 |nil=>intro b h;cases b with|nil=>rfl|cons y t=>exact absurd h (by simp[B4])
 |cons x a ih=>intro b h;cases b with|nil=>exact absurd h (by simp[B4])|cons y t=>have h:Bool.rec (motive:=fun _=>Bool) false (B4 a t) (Nat.beq x.toNat y.toNat)=true:=h;cases hn:Nat.beq x.toNat y.toNat with|true=>rw[hn]at h;rw[ih h,UInt8.toNat_inj.1 (gS hn)]|false=>rw[hn]at h;simp at h
noncomputable def GL(a b:SV):Bool:=match a with|.int k n=>(match b with|.int k' n'=>Bool.rec false (uH n n') (yb k k')|_=>false)|.str s=>(match b with|.str s'=>B4 s s'|_=>false)|.tt=>(match b with|.tt=>true|_=>false)|.ff=>(match b with|.ff=>true|_=>false)|.nilp=>(match b with|.nilp=>true|_=>false)|.nils=>(match b with|.nils=>true|_=>false)|.nilm=>(match b with|.nilm=>true|_=>false)|.nili=>(match b with|.nili=>true|_=>false)|_=>false
def UJ{a b}(h:GL a b=true):a=b:=by
 cases a<;>simp only[GL,dI]at h<;>cases b<;>simp only[dI]at h<;>try rfl
 case int.int k n k' n'=>cases o:yb k k' with|true=>rw[o]at h;rw[zB]at h;rw[OI o,cZ h]|false=>simp_all
 case str.str s s'=>rw[afM h]
noncomputable def zC(f:SV->SV->Bool):List SV->List SV->Bool:=
 List.rec (fun l=>match l with|[]=>true|_=>false)
  (fun x _ ih l=>match l with|[]=>false|y::t=>Bool.rec false (ih t) (f x y))
def UG{f:SV->SV->Bool}(hf:∀{a b:SV},f a b=true->a=b):∀{a b:List SV},zC f a b=true->a=b:=by
 intro a;induction a with
 |nil=>intro b h;cases b with|nil=>rfl|cons y t=>exact absurd h (by simp[zC])
 |cons x a ih=>intro b h;cases b with|nil=>exact absurd h (by simp[zC])|cons y t=>have h:Bool.rec (motive:=fun _=>Bool) false (zC f a t) (f x y)=true:=h;cases hn:f x y with|true=>rw[hn]at h;rw[ih h,hf hn]|false=>rw[hn]at h;simp at h
noncomputable def UI(n:Nat):SV->SV->Bool:=
 Nat.rec GL (fun _ ih a b=>match a with
  |.agg l=>(match b with|.agg l'=>zC ih l l'|_=>false)
  |.tup l=>(match b with|.tup l'=>zC ih l l'|_=>false)
  |a=>GL a b) n
def aiq:∀n{a b},UI n a b=true->a=b:=by
 intro n;induction n with
 |zero=>intro a b h;exact UJ h
 |succ n ih=>
  intro a b h;cases a;case agg l=>
   cases b;case agg l'=>rw[UG (fun h=>ih h) h]
   all_goals exact absurd h Bool.false_ne_true
  case tup l=>
   cases b;case tup l'=>rw[UG (fun h=>ih h) h]
   all_goals exact absurd h Bool.false_ne_true
  all_goals exact UJ h
noncomputable def ya(s0:SV):qR:=fun s _ wr=>bo (UI 3 s s0) (bo (Bool.rec true false (jy 0 wr)) True)
def Xr{s0 s}{ad}{wr}(h:ya s0 s ad wr):s=s0/\0∉wr:=by
 have⟨E,F⟩:=bL h;have⟨h3,_⟩:=bL F;refine⟨aiq 3 E,fun hm=>?_⟩;have:jy 0 wr=true:=by clear h E F h3;induction wr with|nil=>simp at hm|cons x l ih=>show Bool.rec (jy 0 l) true (Nat.beq x 0)=true;rcases gE.1 hm with rfl|hm;rfl;cases Nat.beq x 0<;>simp_all
 simp_all
variable{aH:Env}
end
section
variable{P:Program}
def nQ(u:Nat)(T:TypeId)(cw:Array Value):fy:=fun w ci=>(∀k,ci k↔k=u)/\w.heap[u]?=some (.cells cw T (0,0))
def ajL{u}{T:TypeId}{cw}:gv (nQ u T cw):=fun _ _ _⟨E,F⟩U _=>⟨E,(U u ((E u).2 rfl)).trans F⟩
def F7(cs:List SV)(cw:Array Value):Prop:=cs.length=cw.size/\∀(i:Nat)(s:SV)(v:Value),cs[i]?=some s->cw[i]?=some v->∃k n,s=.int k n/\v=.int k n
def oG.glob{f}{l}{s}{h'}{u}{T:TypeId}{cs}{cw}(hc:oG P f l [.glob u T cs] s h')(h0:h'[0]?=some (.glob u T cs))(M:Ef cs=true)(hl:∀x∈l,um x)(hs:um s) (hn:F7 cs cw){w}{X}{g}{h}{vs}(O:Inv w X g h)(D:b5 w (Ex X g) g l vs)(U:w.heap[u]?=some (.cells cw T (0,0)))(I:bM g u):bO P (callFunc f vs.toArray) w fun v w'=>af w' (Ex X g) g s v/\Inv w' X g h/\Step g.length w g w' g:=by
 have MI:∀k,Ex (fun k=>Ex X g k/\k≠u) [.fix u] k↔Ex X g k:=fun k=>by
  constructor;rintro(h|⟨i,e,E,F⟩);exact h.1;cases i with|zero=>simp at E;subst E;have F:u=k:=F;subst F;exact .inr I|succ i=>simp at E
  intro h;by_cases o:k=u;subst o;exact .inr ⟨0,.fix k,rfl,rfl⟩;exact .inl ⟨h,o⟩
 have kh:Inv w (fun k=>Ex X g k/\k≠u) [.fix u] [.glob u T cs]:=by
  refine⟨rfl,fun i b e E F=>?_,fun i e k E F=>?_,fun i j e e' k E F _ _=>?_,fun k o I=>?_,fun k o=>?_⟩;cases i with|zero=>simp at E F;subst E;subst F;refine⟨rfl,cw,U,hn.1,fun i s v hs hv=>?_⟩;obtain⟨k,n,rfl,rfl⟩:=hn.2 i s v hs hv;exact⟨.int,rfl⟩|succ i=>simp at E
  cases i with|zero=>simp at E;subst E;have F:u=k:=F;grind|succ i=>simp at E
  grind;obtain⟨i,e,E,F⟩:=I;cases i with|zero=>simp at E;subst E;exact o.2 F.symm|succ i=>simp at E
  rcases o.1 with hx|⟨i,e,E,F⟩;exact O.df k hx;exact O.lt i e k E F
 refine bO.mono (hc.ok w _ [.fix u] vs kh (aaz hl D)) fun v w'⟨s1,E,V,⟨e1,e2⟩,a1,a2,a3⟩=>?_;subst e1;subst e2;have qa:0<V.length:=by rw[a2.len];exact(ao.1 h0).1
 have aK:V[0]?=some (V[0]'qa):=aD qa;have NF:=a2.ok 0 _ _ h0 aK;have tf:∀k,k<w.heap.size->w'.heap[k]?=w.heap[k]?:=fun k o=>by by_cases xC:k=u;subst xC;generalize V[0]'qa=e at NF;cases e<;>simp only[aB]at NF;obtain⟨rfl,cP,b1,c0,i6⟩:=NF;rw[b1,U,ama (w:=w) (L:=fun _=>False) (g:=[]) M hn.1 c0 (fun i s v hs hv=>by obtain⟨k,n,rfl,rfl⟩:=hn.2 i s v hs hv;exact⟨.int,rfl⟩) i6];refine a3.frame k o fun⟨i,e,E,F⟩=>?_;cases i with|zero=>simp at E;subst E;exact xC F.symm|succ i=>simp at E
 have:=G5 O a3.os a3.tape a3.output a3.size tf;exact⟨hs _ _ _ _ _ _ _ a1,this.1,this.2⟩
def aL.glob{f}{l}{s}{h'}{u}{T:TypeId}{cs}{cw}(hc:oG P f l [.glob u T cs] s h')(h0:h'[0]?=some (.glob u T cs))(M:Ef cs=true)(hl:∀x∈l,um x)(hs:um s) (hn:F7 cs cw):aL P f l (nQ u T cw) s (nQ u T cw):=by
 have core:∀w X g h p vs,h[p]?=some (.asn (nQ u T cw))->Inv w X g h->b5 w (Ex X g) g l vs->
  bO P (callFunc f vs.toArray) w fun v w'=>∃s' h' V,(s'=s/\h'=h.set p (.asn (nQ u T cw)))/\af w' (Ex X V) V s' v/\Inv w' X V h'/\Step g.length w g w' V/\V.length=g.length:=by
  intro w X g h p vs hp O D
  have ai:p<g.length:=by rw[O.len];exact(ao.1 hp).1
  have H:=aD ai
  have aw:=O.ok p _ _ hp H
  generalize g[p]=e at H aw
  cases e<;>simp only[aB]at aw
  obtain⟨⟨hO,U⟩,_⟩:=aw
  have rM:h.set p (.asn (nQ u T cw))=h:=by
   apply jh
   intro i
   rw[bu]
   by_cases Q:p=i
   ·grind
   ·rw[ay Q]
  exact bO.mono (hc.glob h0 M hl hs hn O D U ⟨p,_,H,(hO u).2 rfl⟩) fun v w'⟨a,b,c⟩=>⟨s,h,g,⟨rfl,rM.symm⟩,a,b,c,rfl⟩
 exact⟨fun h p hp=>⟨fun w X g vs O D=>bO.mono (core w X g h p vs hp O D) fun v w'⟨s',h',V,a,b,c,d,_⟩=>⟨s',h',V,a,b,c,d⟩⟩,fun w X g h p vs hp O D=>Ej rfl (core w X g h p vs hp O D)⟩
def aL.Eh{aH}(hV:ka P aH)(fuel){f}{args}{s}{u}{T:TypeId}{cs}{ad:HW}{cw}(iR:ad.view=[.glob u T cs])(o:oP P aH (EL P aH fuel) f args ad (ya s)=True)(M:Ef cs=true)(hl:(args.all (q_ 3))=true)(hs:q_ 3 s=true) (hn:F7 cs cw):aL P f args (nQ u T cw) s (nQ u T cw):=by have⟨s1,H',wr,E,xu,_,hc⟩:=TU hV fuel (of_eq_true o);obtain⟨rfl,lq⟩:=Xr E;have h0:=xu 0 (by rw[iR];simp) lq;rw[iR]at hc h0;exact aL.glob hc (by rw[h0];rfl) M (fun x hx=>Gz 3 x (ir.1 hl x hx)) (Gz 3 s1 hs) hn
end
