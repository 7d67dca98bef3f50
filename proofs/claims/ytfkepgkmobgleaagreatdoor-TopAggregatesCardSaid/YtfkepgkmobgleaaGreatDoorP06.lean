/- Lemmas for TopZ; tactic blocks in binders fill in some arguments. -/
import Derived.Test.YtfkepgkmobgleaaGreatDoorP05
set_option linter.all false
noncomputable section
namespace Go.Sx
section
variable{P:Program} {T:aG}
def wm(b:bK):Prop:=match b with|.fix _ cs=>∀s∈cs,eK s|.fresh=>False|.prow _ _ _=>False|.pmap _ _=>False|.mit _ _ _ _=>False|.tail _ _ _=>False|_=>True
def acA{ab:Prop}(k:ab:=by have⟨iX,ms,E,F,h3⟩:=h;exact⟨iX,ms,E,F,fun i e m aK bq=>⟨(h3 i e m aK bq).1,(h3 i e m aK bq).2.1.le hE [],(h3 i e m aK bq).2.2⟩⟩):ab:=k
def acB{ab:Prop}(k:ab:=by have⟨ms,E,F,h3⟩:=h;exact⟨ms,E,F,fun i e m aK bq=>⟨(h3 i e m aK bq).1.le hE [],(h3 i e m aK bq).2.1.le hE [],(h3 i e m aK bq).2.2⟩⟩):ab:=k
def aB.free{w}{L E'}{g V}{b}{e}(h:aB w L g b e)(M:wm b)(hE:∀u,E' u->L u):aB w E' V b e:=by
 cases b<;>cases e<;>simp only[aB]at h⊢;case fix.fix=>have⟨vs,E,F,h3⟩:=h;exact⟨vs,E,F,fun i s v hs hv=>⟨(M s (bN hs) w L g [] v (h3 i s v hs hv).1).le hE V,(h3 i s v hs hv).2⟩⟩
 case row.row=>have⟨E,F,h3,h4,vs,h5,h6,h7⟩:=h;exact RZ
 case mapB.obj=>exact acB
 case imap.obj=>exact acA
 case glob.fix=>have⟨h0,vs,E,F,h3⟩:=h;exact adZ
 all_goals first|exact M.elim|exact h
def acU{ab:Prop}(k:ab:=by have⟨v,a,b,c⟩:=(h7 i e H).2 j s hs;exact⟨v,a,b.mono V (fun _ _ _=>rfl) (aC _) (fun u _ hn h=>hn (hE u h)) ak,c⟩):ab:=k
def aB.le{w}{L E'}{g V}{b}{e}(h:aB w L g b e)(hE:∀u,E' u->L u) (ak:∀(i:Nat)(e:ba),g[i]?=some e->¬e.loose->V[i]?=some e\/V[i]?=some .dead):aB w E' V b e:=by
 cases b<;>cases e<;>simp only[aB]at h⊢;case fix.fix=>have⟨vs,E,F,h3⟩:=h;exact⟨vs,E,F,fun i s v hs hv=>⟨(h3 i s v hs hv).1.mono V (fun _ _ _=>rfl) (aC _) (fun u _ hn h=>hn (hE u h)) ak,(h3 i s v hs hv).2⟩⟩
 case row.row=>have⟨E,F,h3,h4,vs,h5,h6,h7⟩:=h;exact RZ
 case prow.row=>have⟨E,F,h3,h4,vs,h5,h6,h7⟩:=h;refine⟨E,F,h3,h4,vs,h5,h6,fun i e H=>⟨(h7 i e H).1,fun j s hs=>?_⟩⟩;exact acU
 case mapB.obj=>exact acB
 case imap.obj=>exact acA
 case tail.row=>have⟨E,F,h3,h4,vs,h5,h6,h7,h8⟩:=h;refine⟨E,F,h3,h4,vs,h5,h6,fun i e H=>⟨(h7 i e H).1,fun j s hs=>?_⟩,h8⟩;exact acU
 case glob.fix=>have⟨h0,vs,E,F,h3⟩:=h;exact adZ
 case pmap.obj=>
  have⟨ms,E,F,h3⟩:=h
  exact⟨ms,E,F,fun i e m aK bq=>⟨(h3 i e m aK bq).1.mono V (fun _ _ _=>rfl) (aC _) (fun u _ hn h=>hn (hE u h)) ak,
   (h3 i e m aK bq).2.1.mono V (fun _ _ _=>rfl) (aC _) (fun u _ hn h=>hn (hE u h)) ak,(h3 i e m aK bq).2.2⟩⟩
 case mit.obj mb _ _ _ _=>have⟨r,E,F⟩:=h;refine⟨r,E,?_⟩;cases mb with|none=>exact F|some b=>rcases F with⟨g',F,h3⟩|F;simp_all;exact .inr ((ak b _ F sM).elim id id)
 all_goals exact h
def Jv{w}{L E'}{g V}{t:TypeId}{z}{es}{b}{e}{v}(ak:g[b]?=some e)(aw:aB w L g (.row t z es) e) (hle:∀u,E' u->L u)(hE:∀u,e.owns u->¬E' u)(ai:∀u,e.owns u->u<w.heap.size)(D:af w L g (.sl b) v):af w E' V (.rs z es) v:=by
 cases D with
 | @sl _ _ u sz n cap hs=>
  rw[ak]at hs;simp at hs;subst hs;obtain⟨E,F,h3,h4,vs,h5,h6,h7⟩:=aw;subst E;subst F;refine .rs (val:=fun i j=>(vs[i*sz+j]?).getD Go.undef) h3 h4 (hE u rfl) (ai u rfl) (fun i e H=>(h7 i e H).1) (fun i e j s H hs=>?_) (fun i e j s H hs=>?_) (fun i e j s H hs=>?_);all_goals obtain⟨v,a,b,c⟩:=(h7 i e H).2 j s hs
  have⟨fr,h5,_⟩:=h5;rw[oQ h5,jE,a];rfl;rw[a];exact c;rw[a];exact b.le hle []
 |dE hs=>rw[ak]at hs;simp at hs;subst hs;have:es=[]:=aw;subst this;exact .hJ (cx _)
 |c9 hs=>rw[ak]at hs;simp at hs;subst hs;exact aw.elim
def Inv.kill{w}{X}{g}{h}(O:Inv w X g h)(m b):Inv w X (g.set b .dead) (h.set b .dead)/\Step m w g w (g.set b .dead)/\(∀u,bM (g.set b .dead) u->∃i e,i≠b/\g[i]?=some e/\e.owns u):=by
 have bc:∀i e,(g.set b .dead)[i]?=some e->(i=b/\e=.dead)\/(i≠b/\g[i]?=some e):=by intro i e H;rw[bu]at H;by_cases nU:b=i;simp_all;grind
 have br:∀u,bM (g.set b .dead) u->∃i e,i≠b/\g[i]?=some e/\e.owns u:=by rintro u ⟨i,e,H,U⟩;rcases bc i e H with⟨_,rfl⟩|⟨E,F⟩;simp[ba.owns]at U;grind
 have hE:∀u,Ex X (g.set b .dead) u->Ex X g u:=fun u hx=>hx.elim .inl fun I=>by exact adm
 have xB:∀(i:Nat)(e:ba),g[i]?=some e->¬e.loose->(g.set b .dead)[i]?=some e\/(g.set b .dead)[i]?=some .dead:=by intro i e H _;rw[bu];by_cases nU:b=i;grind;simp_all
 refine⟨⟨by simp[O.len],fun i bw e M H=>?_,fun i e u H U=>?_,fun i j e e' u Q hj U bP=>?_,fun u hx I=>?_,O.df⟩,⟨rfl,rfl,rfl,aC _,fun _ _ _=>rfl,fun u I _=>?_,fun i e _ H hf=>xB i e H hf⟩,br⟩;rcases bc i e H with⟨rfl,rfl⟩|⟨E,F⟩;exact axQ;rw[bu,ay (fun e=>E e.symm)]at M;exact(O.ok i bw e M F).le hE xB;rcases bc i e H with⟨_,rfl⟩|⟨_,F⟩;simp[ba.owns]at U;exact O.lt i e u F U;exact ace;have⟨i,e,_,H,U⟩:=br u I;exact O.cU u hx ⟨i,e,H,U⟩;have⟨i,e,_,H,U⟩:=br u I;exact⟨i,e,H,U⟩
def wE(k:Nat)(h:Hp)(s s':SV):Prop:=∀w X g E' v,Inv w X g h->(∀u,E' u->Ex X g u)->
 (∀i e u,k<=i->g[i]?=some e->e.owns u->¬E' u)->af w (Ex X g) g s v->af w E' [] s' v
def wE.nd{k}{h}{s s'}(hf:∀w L g v,af w L g s v->af w L [] s' v):wE k h s s':=fun w _ g _ v _ hE _ D=>(hf w _ g v D).le hE []
def IX(k:Nat)(h:Hp)(s:SV)(K:SV->Prop):Prop:=
 match s with
 |.sl b=>og k b (av h b fun aT=>match aT with|.row _ z es=>K (.rs z es)|_=>False)
 |.tt=>K (.bool true)|.ff=>K (.bool false)|.bool b=>K (.bool b)
 |.int q n=>K (.int q n)|.str s=>K (.str s)|.nilp=>K .nilp|.nils=>K .nils|.rs z es=>K (.rs z es)|.rp z es i f=>K (.rp z es i f)
 |.ra u aa=>K (.ra u aa)|.rl u n c=>K (.rl u n c)|.any=>K .any
 |_=>False
def aoY(k:Nat)(h:Hp)(l:List SV):(List SV->Prop)->Prop:=
 List.rec (fun K=>K []) (fun x _ ih K=>IX k h x fun y=>ih fun r=>K (y::r)) l
def PO(k:Nat)(h:Hp)(s:SV)(K:SV->Prop):Prop:=
 match s with
 |.agg cs=>aoY k h cs fun c=>K (.agg c)
 |s=>IX k h s K
def ao0(k:Nat)(h:Hp)(l:List SV):(List SV->Prop)->Prop:=
 List.rec (fun K=>K []) (fun x _ ih K=>PO k h x fun y=>ih fun r=>K (y::r)) l
def IY(k:Nat)(h:Hp)(s:SV)(K:SV->Prop):Prop:=
 match s with
 |.tup vs=>ao0 k h vs fun l=>K (.tup l)
 |s=>PO k h s K
def Zk{k}{h}{s}{K}(o:IX k h s K):∃s',K s'/\wE k h s s'/\eK s':=by
 unfold IX at o;split at o;case h_1 b=>have⟨Hy,o⟩:=qq o;have⟨aT,M,o⟩:=bg o;cases aT with|row t z es=>exact adQ|_=>cases o
 all_goals first|cases o|exact⟨_,o,.nd fun w L g v D=>by(cases D<;>first|(constructor;done)|(constructor<;>assumption)),fun w L g V v D=>by(cases D<;>first|(constructor;done)|(constructor<;>assumption))⟩
def aex(k:Nat)(h:Hp)(l l':List SV):Prop:=l.length=l'.length/\∀(i:Nat)(s s':SV),l[i]?=some s->l'[i]?=some s'->wE k h s s'
def ZA{k}{h}{f:SV->(SV->Prop)->Prop}(hf:∀{s K},f s K->∃s',K s'/\wE k h s s'/\eK s')(l):∀{K},List.rec (fun K=>K []) (fun x _ ih K=>f x fun y=>ih fun r=>K (y::r)) l K->∃l',K l'/\aex k h l l'/\∀s∈l',eK s:=by induction l with|nil=>intro K h;exact⟨[],h,⟨rfl,sM⟩,sM⟩|cons x l ih=>intro K h;have⟨y,h,hy,hfy⟩:=hf h;have⟨l',h,⟨hl,dg⟩,g8⟩:=ih h;refine⟨y::l',h,⟨by simp[hl],fun i s s' hs bW=>?_⟩,fun s hs=>?_⟩<;>grind
def Zp{k}{h}{s}{K}(o:PO k h s K):∃s',K s'/\wE k h s s'/\eK s':=by cases s with|agg cs=>have⟨l,o,⟨hl,kV⟩,dp⟩:=ZA Zk cs o;exact BB|_=>exact Zk o
def aoQ{k}{h}{s}{K}(o:IY k h s K):∃s',K s'/\wE k h s s'/\eK s':=by cases s with|tup cs=>have⟨l,o,⟨hl,kV⟩,dp⟩:=ZA Zp cs o;exact Kj|_=>exact Zp o
end
section
variable{P:Program} {T:aG}
structure eL(P:Program)(f:FuncId)(args:List SV)(am:Hp)(R:SV->Hp->Prop):Prop where
 fin:∀b∈am,wm b
 ok:∀(w:World)(X:Nat->Prop)(g:Sg)(vs:List Value),Inv w X g am->b5 w (Ex X g) g args vs->bO P (callFunc f vs.toArray) w fun v w'=>
  ∃s I V,R s I/\I.length=am.length/\eK s/\(∀b∈I,wm b)/\af w' (Ex X V) [] s v/\Inv w' X V I/\Step am.length w g w' V
def ajl(b:bK)(k:Prop):Prop:=match b with|.fix _ cs=>qB cs k|.row _ _ _=>k|.dead=>k|_=>False
def CK(l:Hp)(k:Prop):Prop:=List.rec k (fun b _ ih=>ajl b ih) l
def U7{l}{k}(h:CK l k):k/\∀b∈l,wm b:=by
 induction l with
 |nil=>exact⟨h,sM⟩
 |cons b l ih=>
  have h:=h;have key:CK l k/\wm b:=by cases b with|fix t cs=>obtain⟨E,F⟩:=Ez h;exact⟨E,F⟩|row t z es=>exact⟨h,trivial⟩|dead=>exact⟨h,trivial⟩|_=>cases h
  simp_all
def Inv.cut{w}{X}{g}{h}(O:Inv w X g h)(k)(hf:∀b∈h.take k,wm b):Inv w X (g.take k) (h.take k)/\(∀u,bM (g.take k) u->bM g u):=by
 have bc:∀i e,(g.take k)[i]?=some e->i<k/\g[i]?=some e:=by intro i e H;rw[je]at H;split at H;simp_all;simp at H
 have br:∀u,bM (g.take k) u->bM g u:=fun u⟨i,e,H,U⟩=>⟨i,e,(bc i e H).2,U⟩;refine⟨⟨by simp[O.len],fun i b e M H=>?_,fun i e u H U=>O.lt i e u (bc i e H).2 U,fun i j e e' u Q hj U bP=>O.inj i j e e' u (bc i e Q).2 (bc j e' hj).2 U bP,fun u hx I=>O.cU u hx (br u I),O.df⟩,br⟩;have zP:=hf b (bN M);rw[je]at M;split at M;exact(O.ok i b e M (bc i e H).2).free zP fun u hx=>hx.elim .inl fun I=>.inr (br u I);simp at M
def eL.Zd{f}{args}{am}{R}(C7:∀b∈am,wm b) (hc:aq P f args am fun s h'=>IY am.length h' s fun s'=>mD am.length h' fun I=>CK I (R s' I)):eL P f args am R:=by refine⟨C7,fun w X g vs O D=>(hc.ok w X g vs O D).mono fun v w'⟨s,h',V,o,bb,aE,hS⟩=>?_⟩;have⟨s',o,kV,jP⟩:=aoQ o;have⟨hlen,o⟩:=yB o;have⟨hR,zP⟩:=U7 o;have⟨be,br⟩:=aE.cut am.length zP;have hE:∀u,Ex X (V.take am.length) u->Ex X V u:=fun u hx=>hx.elim .inl fun I=>.inr (br u I);refine⟨s',_,V.take am.length,hR,by simp[hlen],jP,zP,kV w' X V _ v aE hE (fun i e u Q H U hx=>?_) bb,be,⟨hS.os,hS.tape,hS.output,hS.size,hS.frame,fun u I U=>hS.gG u (br u I) U,fun i e Q H hf=>?_⟩⟩;rcases hx with hx|⟨j,e',aK,bP⟩;exact aE.cU u hx ⟨i,e,H,U⟩;rw[je]at aK;split at aK;have:=aE.inj i j e e' u H aK U bP;omega;simp at aK;rw[je,au Q];exact hS.g_ i e (by grind) H hf
def eL.mono{f}{args}{am}{R R'}(hs:eL P f args am R)(D:∀s h,R s h->R' s h):eL P f args am R':=
 ⟨hs.fin,fun w X g vs O DB=>(hs.ok w X g vs O DB).mono fun _ _⟨s,I,V,E,F⟩=>⟨s,I,V,D _ _ E,F⟩⟩
def Lh(A:List Nat)(s s':SV)(k:Prop):Prop:=
 match s with
 |.ptr b aa=>match s' with|.ptr b' o'=>av A b fun j=>bd j b' (bd aa o' k)|_=>False
 |.sl b=>match s' with|.sl b'=>av A b fun j=>bd j b' k|_=>False
 |s=>s'=s/\mU s k
def wK(A:List Nat)(l:List SV):List SV->Prop->Prop:=
 List.rec (fun l' k=>List.rec k (fun _ _ _=>False) l')
  (fun s _ ih l' k=>List.rec False (fun s' t' _=>Lh A s s' (ih t' k)) l') l
def DP(h:Hp)(A:List Nat):Hp->Prop->Prop:=
 List.rec (fun am k=>List.rec k (fun _ _ _=>False) am)
  (fun j _ ih am k=>List.rec False (fun b t _=>av h j fun b'=>b'=b/\ih t k) am) A
def Tz(A:List Nat):Hp->Hp->(Hp->Prop)->Prop:=
 List.rec (fun _ h K=>K h)
  (fun j _ ih I h K=>List.rec False (fun b t _=>gg h j b fun h'=>ih t h' K) I) A
def back(A:List Nat)(I h:Hp):Hp:=bF (A.zip I) h
def afF(A):∀{I h K},Tz A I h K->K (back A I h):=by induction A with|nil=>intro I h K o;exact o|cons j A ih=>intro I h K o;cases I with|nil=>cases o|cons b I=>exact ih (jb o).2
def Xl{h}(A):∀{am k},DP h A am k->k/\A.length=am.length/\∀(i j:Nat)(b:bK),A[i]?=some j->am[i]?=some b->h[j]?=some b:=by
 induction A with
 |nil=>intro am k o;cases am with|nil=>exact⟨o,rfl,sM⟩|cons b t=>cases o
 |cons j A ih=>intro am k o;cases am with|nil=>cases o|cons b t=>have⟨b',M,e,aU⟩:=bg o;subst e;have⟨o,hl,D⟩:=ih aU;grind
def k4(g:Sg)(A:List Nat):Sg:=A.map fun j=>g.getD j .dead
def afi{A}{s s'}{k}(h:Lh A s s' k):k/\∀w L E' g v,(∀u,E' u->L u)->(∀j∈A,j<g.length)->af w L g s' v->af w E' (k4 g A) s v:=by
 have uZ:∀(g:Sg)(b j:Nat)(e:ba),A[b]?=some j->g[j]?=some e->(k4 g A)[b]?=some e:=by intro g b j e M H;simp[k4,M,List.getD,H]
 have same:∀{s s' k},(s'=s/\mU s k)->k/\∀w L E' g v,(∀u,E' u->L u)->(∀j∈A,j<g.length)->af w L g s' v->af w E' (k4 g A) s v:=by intro s s' k ⟨e,h⟩;subst e;have⟨h,hf⟩:=xa h;exact⟨h,fun w L E' g v hE _ D=>(hf w L g [] v D).le hE _⟩
 cases s with
 |ptr b aa=>
  cases s' with
  |ptr b' o'=>have⟨j,hj,h⟩:=bg h;have⟨e1,h⟩:=b2 h;have⟨e2,F⟩:=b2 h;subst e1;subst e2;refine⟨F,fun w L E' g v _ _ D=>?_⟩;cases D with|ptr U=>exact .ptr (uZ g b _ _ hj U)|eD U=>exact .eD (uZ g b _ _ hj U)
  |_=>cases h
 |sl b=>
  cases s' with
  |sl b'=>have⟨j,hj,h⟩:=bg h;have⟨e1,F⟩:=b2 h;subst e1;refine⟨F,fun w L E' g v _ _ D=>?_⟩;cases D with|sl U=>exact .sl (uZ g b _ _ hj U)|dE U=>exact .dE (uZ g b _ _ hj U)|c9 U=>exact .c9 (uZ g b _ _ hj U)
  |_=>cases h
 |_=>exact same h
def afl{A}(l):∀{l' k},wK A l l' k->k/\∀w L E' g vs,(∀u,E' u->L u)->(∀j∈A,j<g.length)->b5 w L g l' vs->b5 w E' (k4 g A) l vs:=by
 induction l with
 |nil=>intro l' k h;cases l' with|nil=>exact⟨h,fun w L E' g vs _ _ D=>⟨D.1,sM⟩⟩|cons x t=>cases h
 |cons s l ih=>intro l' k h;cases l' with|nil=>cases h|cons s' l'=>have⟨h,E⟩:=afi h;have⟨h,F⟩:=ih h;refine⟨h,fun w L E' g vs hE aF D=>?_⟩;cases vs with|nil=>exact absurd D.1 sM|cons v vs=>exact Qp (E w L E' g v hE aF (D.2 0 _ _ rfl rfl)) (F w L E' g vs hE aF ⟨by simpa using D.1,fun i a c ha hc=>D.2 (i+1) a c (by simpa using ha) (by simpa using hc)⟩)
def abH(l:List (Nat×bK)):∀{h},(l.map (·.1)).Nodup->∀p∈l,p.1<h.length->(bF l h)[p.1]?=some p.2:=by
 induction l with
 |nil=>simp_all
 |cons q l ih=>
  intro h hn p hp ai;rw[mI,SG]at hn;rcases gE.1 hp with rfl|hp;have:(bF l (h.set p.1 p.2))[p.1]?=(h.set p.1 p.2)[p.1]?:=oB l fun r D H=>hn.1 (by grind);show(bF l (h.set p.1 p.2))[p.1]?=_;simp_all
  exact ih (h:=h.set q.1 q.2) hn.2 p hp (by simpa using ai)
end
section
structure uB(m:Nat)(ok:Nat->Bool)(aA:List (Nat×Nat))(g V:Sg):Prop where
 old:∀(i:Nat)(e:ba),i<m->ok i=true->g[i]?=some e->¬e.loose->V[i]?=some e
 new:∀(a j:Nat)(e:ba),(a,j)∈aA->g[a]?=some e->V[j]?=some e
def hX(m:Nat)(ok:Nat->Bool)(aA:List (Nat×Nat))(s s':SV):Prop:=
 ∀w L E' g V v,uB m ok aA g V->(∀u,E' u->L u)->af w L g s v->af w E' V s' v
def Ln(a:Nat)(aA:List (Nat×Nat))(k:Nat->Prop):Prop:=
 List.rec (motive:=fun _=>Prop) False (fun p _ ih=>dy (Nat.beq p.1 a) (k p.2) ih) aA
def afw{a}(aA:List (Nat×Nat)){k}(h:Ln a aA k):∃j,(a,j)∈aA/\k j:=by induction aA with|nil=>cases h|cons p aA ih=>rcases gk (show dy (Nat.beq p.1 a) (k p.2) (Ln a aA k)from h)with⟨M,E⟩|⟨_,h⟩;have M:=gS M;grind;grind
def qD(m:Nat)(ok:Nat->Bool)(aA:List (Nat×Nat))(b:Nat)(k:Nat->Prop):Prop:=dy (Nat.ble m b) (Ln b aA k) (bo (ok b) (k b))
def tQ{m}{ok}{aA}{b}{k}(h:qD m ok aA b k):∃j,k j/\∀g V e,uB m ok aA g V->g[b]?=some e->¬e.loose->V[j]?=some e:=by
 rcases gk h with⟨M,h⟩|⟨M,h⟩;obtain⟨j,E,F⟩:=afw aA h;exact⟨j,F,fun g V e ht H _=>ht.new b j e E H⟩;have ai:b<m:=by rcases nD b m with h'|h';exact h';rw[Fk h']at M;simp at M
 obtain⟨aw,h⟩:=bL h;exact⟨b,h,fun g V e ht H hf=>ht.old b e ai aw H hf⟩
def A1(m:Nat)(ok:Nat->Bool)(aA:List (Nat×Nat))(s:SV)(k:SV->Prop):Prop:=
 match s with
 |.ptr b aa=>qD m ok aA b fun j=>k (.ptr j aa)
 |.ep b i f=>qD m ok aA b fun j=>k (.ep j i f)
 |.sl b=>qD m ok aA b fun j=>k (.sl j)
 |.any=>k .any|.undef=>k .undef|.int q n=>k (.int q n)|.tt=>k .tt|.ff=>k .ff|.bool b=>k (.bool b)|.str s=>k (.str s)
 |.nilp=>k .nilp|.nils=>k .nils|.rs z es=>k (.rs z es)|.rp z es i f=>k (.rp z es i f)|.ra u aa=>k (.ra u aa)|.rl u n c=>k (.rl u n c)|.tl b n=>qD m ok aA b fun j=>k (.tl j n)|.tp b n i f=>qD m ok aA b fun j=>k (.tp j n i f)
 |.mp b=>qD m ok aA b fun j=>k (.mp j)|.nilm=>k .nilm|.nili=>k .nili|.z0=>k .z0|.pz q=>k (.pz q)
 |.ss b l n=>qD m ok aA b fun j=>k (.ss j l n)|.it b=>qD m ok aA b fun j=>k (.it j)
 |_=>False
def hX.nd{m}{ok}{aA}{s}(hf:eK s):hX m ok aA s s:=fun w _ _ g V v _ hE D=>(hf w _ g [] v D).le hE V
def aaF{m}{ok}{aA}{s}{k}(h:A1 m ok aA s k):∃s',k s'/\hX m ok aA s s':=by
 cases s<;>simp only[A1]at h;case ptr b aa=>obtain⟨j,h,hj⟩:=tQ h;refine⟨_,h,fun w L E' g V v hm _ D=>?_⟩;cases D with|ptr U=>exact .ptr (hj _ _ _ hm U (by simp))|eD U=>exact .eD (hj _ _ _ hm U (by simp))
 case ep b i f=>obtain⟨j,h,hj⟩:=tQ h;refine⟨_,h,fun w L E' g V v hm _ D=>?_⟩;cases D with|ep U=>exact .ep (hj _ _ _ hm U (by simp))|hb U=>exact .hb (hj _ _ _ hm U (by simp))
 case sl b=>obtain⟨j,h,hj⟩:=tQ h;refine⟨_,h,fun w L E' g V v hm _ D=>?_⟩;cases D with|sl U=>exact .sl (hj _ _ _ hm U (by simp))|dE U=>exact .dE (hj _ _ _ hm U (by simp))|c9 U=>exact .c9 (hj _ _ _ hm U (by simp))
 case mp b=>obtain⟨j,h,hj⟩:=tQ h;refine⟨_,h,fun w L E' g V v hm _ D=>?_⟩;cases D with|mp U=>exact .mp (hj _ _ _ hm U (by simp))|gN U=>exact .gN (hj _ _ _ hm U (by simp))
 case ss b l n=>obtain⟨j,h,hj⟩:=tQ h;refine⟨_,h,fun w L E' g V v hm _ D=>?_⟩;cases D with|ss U hl I=>exact .ss (hj _ _ _ hm U (by simp)) hl I|eS U=>exact .eS (hj _ _ _ hm U (by simp))|ej U=>exact .ej (hj _ _ _ hm U (by simp))
 case it b=>obtain⟨j,h,hj⟩:=tQ h;refine⟨_,h,fun w L E' g V v hm _ D=>?_⟩;cases D with|it U=>exact .it (hj _ _ _ hm U (by simp))|ho U=>exact .ho (hj _ _ _ hm U (by simp))
 case tl b n=>obtain⟨j,h,hj⟩:=tQ h;refine⟨_,h,fun w L E' g V v hm _ D=>?_⟩;cases D with|tl U E F=>exact .tl (hj _ _ _ hm U (by simp)) E F|eY U=>exact .eY (hj _ _ _ hm U (by simp))|fM U=>exact .fM (hj _ _ _ hm U (by simp))
 case tp b n i f=>obtain⟨j,h,hj⟩:=tQ h;refine⟨_,h,fun w L E' g V v hm _ D=>?_⟩;cases D with|tp U=>exact .tp (hj _ _ _ hm U (by simp))|np U=>exact .np (hj _ _ _ hm U (by simp))
 case any=>exact⟨_,h,fun _ _ _ _ _ _ _ _ _=>.any⟩
 all_goals first|cases h|exact⟨_,h,.nd fun w L g V v D=>by(cases D<;>first|(constructor;done)|(constructor<;>assumption))⟩
def oK(m:Nat)(ok:Nat->Bool)(aA:List (Nat×Nat))(l l':List SV):Prop:=l.length=l'.length/\∀(i:Nat)(s s':SV),l[i]?=some s->l'[i]?=some s'->hX m ok aA s s'
def vL(f:SV->(SV->Prop)->Prop)(l:List SV):(List SV->Prop)->Prop:=
 List.rec (motive:=fun _=>(List SV->Prop)->Prop) (fun k=>k []) (fun x _ ih k=>f x fun y=>ih fun r=>k (y::r)) l
def A4{m}{ok}{aA}{f}(hf:∀{s k},f s k->∃s',k s'/\hX m ok aA s s')(l):∀{k},vL f l k->∃l',k l'/\oK m ok aA l l':=by induction l with|nil=>intro k h;exact⟨[],h,rfl,by simp⟩|cons x l ih=>intro k h;obtain⟨y,h,hy⟩:=hf h;obtain⟨l',h,hl,dg⟩:=ih h;refine⟨_,h,by simp[hl],fun i s s' hs bW=>?_⟩;grind
def Ke{ab:Prop}(k:ab:=by
 have Q:i<cs.length:=by rw[h.1];exact(ao.1 hs).1
 exact h.2 i _ s (aD Q) hs w L E' g V v hm hE (hc i _ v (aD Q) hv)):ab:=k
def oK.agg{m}{ok}{aA}{cs l}(h:oK m ok aA cs l):hX m ok aA (.agg cs) (.agg l):=fun w L E' g V v hm hE D=>by cases D with|agg hl E hc=>exact .agg (by rw[<-h.1];exact hl) E fun i s v hs hv=>by exact Ke
def oK.tup{m}{ok}{aA}{cs l}(h:oK m ok aA cs l):hX m ok aA (.tup cs) (.tup l):=fun w L E' g V v hm hE D=>by cases D with|tup hl hc=>exact .tup (by rw[<-h.1];exact hl) fun i s v hs hv=>by exact Ke
def oK.fn{m}{ok}{aA}{f}{cs l}(h:oK m ok aA cs l):hX m ok aA (.fn f cs) (.fn f l):=fun w L E' g V v hm hE D=>by cases D with|fn hl hc=>exact .fn (by rw[<-h.1];exact hl) fun i s v hs hv=>by exact Ke
def oK.eh{m}{ok}{aA}{f}{cs l}(h:oK m ok aA cs l):hX m ok aA (.eh f cs) (.eh f l):=fun w L E' g V v hm hE D=>by cases D with|eh hl hc=>exact .eh (by rw[<-h.1];exact hl) fun i s v hs hv=>by exact Ke
def hX.ifc{m}{ok}{aA}{T:TypeId}{x y}(h:hX m ok aA x y):hX m ok aA (.ifc T x) (.ifc T y):=fun w L E' g V v hm hE D=>by cases D with|ifc D=>exact .ifc (h w L E' g V _ hm hE D)
def oq(m:Nat)(ok:Nat->Bool)(aA:List (Nat×Nat))(n:Nat):SV->(SV->Prop)->Prop:=
 Nat.rec (motive:=fun _=>SV->(SV->Prop)->Prop) (fun s k=>A1 m ok aA s k) (fun _ ih s k=>match s with
  |.agg cs=>vL ih cs fun l=>k (.agg l)
  |.tup cs=>vL ih cs fun l=>k (.tup l)
  |.fn f cs=>vL ih cs fun l=>k (.fn f l)
  |.eh f cs=>vL ih cs fun l=>k (.eh f l)
  |.ifc T s=>ih s fun s'=>k (.ifc T s')
  |s=>A1 m ok aA s k) n
def A2{m}{ok}{aA}:∀n{s k},oq m ok aA n s k->∃s',k s'/\hX m ok aA s s':=by intro n;induction n with|zero=>intro s k h;exact aaF h|succ n ih=>intro s k h;cases s with|agg cs=>obtain⟨l,h,hl⟩:=A4 (fun h=>ih h) cs h;exact⟨_,h,hl.agg⟩|tup cs=>obtain⟨l,h,hl⟩:=A4 (fun h=>ih h) cs h;exact⟨_,h,hl.tup⟩|fn f cs=>obtain⟨l,h,hl⟩:=A4 (fun h=>ih h) cs h;exact⟨_,h,hl.fn⟩|eh f cs=>obtain⟨l,h,hl⟩:=A4 (fun h=>ih h) cs h;exact⟨_,h,hl.eh⟩|ifc T s=>obtain⟨s',h,hs⟩:=ih h;exact⟨_,h,hs.ifc⟩|_=>exact aaF h
def wz(m:Nat)(ok:Nat->Bool)(aA:List (Nat×Nat))(b b':bK):Prop:=∀w L E' g V e,uB m ok aA g V->(∀u,E' u->L u)->aB w L g b e->aB w E' V b' e
def Js(m:Nat)(ok:Nat->Bool)(aA:List (Nat×Nat))(l:List (List SV)):(List (List SV)->Prop)->Prop:=
 List.rec (motive:=fun _=>(List (List SV)->Prop)->Prop) (fun k=>k []) (fun e _ ih k=>vL (oq m ok aA 2) e fun e'=>ih fun r=>k (e'::r)) l
def EJ(m:Nat)(ok:Nat->Bool)(aA:List (Nat×Nat))(l:List ME):(List ME->Prop)->Prop:=
 List.rec (motive:=fun _=>(List ME->Prop)->Prop) (fun k=>k []) (fun e _ ih k=>oq m ok aA 2 e.1 fun a=>oq m ok aA 2 e.2.1 fun b=>ih fun r=>k ((a,b,e.2.2)::r)) l
def vK(m:Nat)(ok:Nat->Bool)(aA:List (Nat×Nat))(b:bK)(k:bK->Prop):Prop:=
 match b with
 |.fix t cs=>vL (oq m ok aA 2) cs fun l=>k (.fix t l)
 |.row t z es=>k (.row t z es)
 |.prow t z es=>Js m ok aA es fun aS=>k (.prow t z aS)
 |.mapB es c=>k (.mapB es c)
 |.pmap es c=>EJ m ok aA es fun aS=>k (.pmap aS c)
 |.mit mb s l st=>(match mb with|none=>k (.mit none s l st)|some b=>qD m ok aA b fun j=>k (.mit (some j) s l st))
 |.sit s p=>k (.sit s p)
 |.glob u t cs=>k (.glob u t cs)
 |.tail t z es=>Js m ok aA es fun aS=>k (.tail t z aS)
 |.imap a b=>k (.imap a b)
 |.asn ab=>k (.asn ab)
 |.dead=>k .dead
 |.fresh=>k .fresh
def aaH{m}{ok}{aA}(l):∀{k},Js m ok aA l k->∃l',k l'/\l.length=l'.length/\∀(i:Nat)(e e':List SV),l[i]?=some e->l'[i]?=some e'->oK m ok aA e e':=by induction l with|nil=>intro k h;exact⟨[],h,rfl,by simp⟩|cons x l ih=>intro k h;obtain⟨y,h,hy⟩:=A4 (fun h=>A2 2 h) x h;obtain⟨l',h,hl,dg⟩:=ih h;grind
def arZ{m}{ok}{aA}(l):∀{k},EJ m ok aA l k->∃l',k l'/\l.length=l'.length/\∀(i:Nat)(e e':ME),l[i]?=some e->l'[i]?=some e'->hX m ok aA e.1 e'.1/\hX m ok aA e.2.1 e'.2.1/\e.2.2=e'.2.2:=by induction l with|nil=>intro k h;exact⟨[],h,rfl,by simp⟩|cons x l ih=>intro k h;obtain⟨y,h,hy⟩:=A2 2 (show oq m ok aA 2 x.1 (fun a=>oq m ok aA 2 x.2.1 fun b=>EJ m ok aA l fun r=>k ((a,b,x.2.2)::r))from h);obtain⟨z,h,hz⟩:=A2 2 h;grind
def aca{ab:Prop}(k:ab:=by refine⟨_,h,fun w L E' g V e hm hE M=>?_,by simp⟩;cases e<;>simp only[aB]at M⊢;exact M):ab:=k
def Jq{m}{ok}{aA}{b}{k}(h:vK m ok aA b k):∃b',k b'/\wz m ok aA b b'/\(b'=.fresh->b=.fresh):=by
 cases b with
 |fix t cs=>
  obtain⟨l,h,hl,dg⟩:=A4 (fun h=>A2 2 h) cs h;refine⟨_,h,fun w L E' g V e hm hE M=>?_,by simp⟩;cases e<;>simp only[aB]at M⊢;obtain⟨vs,E,F,h3⟩:=M;refine⟨vs,E,by rw[<-hl];exact F,fun i s v hs hv=>?_⟩;have Q:i<cs.length:=by rw[hl];exact(ao.1 hs).1
  obtain⟨a,b⟩:=h3 i _ v (aD Q) hv;exact⟨dg i _ s (aD Q) hs w L E' g V v hm hE a,b⟩
 |row t z es=>refine⟨_,h,fun w L E' g V e hm hE M=>?_,by simp⟩;exact acV
 |prow t z es=>
  obtain⟨l,h,hl,dg⟩:=aaH es h;refine⟨_,h,fun w L E' g V e hm hE M=>?_,by simp⟩;cases e<;>simp only[aB]at M⊢;case row=>
   obtain⟨E,F,h3,h4,vs,h5,h6,h7⟩:=M;refine⟨E,by rw[<-hl];exact F,h3,h4,vs,h5,h6,fun i e H=>?_⟩;have Q:i<es.length:=by rw[hl];exact(ao.1 H).1
   obtain⟨b1,c0⟩:=dg i _ e (aD Q) H;refine⟨by rw[<-b1];exact(h7 i _ (aD Q)).1,fun j s hs=>?_⟩;have hj:j<es[i].length:=by rw[b1];exact(ao.1 hs).1
   obtain⟨v,a,b,c⟩:=(h7 i _ (aD Q)).2 j _ (aD hj);exact⟨v,a,c0 j _ s (aD hj) hs w L E' g V v hm hE b,c⟩
  grind
 |mapB es c=>refine⟨_,h,fun w L E' g V e hm hE M=>?_,by simp⟩;cases e<;>simp only[aB]at M⊢;obtain⟨ms,E,F,h3⟩:=M;exact ad2
 |pmap es c=>
  obtain⟨l,h,hl,dg⟩:=arZ es h;refine⟨_,h,fun w L E' g V e hm hE M=>?_,by simp⟩;cases e<;>simp only[aB]at M⊢;obtain⟨ms,E,F,h3⟩:=M;refine⟨ms,E,by rw[<-hl];exact F,fun i e mm H bq=>?_⟩;have Q:i<es.length:=by rw[hl];exact(ao.1 H).1
  obtain⟨b1,c0,i6⟩:=dg i _ e (aD Q) H;obtain⟨a1,a2,a3⟩:=h3 i _ mm (aD Q) bq;exact⟨b1 w L E' g V _ hm hE a1,c0 w L E' g V _ hm hE a2,by rw[a3,i6]⟩
 |mit mb s l st=>cases mb with|none=>exact aca|some b=>obtain⟨j,h,hj⟩:=tQ h;refine⟨_,h,fun w L E' g V e hm hE M=>?_,by simp⟩;cases e<;>simp only[aB]at M⊢;obtain⟨r,E,F⟩:=M;refine⟨r,E,?_⟩;rcases F with⟨g',a,b⟩|F;exact .inl ⟨g',hj _ _ _ hm a (by simp),b⟩;exact .inr (hj _ _ _ hm F (by simp))
 |sit s p=>exact aca
 |asn ab=>exact aca
 |imap es c=>refine⟨_,h,fun w L E' g V e hm hE M=>?_,by simp⟩;cases e<;>simp only[aB]at M⊢;obtain⟨iX,ms,E,F,h3⟩:=M;exact Ru
 |tail t z es=>
  obtain⟨l,h,hl,dg⟩:=aaH es h;refine⟨_,h,fun w L E' g V e hm hE M=>?_,by simp⟩;cases e<;>simp only[aB]at M⊢;case row=>
   obtain⟨E,F,h3,h4,vs,h5,h6,h7,h8⟩:=M;refine⟨E,by rw[<-hl];exact F,h3,h4,vs,h5,h6,fun i e H=>?_,by rw[<-hl];exact h8⟩;have Q:i<es.length:=by rw[hl];exact(ao.1 H).1
   obtain⟨b1,c0⟩:=dg i _ e (aD Q) H;refine⟨by rw[<-b1];exact(h7 i _ (aD Q)).1,fun j s hs=>?_⟩;have hj:j<es[i].length:=by rw[b1];exact(ao.1 hs).1
   obtain⟨v,a,b,c⟩:=(h7 i _ (aD Q)).2 j _ (aD hj);exact⟨v,by rw[<-hl];exact a,c0 j _ s (aD hj) hs w L E' g V v hm hE b,c⟩
 |glob g0 t cs=>refine⟨_,h,fun w L E' g V e hm hE M=>?_,by simp⟩;cases e<;>simp only[aB]at M⊢;obtain⟨h0,vs,E,F,h3⟩:=M;exact adZ
 |dead=>refine⟨_,h,fun w L E' g V e hm hE M=>?_,by simp⟩;cases e<;>simp only[aB]at M⊢
 |fresh=>refine⟨_,h,fun w L E' g V e hm hE M=>?_,by simp⟩;cases e<;>simp only[aB]at M⊢
def af.wR{m}{aA}{w0}{KN}{b0}{s}{v0}(h0:af w0 KN b0 s v0):∀{w L E' g V v},b0.length=m\/b0=[]->uB m (fun _=>true) aA g V->(∀u,E' u->L u)->af w L g s v->af w E' V s v:=by
 have lt:∀{b0:Sg}{b:Nat}{e:ba},b0[b]?=some e->b0.length=m\/b0=[]->b<m:=fun h hm=>by grind
 induction h0 with
 |ra=>intro w L E' g V v hm ht hE D;cases D;exact .ra
 |rl=>intro w L E' g V v hm ht hE D;cases D;exact .rl
 |any=>intros;exact .any
 |undef=>intro w L E' g V v hm ht hE D;cases D;exact .undef
 |int=>intro w L E' g V v hm ht hE D;cases D;exact .int
 |tt=>intro w L E' g V v hm ht hE D;cases D;exact .tt
 |ff=>intro w L E' g V v hm ht hE D;cases D;exact .ff
 |bool=>intro w L E' g V v hm ht hE D;cases D;exact .bool
 |qb _=>intro w L E' g V v hm ht hE D;cases D with|qb h=>exact .qb h
 |str=>intro w L E' g V v hm ht hE D;cases D;exact .str
 |tl h _ _=>intro w L E' g V v hm ht hE D;cases D with|tl h' bq bf=>exact .tl (ht.old _ _ (lt h hm) rfl h' (by simp)) bq bf|eY h'=>exact .eY (ht.old _ _ (lt h hm) rfl h' (by simp))|fM h'=>exact .fM (ht.old _ _ (lt h hm) rfl h' (by simp))
 |fM h=>intro w L E' g V v hm ht hE D;cases D with|tl h' bq bf=>exact .tl (ht.old _ _ (lt h hm) rfl h' (by simp)) bq bf|eY h'=>exact .eY (ht.old _ _ (lt h hm) rfl h' (by simp))|fM h'=>exact .fM (ht.old _ _ (lt h hm) rfl h' (by simp))
 |eY h=>intro w L E' g V v hm ht hE D;cases D with|tl h' bq bf=>exact .tl (ht.old _ _ (lt h hm) rfl h' (by simp)) bq bf|eY h'=>exact .eY (ht.old _ _ (lt h hm) rfl h' (by simp))|fM h'=>exact .fM (ht.old _ _ (lt h hm) rfl h' (by simp))
 |tp h=>intro w L E' g V v hm ht hE D;cases D with|tp h'=>exact .tp (ht.old _ _ (lt h hm) rfl h' (by simp))|np h'=>exact .np (ht.old _ _ (lt h hm) rfl h' (by simp))
 |np h=>intro w L E' g V v hm ht hE D;cases D with|tp h'=>exact .tp (ht.old _ _ (lt h hm) rfl h' (by simp))|np h'=>exact .np (ht.old _ _ (lt h hm) rfl h' (by simp))
 |agg hl E h ih=>intro w L E' g V v hm ht hE D;cases D with|agg dg CN h'=>refine .agg dg CN fun i s v hs hv=>?_;grind
 |tup hl h ih=>intro w L E' g V v hm ht hE D;cases D with|tup dg h'=>refine .tup dg fun i s v hs hv=>?_;grind
 |nilp=>intro w L E' g V v hm ht hE D;cases D;exact .nilp
 |nils=>intro w L E' g V v hm ht hE D;cases D;exact .nils
 |ptr h=>intro w L E' g V v hm ht hE D;cases D with|ptr h'=>exact .ptr (ht.old _ _ (lt h hm) rfl h' (by simp))|eD h'=>exact .eD (ht.old _ _ (lt h hm) rfl h' (by simp))
 |eD h=>intro w L E' g V v hm ht hE D;cases D with|ptr h'=>exact .ptr (ht.old _ _ (lt h hm) rfl h' (by simp))|eD h'=>exact .eD (ht.old _ _ (lt h hm) rfl h' (by simp))
 |ep h=>intro w L E' g V v hm ht hE D;cases D with|ep h'=>exact .ep (ht.old _ _ (lt h hm) rfl h' (by simp))|hb h'=>exact .hb (ht.old _ _ (lt h hm) rfl h' (by simp))
 |hb h=>intro w L E' g V v hm ht hE D;cases D with|ep h'=>exact .ep (ht.old _ _ (lt h hm) rfl h' (by simp))|hb h'=>exact .hb (ht.old _ _ (lt h hm) rfl h' (by simp))
 |sl h=>intro w L E' g V v hm ht hE D;cases D with|sl h'=>exact .sl (ht.old _ _ (lt h hm) rfl h' (by simp))|dE h'=>exact .dE (ht.old _ _ (lt h hm) rfl h' (by simp))|c9 h'=>exact .c9 (ht.old _ _ (lt h hm) rfl h' (by simp))
 |dE h=>intro w L E' g V v hm ht hE D;cases D with|sl h'=>exact .sl (ht.old _ _ (lt h hm) rfl h' (by simp))|dE h'=>exact .dE (ht.old _ _ (lt h hm) rfl h' (by simp))|c9 h'=>exact .c9 (ht.old _ _ (lt h hm) rfl h' (by simp))
 |c9 h=>intro w L E' g V v hm ht hE D;cases D with|sl h'=>exact .sl (ht.old _ _ (lt h hm) rfl h' (by simp))|dE h'=>exact .dE (ht.old _ _ (lt h hm) rfl h' (by simp))|c9 h'=>exact .c9 (ht.old _ _ (lt h hm) rfl h' (by simp))
 |hJ hc=>intro w L E' g V v hm ht hE D;exact hX.nd (m:=m) (ok:=fun _=>true) (aA:=aA) (fun w L g V v D=>by cases D<;>constructor<;>assumption) w L E' g V v ht hE D
 |rs=>intro w L E' g V v hm ht hE D;exact hX.nd (m:=m) (ok:=fun _=>true) (aA:=aA) (fun w L g V v D=>by cases D<;>constructor<;>assumption) w L E' g V v ht hE D
 |rp=>intro w L E' g V v hm ht hE D;exact hX.nd (m:=m) (ok:=fun _=>true) (aA:=aA) (fun w L g V v D=>by cases D<;>constructor<;>assumption) w L E' g V v ht hE D
 |fn hl h ih=>intro w L E' g V v hm ht hE D;cases D with|fn dg h'=>refine .fn dg fun i s v hs hv=>?_;grind
 |eh hl h ih=>intro w L E' g V v hm ht hE D;cases D with|eh dg h'=>refine .eh dg fun i s v hs hv=>?_;grind
 |qu=>intro w L E' g V v hm ht hE D;cases D;exact .qu
 |pz h=>intro w L E' g V v hm ht hE D;cases D with|pz h'=>exact .pz h'
 |mp h=>intro w L E' g V v hm ht hE D;cases D with|mp h'=>exact .mp (ht.old _ _ (lt h hm) rfl h' (by simp))|gN h'=>exact .gN (ht.old _ _ (lt h hm) rfl h' (by simp))
 |gN h=>intro w L E' g V v hm ht hE D;cases D with|mp h'=>exact .mp (ht.old _ _ (lt h hm) rfl h' (by simp))|gN h'=>exact .gN (ht.old _ _ (lt h hm) rfl h' (by simp))
 |nilm=>intro w L E' g V v hm ht hE D;cases D;exact .nilm
 |ifc h ih=>intro w L E' g V v hm ht hE D;cases D with|ifc h'=>exact .ifc (ih hm ht hE h')
 |nili=>intro w L E' g V v hm ht hE D;cases D;exact .nili
 |ss h hl I=>intro w L E' g V v hm ht hE D;cases D with|ss h' dg bf=>exact .ss (ht.old _ _ (lt h hm) rfl h' (by simp)) dg bf|eS h'=>exact .eS (ht.old _ _ (lt h hm) rfl h' (by simp))|ej h'=>exact .ej (ht.old _ _ (lt h hm) rfl h' (by simp))
 |eS h=>intro w L E' g V v hm ht hE D;cases D with|ss h' dg bf=>exact .ss (ht.old _ _ (lt h hm) rfl h' (by simp)) dg bf|eS h'=>exact .eS (ht.old _ _ (lt h hm) rfl h' (by simp))|ej h'=>exact .ej (ht.old _ _ (lt h hm) rfl h' (by simp))
 |ej h=>intro w L E' g V v hm ht hE D;cases D with|ss h' dg bf=>exact .ss (ht.old _ _ (lt h hm) rfl h' (by simp)) dg bf|eS h'=>exact .eS (ht.old _ _ (lt h hm) rfl h' (by simp))|ej h'=>exact .ej (ht.old _ _ (lt h hm) rfl h' (by simp))
 |it h=>intro w L E' g V v hm ht hE D;cases D with|it h'=>exact .it (ht.old _ _ (lt h hm) rfl h' (by simp))|ho h'=>exact .ho (ht.old _ _ (lt h hm) rfl h' (by simp))
 |ho h=>intro w L E' g V v hm ht hE D;cases D with|it h'=>exact .it (ht.old _ _ (lt h hm) rfl h' (by simp))|ho h'=>exact .ho (ht.old _ _ (lt h hm) rfl h' (by simp))
 |z0=>intro w L E' g V v hm ht hE D;cases D;exact .z0
def aB.wR{m}{aA}{w0 w}{KN L E'}{b0 g V}{b}{e0 e}(h0:aB w0 KN b0 b e0)(hm:b0.length=m)(ht:uB m (fun _=>true) aA g V)(hE:∀u,E' u->L u)(h:aB w L g b e):aB w E' V b e:=by
 cases b with
 |fix t cs=>
  cases e<;>simp only[aB]at h⊢;cases e0<;>simp only[aB]at h0;obtain⟨cw,_,g2,g3⟩:=h0;obtain⟨vs,E,F,h3⟩:=h;refine⟨vs,E,F,fun i s v hs hv=>⟨?_,(h3 i s v hs hv).2⟩⟩;have Q:i<cw.size:=by rw[<-g2];exact(ao.1 hs).1
  exact(g3 i s _ hs (c4 Q)).1.wR (.inl hm) ht hE (h3 i s v hs hv).1
 |prow t z es=>
  cases e<;>simp only[aB]at h⊢;case rownil=>exact h
  case row=>
   obtain⟨E,F,h3,h4,vs,h5,h6,h7⟩:=h;refine⟨E,F,h3,h4,vs,h5,h6,fun i e H=>⟨(h7 i e H).1,fun j s hs=>?_⟩⟩;obtain⟨v,a,b,c⟩:=(h7 i e H).2 j s hs;refine⟨v,a,?_,c⟩;cases e0<;>simp only[aB]at h0;case rownil=>subst h0;simp at H
   case row=>obtain⟨_,_,_,_,cw,_,_,G0⟩:=h0;obtain⟨v0,_,fb,_⟩:=(G0 i e H).2 j s hs;exact fb.wR (.inl hm) ht hE b
 |pmap es c=>
  cases e<;>simp only[aB]at h⊢;cases e0<;>simp only[aB]at h0;obtain⟨ms0,_,g2,g3⟩:=h0;obtain⟨ms,E,F,h3⟩:=h;refine⟨ms,E,F,fun i e mm H rJ=>?_⟩;have Q:i<ms0.size:=by rw[<-g2];exact(ao.1 H).1
  obtain⟨a1,a2,a3⟩:=g3 i e _ H (c4 Q);obtain⟨b1,c0,i6⟩:=h3 i e mm H rJ;exact⟨a1.wR (.inl hm) ht hE b1,a2.wR (.inl hm) ht hE c0,i6⟩
 |mit mb s l st=>
  cases e<;>simp only[aB]at h⊢;cases e0<;>simp only[aB]at h0;obtain⟨r,E,F⟩:=h;obtain⟨r0,_,g2⟩:=h0;refine⟨r,E,?_⟩;cases mb with
  |none=>exact F
  |some b=>
   have M:b<m:=by rw[<-hm];rcases g2 with⟨_,a,_⟩|a<;>exact(ao.1 a).1
   rcases F with⟨g',a,c⟩|a;exact .inl ⟨g',ht.old _ _ M rfl a (by simp),c⟩;exact .inr (ht.old _ _ M rfl a (by simp))
 |row t z es=>
  cases e<;>simp only[aB]at h⊢;case rownil=>exact h
  case row=>obtain⟨E,F,h3,h4,vs,h5,h6,h7⟩:=h;exact Kk
 |mapB es c=>cases e<;>simp only[aB]at h⊢;obtain⟨ms,E,F,h3⟩:=h;exact ad2
 |sit s p=>cases e<;>simp only[aB]at h⊢;exact h
 |asn ab=>cases e<;>simp only[aB]at h⊢;exact h
 |imap es c=>cases e<;>simp only[aB]at h⊢;obtain⟨iX,ms,E,F,h3⟩:=h;exact Ru
 |tail t z es=>cases e<;>simp only[aB]at h⊢;case row=>obtain⟨E,F,h3,h4,vs,h5,h6,h7,h8⟩:=h;refine⟨E,F,h3,h4,vs,h5,h6,fun i e H=>⟨(h7 i e H).1,fun j s hs=>?_⟩,h8⟩;obtain⟨v,a,b,c⟩:=(h7 i e H).2 j s hs;refine⟨v,a,?_,c⟩;cases e0<;>simp only[aB]at h0;case row=>obtain⟨_,_,_,_,cw,_,_,G0,_⟩:=h0;obtain⟨v0,_,fb,_⟩:=(G0 i e H).2 j s hs;exact fb.wR (.inl hm) ht hE b
 |glob g0 t cs=>cases e<;>simp only[aB]at h⊢;obtain⟨G6,vs,E,F,h3⟩:=h;exact⟨G6,vs,E,F,fun i s v hs hv=>⟨(h3 i s v hs hv).1.le hE [],(h3 i s v hs hv).2⟩⟩
 |dead=>cases e<;>simp only[aB]at h⊢
 |fresh=>cases e<;>simp only[aB]at h⊢
def lB(g:Sg)(r:Option Nat):ba:=match r with|some a=>g.getD a .dead|none=>.fresh
def apn{w}{X}{g}{h'}(O:Inv w X g h'){A:List (Option Nat)}{bx}(hl:bx.length=A.length) (am:∀(i a:Nat),A[i]?=some (some a)->a<h'.length) (Nn:∀(i j a:Nat),A[i]?=some (some a)->A[j]?=some (some a)->i=j) (hf:∀(i:Nat)(b':bK),A[i]?=some none->bx[i]?=some b'->b'=.fresh) (M:(∀u,Ex X (A.map (lB g)) u->Ex X g u)->∀(i a:Nat)(b b':bK)(e:ba),A[i]?=some (some a)->bx[i]?=some b'->h'[a]?=some b->g[a]?=some e->aB w (Ex X g) g b e->aB w (Ex X (A.map (lB g))) (A.map (lB g)) b' e):Inv w X (A.map (lB g)) bx/\(∀u,Ex X (A.map (lB g)) u->Ex X g u)/\(∀(i a:Nat)(e:ba),A[i]?=some (some a)->g[a]?=some e->(A.map (lB g))[i]?=some e):=by
 have bc:∀(i a:Nat)(e:ba),A[i]?=some (some a)->g[a]?=some e->(A.map (lB g))[i]?=some e:=fun i a e E F=>by rw[bz,E];simp[lB,List.getD,F]
 have hinv:∀(i:Nat)(e:ba),(A.map (lB g))[i]?=some e->(A[i]?=some none/\e=.fresh)\/ ∃a,A[i]?=some (some a)/\g[a]?=some e:=fun i e H=>by
  rw[bz]at H;cases D:A[i]? with
  |none=>simp_all
  |some r=>
   rw[D]at H;cases r with
   |none=>simp[lB]at H;simp_all
   |some a=>
    refine .inr ⟨a,rfl,?_⟩;have ha:a<g.length:=by rw[O.len];exact am i a D
    grind
 have br:∀u,bM (A.map (lB g)) u->bM g u:=by rintro u ⟨i,e,H,U⟩;rcases hinv i e H with⟨_,rfl⟩|⟨a,_,ha⟩;simp[ba.owns]at U;exact⟨a,e,ha,U⟩
 have hE:∀u,Ex X (A.map (lB g)) u->Ex X g u:=fun u h=>h.elim .inl fun h=>.inr (br u h);refine⟨⟨by simp[hl],fun i b' e aP H=>?_,fun i e u H U=>?_,fun i j e e' u Q hj U bP=>?_,fun u hx I=>O.cU u hx (br u I),O.df⟩,hE,bc⟩;rcases hinv i e H with⟨D,rfl⟩|⟨a,D,ha⟩;rw[hf i b' D aP];trivial;have d6:=am i a D;exact M hE i a _ b' e D aP (aD d6) ha (O.ok a _ e (aD d6) ha);rcases hinv i e H with⟨_,rfl⟩|⟨a,_,ha⟩;simp[ba.owns]at U;exact O.lt a e u ha U;rcases hinv i e Q with⟨_,rfl⟩|⟨a,D,ha⟩;simp[ba.owns]at U;rcases hinv j e' hj with⟨_,rfl⟩|⟨c,ds,hc⟩;simp[ba.owns]at bP;have:=O.inj a c e e' u ha hc U bP;grind
end
section
structure aO(α:Type)where
 a0:α
 a1:α
 a2:α
 a3:α
 a4:α
 a5:α
 eg:α
 ez:α
 eA:α
 a9:α
 eo:α
 eG:α
 a12:α
 eM:α
 eN:α
 eO:α
variable{α:Type}
def aO.toAQ(r:aO α):List α:=[r.a0,r.a1,r.a2,r.a3,r.a4,r.a5,r.eg,r.ez,r.eA,r.a9,r.eo,r.eG,r.a12,r.eM,r.eN,r.eO]
def aO.cK(x:α):aO α:=⟨x,x,x,x,x,x,x,x,x,x,x,x,x,x,x,x⟩
def tR(α:Type):List ((α->Prop)->aO α->Prop):=
 [fun k r=>aO.rec (fun a0 _ _ _ _ _ _ _ _ _ _ _ _ _ _ _=>k a0) r,
  fun k r=>aO.rec (fun _ a1 _ _ _ _ _ _ _ _ _ _ _ _ _ _=>k a1) r,
  fun k r=>aO.rec (fun _ _ a2 _ _ _ _ _ _ _ _ _ _ _ _ _=>k a2) r,
  fun k r=>aO.rec (fun _ _ _ a3 _ _ _ _ _ _ _ _ _ _ _ _=>k a3) r,
  fun k r=>aO.rec (fun _ _ _ _ a4 _ _ _ _ _ _ _ _ _ _ _=>k a4) r,
  fun k r=>aO.rec (fun _ _ _ _ _ a5 _ _ _ _ _ _ _ _ _ _=>k a5) r,
  fun k r=>aO.rec (fun _ _ _ _ _ _ eg _ _ _ _ _ _ _ _ _=>k eg) r,
  fun k r=>aO.rec (fun _ _ _ _ _ _ _ ez _ _ _ _ _ _ _ _=>k ez) r,
  fun k r=>aO.rec (fun _ _ _ _ _ _ _ _ eA _ _ _ _ _ _ _=>k eA) r,
  fun k r=>aO.rec (fun _ _ _ _ _ _ _ _ _ a9 _ _ _ _ _ _=>k a9) r,
  fun k r=>aO.rec (fun _ _ _ _ _ _ _ _ _ _ eo _ _ _ _ _=>k eo) r,
  fun k r=>aO.rec (fun _ _ _ _ _ _ _ _ _ _ _ eG _ _ _ _=>k eG) r,
  fun k r=>aO.rec (fun _ _ _ _ _ _ _ _ _ _ _ _ a12 _ _ _=>k a12) r,
  fun k r=>aO.rec (fun _ _ _ _ _ _ _ _ _ _ _ _ _ eM _ _=>k eM) r,
  fun k r=>aO.rec (fun _ _ _ _ _ _ _ _ _ _ _ _ _ _ eN _=>k eN) r,
  fun k r=>aO.rec (fun _ _ _ _ _ _ _ _ _ _ _ _ _ _ _ eO=>k eO) r]
def yF(α:Type):List (α->(aO α->Prop)->aO α->Prop):=
 [fun v k r=>aO.rec (fun _ a1 a2 a3 a4 a5 eg ez eA a9 eo eG a12 eM eN eO=>k ⟨v,a1,a2,a3,a4,a5,eg,ez,eA,a9,eo,eG,a12,eM,eN,eO⟩) r,
  fun v k r=>aO.rec (fun a0 _ a2 a3 a4 a5 eg ez eA a9 eo eG a12 eM eN eO=>k ⟨a0,v,a2,a3,a4,a5,eg,ez,eA,a9,eo,eG,a12,eM,eN,eO⟩) r,
  fun v k r=>aO.rec (fun a0 a1 _ a3 a4 a5 eg ez eA a9 eo eG a12 eM eN eO=>k ⟨a0,a1,v,a3,a4,a5,eg,ez,eA,a9,eo,eG,a12,eM,eN,eO⟩) r,
  fun v k r=>aO.rec (fun a0 a1 a2 _ a4 a5 eg ez eA a9 eo eG a12 eM eN eO=>k ⟨a0,a1,a2,v,a4,a5,eg,ez,eA,a9,eo,eG,a12,eM,eN,eO⟩) r,
  fun v k r=>aO.rec (fun a0 a1 a2 a3 _ a5 eg ez eA a9 eo eG a12 eM eN eO=>k ⟨a0,a1,a2,a3,v,a5,eg,ez,eA,a9,eo,eG,a12,eM,eN,eO⟩) r,
  fun v k r=>aO.rec (fun a0 a1 a2 a3 a4 _ eg ez eA a9 eo eG a12 eM eN eO=>k ⟨a0,a1,a2,a3,a4,v,eg,ez,eA,a9,eo,eG,a12,eM,eN,eO⟩) r,
  fun v k r=>aO.rec (fun a0 a1 a2 a3 a4 a5 _ ez eA a9 eo eG a12 eM eN eO=>k ⟨a0,a1,a2,a3,a4,a5,v,ez,eA,a9,eo,eG,a12,eM,eN,eO⟩) r,
  fun v k r=>aO.rec (fun a0 a1 a2 a3 a4 a5 eg _ eA a9 eo eG a12 eM eN eO=>k ⟨a0,a1,a2,a3,a4,a5,eg,v,eA,a9,eo,eG,a12,eM,eN,eO⟩) r,
  fun v k r=>aO.rec (fun a0 a1 a2 a3 a4 a5 eg ez _ a9 eo eG a12 eM eN eO=>k ⟨a0,a1,a2,a3,a4,a5,eg,ez,v,a9,eo,eG,a12,eM,eN,eO⟩) r,
  fun v k r=>aO.rec (fun a0 a1 a2 a3 a4 a5 eg ez eA _ eo eG a12 eM eN eO=>k ⟨a0,a1,a2,a3,a4,a5,eg,ez,eA,v,eo,eG,a12,eM,eN,eO⟩) r,
  fun v k r=>aO.rec (fun a0 a1 a2 a3 a4 a5 eg ez eA a9 _ eG a12 eM eN eO=>k ⟨a0,a1,a2,a3,a4,a5,eg,ez,eA,a9,v,eG,a12,eM,eN,eO⟩) r,
  fun v k r=>aO.rec (fun a0 a1 a2 a3 a4 a5 eg ez eA a9 eo _ a12 eM eN eO=>k ⟨a0,a1,a2,a3,a4,a5,eg,ez,eA,a9,eo,v,a12,eM,eN,eO⟩) r,
  fun v k r=>aO.rec (fun a0 a1 a2 a3 a4 a5 eg ez eA a9 eo eG _ eM eN eO=>k ⟨a0,a1,a2,a3,a4,a5,eg,ez,eA,a9,eo,eG,v,eM,eN,eO⟩) r,
  fun v k r=>aO.rec (fun a0 a1 a2 a3 a4 a5 eg ez eA a9 eo eG a12 _ eN eO=>k ⟨a0,a1,a2,a3,a4,a5,eg,ez,eA,a9,eo,eG,a12,v,eN,eO⟩) r,
  fun v k r=>aO.rec (fun a0 a1 a2 a3 a4 a5 eg ez eA a9 eo eG a12 eM _ eO=>k ⟨a0,a1,a2,a3,a4,a5,eg,ez,eA,a9,eo,eG,a12,eM,v,eO⟩) r,
  fun v k r=>aO.rec (fun a0 a1 a2 a3 a4 a5 eg ez eA a9 eo eG a12 eM eN _=>k ⟨a0,a1,a2,a3,a4,a5,eg,ez,eA,a9,eo,eG,a12,eM,eN,v⟩) r]
def pZ(i:Nat)(r:aO α)(k:α->Prop):Prop:=Option.rec False (fun f=>f k r) (ig (tR α) i)
def A8(i:Nat)(v:α)(r:aO α)(k:aO α->Prop):Prop:=Option.rec False (fun f=>f v k r) (ig (yF α) i)
def xe{i}{r}{k:α->Prop}:pZ i r k↔ ∃x,r.toAQ[i]?=some x/\k x:=by
 rcases nD i 16 with Q|Q;obtain⟨a0,a1,a2,a3,a4,a5,eg,ez,eA,a9,eo,eG,a12,eM,eN,eO⟩:=r;rcases(show i=0\/i=1\/i=2\/i=3\/i=4\/i=5\/i=6\/i=7\/i=8\/i=9\/i=10\/i=11\/i=12\/i=13\/i=14\/i=15 by omega)with rfl|rfl|rfl|rfl|rfl|rfl|rfl|rfl|rfl|rfl|rfl|rfl|rfl|rfl|rfl|rfl<;>
  exact⟨fun h=>⟨_,rfl,h⟩,fun⟨x,E,F⟩=>by have h3:=mJ E;subst h3;exact F⟩
 have:ig (tR α) i=none:=by rw[Au];exact pF (by simp[tR];exact Q)
 unfold pZ;rw[this];exact⟨fun h=>h.elim,fun⟨x,h,_⟩=>by rw[pF (by simp[aO.toAQ];exact Q)]at h;simp at h⟩
def QB{i}{v}{r}{k}(h:A8 i v r k):∃r':aO α,k r'/\i<16/\r'.toAQ=r.toAQ.set i v:=by
 rcases nD i 16 with Q|Q;obtain⟨a0,a1,a2,a3,a4,a5,eg,ez,eA,a9,eo,eG,a12,eM,eN,eO⟩:=r;rcases(show i=0\/i=1\/i=2\/i=3\/i=4\/i=5\/i=6\/i=7\/i=8\/i=9\/i=10\/i=11\/i=12\/i=13\/i=14\/i=15 by omega)with rfl|rfl|rfl|rfl|rfl|rfl|rfl|rfl|rfl|rfl|rfl|rfl|rfl|rfl|rfl|rfl<;>exact⟨_,h,G,rfl⟩;have:ig (yF α) i=none:=by rw[Au];exact pF (by simp[yF];exact Q)
 unfold A8 at h;simp_all
def CM(i:Nat)(w:aO (aO α))(k:α->Prop):Prop:=pZ (Nat.div i 16) w fun r=>pZ (Nat.mod i 16) r k
def ES(i:Nat)(v:α)(w:aO (aO α))(k:aO (aO α)->Prop):Prop:=pZ (Nat.div i 16) w fun r=>A8 (Nat.mod i 16) v r fun r'=>A8 (Nat.div i 16) r' w k
def G4(i:Nat)(w:aO (aO (aO α)))(k:α->Prop):Prop:=pZ (Nat.div i 256) w fun r=>CM (Nat.mod i 256) r k
def JF(i:Nat)(v:α)(w:aO (aO (aO α)))(k:aO (aO (aO α))->Prop):Prop:=pZ (Nat.div i 256) w fun r=>ES (Nat.mod i 256) v r fun r'=>A8 (Nat.div i 256) r' w k
def lh(w:aO (aO α))(i:Nat):Option α:=(w.toAQ[i/16]?).bind fun r=>r.toAQ[i % 16]?
def pN(w:aO (aO (aO α)))(i:Nat):Option α:=(w.toAQ[i/256]?).bind fun r=>lh r (i % 256)
def Bg(r:aO α):r.toAQ.length=16:=rfl
def Lo{w:aO (aO α)}{i}:(∃x,lh w i=some x)↔i<256:=by
 unfold lh;constructor;rintro⟨x,h⟩;cases D:w.toAQ[i/16]? with|none=>simp_all|some r=>have:=(ao.1 D).1;rw[Bg]at this;omega
 intro h;rw[aD (by rw[Bg];omega)];exact⟨_,aD (by rw[Bg];omega)⟩
def Tw{w:aO (aO (aO α))}{i}:(∃x,pN w i=some x)↔i<4096:=by
 unfold pN;constructor;rintro⟨x,h⟩;cases D:w.toAQ[i/256]? with|none=>simp_all|some r=>have:=(ao.1 D).1;rw[Bg]at this;omega
 intro h;rw[aD (by rw[Bg];omega)];exact Lo.2 G
def G3{i}{w}{k:α->Prop}:CM i w k↔ ∃x,lh w i=some x/\k x:=by unfold CM lh;rw[xe];constructor;rintro⟨r,E,h⟩;rw[xe]at h;obtain⟨x,F,h3⟩:=h;exact⟨x,by rw[show i/16=Nat.div i 16 from rfl,E];exact F,h3⟩;rintro⟨x,E,F⟩;cases D:w.toAQ[i/16]? with|none=>simp_all|some r=>rw[D]at E;exact⟨r,rfl,xe.2 ⟨x,E,F⟩⟩
def Ve{i}{w}{k:α->Prop}:G4 i w k↔ ∃x,pN w i=some x/\k x:=by unfold G4 pN;rw[xe];constructor;rintro⟨r,E,h⟩;rw[G3]at h;obtain⟨x,F,h3⟩:=h;exact⟨x,by rw[show i/256=Nat.div i 256 from rfl,E];exact F,h3⟩;rintro⟨x,E,F⟩;cases D:w.toAQ[i/256]? with|none=>simp_all|some r=>rw[D]at E;exact⟨r,rfl,G3.2 ⟨x,E,F⟩⟩
def aa0{i}{v}{w}{k:aO (aO α)->Prop}(h:ES i v w k):∃w',k w'/\i<256/\∀j,lh w' j=if j=i then some v else lh w j:=by
 unfold ES at h;rw[xe]at h;obtain⟨r,D,h⟩:=h;obtain⟨r',h,Q,ds⟩:=QB h;obtain⟨w',h,oW,N5⟩:=QB h;have Q:=Q;have oW:i/16<16:=oW;refine⟨w',h,by omega,fun j=>?_⟩;unfold lh;rw[N5,bu];by_cases hd:Nat.div i 16=j/16;rw[au hd,au (by grind)];have dB:w.toAQ[j/16]?=some r:=by rw[<-hd];exact D
 rw[dB];show r'.toAQ[j % 16]?=_;rw[ds,bu];by_cases hm:Nat.mod i 16=j % 16;have li:i/16=j/16:=hd;have bq:i % 16=j % 16:=hm;have:j=i:=by omega
 rw[au hm,au (by rw[Bg];exact Q),au this];rw[ay hm,ay (fun e=>hm (by subst e;rfl))];rfl;rw[ay hd,ay (fun e=>hd (by subst e;rfl))]
def aa1{i}{v}{w}{k:aO (aO (aO α))->Prop}(h:JF i v w k):∃w',k w'/\i<4096/\∀j,pN w' j=if j=i then some v else pN w j:=by
 unfold JF at h;rw[xe]at h;obtain⟨r,D,h⟩:=h;obtain⟨r',h,Q,ds⟩:=aa0 h;obtain⟨w',h,oW,N5⟩:=QB h;have Q:=Q;have oW:i/256<16:=oW;refine⟨w',h,by omega,fun j=>?_⟩;unfold pN;rw[N5,bu];by_cases hd:Nat.div i 256=j/256;rw[au hd,au (by grind)];have dB:w.toAQ[j/256]?=some r:=by rw[<-hd];exact D
 rw[dB];show lh r' (j % 256)=_;rw[ds];by_cases hm:j % 256=Nat.mod i 256;have li:i/256=j/256:=hd;have bq:j % 256=i % 256:=hm;grind;rw[ay hm,ay (fun e=>hm (by subst e;rfl))];rfl;rw[ay hd,ay (fun e=>hd (by subst e;rfl))]
def vY(n cap:Nat)(f:Nat->Option α)(d:α):List α:=(List.range (min n cap)).map fun i=>(f i).getD d
def nu{n cap}{f}{d:α}:(vY n cap f d).length=min n cap:=by simp[vY]
def qH{n cap}{f}{d:α}{i}(h:i<min n cap):(vY n cap f d)[i]?=some ((f i).getD d):=by unfold vY;simp_all
def abN{n cap}{f u}{d}{i}{v:α}(h:∀j,u j=if j=i then some v else f j):vY n cap u d=(vY n cap f d).set i v:=by apply jh;intro j;rcases nD j (min n cap)with hj|hj;rw[qH hj,h j,bu,nu];by_cases lp:j=i;simp_all;rw[ay lp,ay (fun e=>lp e.symm),qH hj];rw[pF (by rw[nu];exact hj),pF (by rw[fV,nu];exact hj)]
abbrev FW:=aO (aO SV)
def Mo(n t:Nat):lI ((SV->Prop)->FW->Prop):=
 Bool.rec ⟨fun _ _=>False⟩
  (Option.rec ⟨fun _ _=>False⟩
   (fun f=>Option.rec ⟨fun _ _=>False⟩ (fun u=>⟨fun k w=>f (fun r=>u k r) w⟩) (ig (tR SV) (Nat.mod t 16)))
   (ig (tR (aO SV)) (Nat.div t 16)))
  (Nat.ble (Nat.succ t) n)
def aaW(n t:Nat):lI (SV->(FW->Prop)->FW->Prop):=
 Bool.rec ⟨fun _ _ _=>False⟩
  (Option.rec ⟨fun _ _ _=>False⟩
   (fun f=>Option.rec ⟨fun _ _ _=>False⟩
    (fun u=>Option.rec ⟨fun _ _ _=>False⟩
     (fun e=>⟨fun v k w=>f (fun r=>u v (fun r'=>e r' k w) r) w⟩) (ig (yF (aO SV)) (Nat.div t 16)))
    (ig (yF SV) (Nat.mod t 16)))
   (ig (tR (aO SV)) (Nat.div t 16)))
  (Nat.ble (Nat.succ t) n)
def eT(n:Nat)(w:FW):Fr:=vY n 256 (lh w) .undef
def uL(n:Nat)(w:FW)(t:Nat)(k:SV->Prop):Prop:=(Mo n t).run fun f=>f k w
def EP(n:Nat)(w:FW)(t:Nat)(v:SV)(k:FW->Prop):Prop:=(aaW n t).run fun f=>f v k w
def ajD{n}{w}{t}{k}:uL n w t k=bo (Nat.ble (Nat.succ t) n) (CM t w k):=by
 unfold uL Mo CM pZ lI.run bo;generalize hf:ig (tR (aO SV)) (Nat.div t 16)=o1;generalize ig (tR SV) (Nat.mod t 16)=o2;cases Nat.ble (Nat.succ t) n with
 |false=>rfl
 |true=>
  cases o1 with
  |none=>rfl
  |some f=>
   cases o2 with
   |some u=>rfl
   |none=>
    show False=f (fun _=>False) w;apply propext;refine⟨False.elim,fun h=>?_⟩;have:pZ (Nat.div t 16) w (fun _=>False):=by unfold pZ;rw[hf];exact h
    obtain⟨_,_,h⟩:=xe.1 this;exact h
def aaX{n}{w}{t}{v}{k}(h:EP n w t v k):bo (Nat.ble (Nat.succ t) n) (ES t v w k):=by unfold EP aaW lI.run at h;unfold ES bo pZ A8;generalize ig (tR (aO SV)) (Nat.div t 16)=o1 at h⊢;generalize ig (yF SV) (Nat.mod t 16)=o2 at h⊢;generalize ig (yF (aO SV)) (Nat.div t 16)=o3 at h⊢;generalize Nat.ble (Nat.succ t) n=b at h⊢;cases b with|false=>exact h|true=>cases o1 with|none=>exact h|some f=>cases o2 with|none=>cases h|some u=>cases o3<;>simp_all
def G2(n)(w)(t):uL n w t=av (eT n w) t:=by funext k;rw[ajD];apply propext;constructor;intro h;obtain⟨E,h⟩:=bL h;have E:=nw E;obtain⟨x,hx,o⟩:=G3.1 h;have ai:=Lo.1 ⟨x,hx⟩;exact jY (x:=x) (by unfold eT;rw[qH G,hx];rfl) o;intro h;obtain⟨x,hx,o⟩:=bg h;have ai:=(ao.1 hx).1;unfold eT at ai hx;rw[nu]at ai;obtain⟨y,hy⟩:=(Lo (w:=w)).2 (show t<256 by omega);rw[qH ai,hy]at hx;simp at hx;subst hx;exact dt (Fk G) (G3.2 ⟨_,hy,o⟩)
def aaY{n}{w}{t}{v}{k}(h:EP n w t v k):∃w',k w'/\eT n w'=(eT n w).set t v:=by obtain⟨_,h⟩:=bL (aaX h);obtain⟨w',h,_,hw⟩:=aa0 h;exact⟨w',h,abN hw⟩
structure HW where
 n:Nat
 w:aO (aO (aO bK))
def HW.view(ad:HW):Hp:=vY ad.n 4096 (pN ad.w) .dead
def eZ(ad:HW)(b:Nat)(k:bK->Prop):Prop:=HW.rec (fun n w=>bo (Nat.ble (Nat.succ b) n) (G4 b w k)) ad
def yx(ad:HW)(b:Nat)(v:bK)(k:HW->Prop):Prop:=HW.rec (fun n w=>bo (Nat.ble (Nat.succ b) n) (JF b v w fun w'=>k ⟨n,w'⟩)) ad
def mn(ad:HW)(v:bK)(k:Nat->HW->Prop):Prop:=HW.rec (fun n w=>JF n v w fun w'=>iz (Nat.succ n) fun n'=>k n ⟨n',w'⟩) ad
def As(ad:HW)(k:Nat->Prop):Prop:=HW.rec (fun n _=>bo (Nat.ble n 4096) (k n)) ad
def mV(ad):eZ ad=av ad.view:=by funext b k;obtain⟨n,w⟩:=ad;apply propext;constructor;intro h;obtain⟨E,h⟩:=bL h;have E:=nw E;obtain⟨x,hx,o⟩:=Ve.1 h;have ai:=Tw.1 ⟨x,hx⟩;exact jY (x:=x) (by unfold HW.view;rw[qH (by simp only;omega),hx];rfl) o;intro h;obtain⟨x,hx,o⟩:=bg h;have ai:=(ao.1 hx).1;unfold HW.view at ai hx;rw[nu]at ai;simp only at ai hx;obtain⟨y,hy⟩:=(Tw (w:=w)).2 (show b<4096 by omega);rw[qH ai,hy]at hx;simp at hx;subst hx;exact(show bo (Nat.ble (Nat.succ b) n) (G4 b w k)from dt (Fk (by omega)) (Ve.2 ⟨_,hy,o⟩))
def ER{ad}{b}{v}{k}(h:yx ad b v k):∃H',k H'/\b<ad.view.length/\H'.view=ad.view.set b v:=by obtain⟨n,w⟩:=ad;obtain⟨E,h⟩:=bL h;have E:=nw E;obtain⟨w',h,ai,hw⟩:=aa1 h;exact⟨⟨n,w'⟩,h,by unfold HW.view;rw[nu];simp only;omega,abN hw⟩
def vC{ad}{v}{k}(h:mn ad v k):∃H',k ad.view.length H'/\H'.view=ad.view++[v]:=by
 obtain⟨n,w⟩:=ad;obtain⟨w',h,ai,hw⟩:=aa1 h;have h:=mf (k:=fun n'=>k n ⟨n',w'⟩) h;have hl:(HW.view ⟨n,w⟩).length=n:=by unfold HW.view;rw[nu];simp only;omega
 refine⟨⟨Nat.succ n,w'⟩,by rw[hl];exact h,?_⟩;apply jh;intro j;rcases FI j n with hj|hj|hj;rw[eU (by rw[hl];exact hj)];unfold HW.view;rw[qH (by simp only;omega),qH (by simp only;omega)];grind;subst hj;rw[jf (by omega),hl,we];unfold HW.view;rw[qH (by simp only;omega)];simp_all;rw[pF (by unfold HW.view;rw[nu];simp only;omega),pF (by grind)]
def Is{ad}{k}(h:As ad k):k ad.view.length:=by
 obtain⟨n,w⟩:=ad;obtain⟨E,h⟩:=bL h;have E:=nw E;have hl:(HW.view ⟨n,w⟩).length=n:=by unfold HW.view;rw[nu];simp only;omega
 rw[hl];exact h
def evB(n:Nat)(x:Operand):lI ((SV->Prop)->FW->Prop):=
 match x with
 |.tmp t=>Mo n t
 |.const v=>(match v with
  |.int q m=>⟨fun k _=>k (.int q m)⟩
  |.bool true=>⟨fun k _=>k .tt⟩
  |.bool false=>⟨fun k _=>k .ff⟩
  |.string s=>⟨fun k _=>k (.str s.data.toList)⟩
  |v=>⟨fun k _=>yj v k⟩)
 |.global _=>⟨fun k _=>k .any⟩
 |.func f=>⟨fun k _=>k (.fn f [])⟩
def ia(n:Nat)(w:FW)(x:Operand)(k:SV->Prop):Prop:=(evB n x).run fun f=>f k w
def GN(n)(w):ia n w=az (eT n w):=by
 funext x k;cases x with
 |tmp t=>exact congrFun (G2 n w t) k
 |const v=>show ia n w (.const v) k=yj v k;cases v with|bool b=>cases b<;>rfl|_=>rfl
 |_=>rfl
def tL(n:Nat)(J:FW)(d:Option Tmp)(s:SV)(K:FW->Prop):Prop:=
 match d with
 |none=>K J
 |some d=>EP n J d s K
def I8{n}{J}{d}{s}{K}(h:tL n J d s K):∃F',K F'/\eT n F'=mB (eT n J) d s:=by cases d with|none=>exact⟨J,h,rfl⟩|some d=>exact aaY h
def GF(ops:List Oper)(j:Nat):Option Tmp:=tX (ig ops j) fun aa=>aa.dst
def Uw(ops)(j):GF ops j=rk ops j:=by unfold GF rk;rw[Au];cases ops[j]?<;>rfl
def Bm(ops:List Oper)(n:Nat)(J:FW)(u:Option (Nat×Bool))(yes no:Prop):Prop:=
 match u with
 |none=>yes
 |some (j,want)=>match GF ops j with
  |none=>False
  |some d=>uL n J d fun s=>match s,want with
   |.tt,true=>yes
   |.tt,false=>no
   |.ff,true=>no
   |.ff,false=>yes
   |.undef,_=>no
   |_,_=>False
def abO{ops}{n}{J}{u}{yes no}:Bm ops n J u yes no=Bl ops (eT n J) u yes no:=by unfold Bm Bl;cases u with|none=>rfl|some p=>obtain⟨j,want⟩:=p;simp only[Uw];cases rk ops j with|none=>rfl|some d=>simp only[];rw[G2];rfl
def vI(ad:HW)(n:Nat)(J:FW)(T:aG)(l:List ResultVar):(List SV->Prop)->Prop:=
 List.rec (fun k=>k [])
  (fun r _ ih k=>match r with
   |.tmp t=>uL n J t fun s=>ih fun r=>k (s::r)
   |.cell a t=>uL n J a fun s=>match s with
    |.ptr b off=>eZ ad b fun aT=>match aT with
     |.fix _ cs=>tO T cs off t fun s=>ih fun r=>k (s::r)
     |_=>False
    |_=>False) l
def aaA{ad}{n}{J}{T}(l):vI ad n J T l=A0 ad.view (eT n J) T l:=by
 induction l with
 |nil=>rfl
 |cons r l ih=>
  funext k
  have e:vI ad n J T (r::l) k=(match r with
   |.tmp t=>uL n J t fun s=>vI ad n J T l fun r=>k (s::r)
   |.cell a t=>uL n J a fun s=>match s with
    |.ptr b off=>eZ ad b fun aT=>match aT with|.fix _ cs=>tO T cs off t fun s=>vI ad n J T l fun r=>k (s::r)|_=>False
    |_=>False):=rfl
  rw[e,ih];cases r with|tmp t=>simp only[];rw[G2];rfl|cell a t=>simp only[];rw[G2,mV];rfl
def Tr(n:Nat)(args:List SV):Nat->FW->(FW->Prop)->Prop:=
 List.rec (fun _ w k=>k w) (fun a _ ih i w k=>EP n w i a fun w'=>ih (Nat.succ i) w' k) args
def F0:FW:=aO.cK (aO.cK .undef)
def JK(args:List SV)(n:Nat)(k:FW->Prop):Prop:=bo (Nat.ble n 256) (Tr n args 0 F0 k)
def afm{n}(args):∀{i w k},Tr n args i w k->∃w',k w'/\(args=[]\/i+args.length<=n)/\∀j,(eT n w')[j]?=if i<=j/\j<i+args.length/\j<min n 256 then args[j-i]? else(eT n w)[j]?:=by
 induction args with
 |nil=>intro i w k h;exact⟨w,h,.inl rfl,fun j=>by rw[ay sO]⟩
 |cons a args ih=>
  intro i w k h;have Q:i<n:=by obtain⟨E,_⟩:=bL (aaX h);have:=nw E;omega
  obtain⟨w1,h,hv⟩:=aaY h;obtain⟨w',h,hn,hw⟩:=ih h;refine⟨w',h,.inr ?_,fun j=>?_⟩;grind;rw[hw j,hv,bu];have hl:(eT n w).length=min n 256:=nu;by_cases E:Nat.succ i<=j/\j<Nat.succ i+args.length/\j<min n 256;grind;rw[ay E];by_cases F:i=j;simp_all;grind
def afx{i}(h:i<256):lh F0 i=some .undef:=by
 unfold lh F0;have:∀(x:SV)j,j<16->(aO.cK x).toAQ[j]?=some x:=fun x j hj=>by exact uc
 have F:∀(x:aO SV)j,j<16->(aO.cK x).toAQ[j]?=some x:=fun x j hj=>by exact uc
 grind
def abh{args}{n}{k}(h:JK args n k):∃J,k J/\∀w L g vs,b5 w L g args vs->cC w L g (eT n J) (vs.toArray++Array.replicate (n-vs.toArray.size) Go.undef):=by
 obtain⟨hn,h⟩:=bL h;have hn:=nw hn;obtain⟨J,h,hle,hF⟩:=afm args h;have hle:args.length<=n:=by rcases hle with rfl|hle;simp;omega
 refine⟨J,h,fun w L g vs D=>?_⟩;refine⟨?_,fun i s v hs hv=>?_⟩;have:(eT n J).length=min n 256:=nu;rw[this];simp only[KF,FC,Array.size_replicate];have:=D.1;omega;rw[hF i]at hs;have hl:=D.1;by_cases E:0<=i/\i<0+args.length/\i<min n 256;rw[au E,wh]at hs;have:(vs.toArray++Array.replicate (n-vs.toArray.size) Go.undef)[i]?=vs[i]?:=by rw[Ku (by simp;omega)];simp
 rw[this]at hv;exact D.2 i s v hs hv;rw[ay E]at hs;have Q:=(ao.1 hs).1;have d3:(eT n F0).length=min n 256:=nu;rw[d3]at Q;unfold eT at hs;rw[qH Q,afx G]at hs;simp at hs;subst hs;rw[Array.getElem?_append_right sO]at hv;rw[Array.getElem?_replicate]at hv;split at hv;simp at hv;subst hv;exact .undef;simp at hv
end
section
def mG(mk i:Nat):Bool:=Nat.beq (Nat.land 1 (Nat.shiftRight mk i)) 1
def E1(mk i):mG mk i=Nat.testBit mk i:=by unfold mG Nat.testBit;show Nat.beq (1&&&(mk>>>i)) 1=((1&&&(mk>>>i))!=0);rw[Nat.one_and_eq_mod_two];rcases Nat.mod_two_eq_zero_or_one (mk>>>i)with h|h<;>rw[h]<;>rfl
def r5(mk b:Nat):Nat:=Nat.lor mk (Nat.shiftLeft 1 b)
def Ek{mk b i}:(r5 mk b).testBit i=true↔mk.testBit i=true\/i=b:=by show(mk|||1<<<b).testBit i=true↔_;rw[Ky,KB,KK,FB];grind
def kI(l:List Nat):Nat:=List.rec 0 (fun b _ ih=>r5 ih b) l
def zl(l):∀i,(kI l).testBit i=true↔i∈l:=by induction l with|nil=>intro i;simp[kI]|cons b l ih=>intro i;show(r5 (kI l) b).testBit i=true↔_;rw[Ek,ih,gE];grind
def DU{a b:Nat}(h:Nat.beq (Nat.land a b) 0=true)(i)(ha:a.testBit i=true)(M:b.testBit i=true):False:=by
 have h:=gS h;have:(a&&&b).testBit i=true:=by rw[Nat.testBit_and,ha,M];rfl
 simp_all
def yE(l:List Operand)(m:Nat):Nat:=List.rec m (fun x _ ih=>match x with|.tmp t=>r5 ih t|_=>ih) l
def aud(l){m}:∀i,(yE l m).testBit i=true↔m.testBit i=true\/ .tmp i∈l:=by induction l with|nil=>intro i;simp[yE]|cons x l ih=>intro i;cases x with|tmp t=>show(r5 (yE l m) t).testBit i=true↔_;rw[Ek,ih];grind|_=>show(yE l m).testBit i=true↔_;rw[ih];simp
def AO(op:Op):List Operand:=
 match op with
 |.move x=>[x]|.assign x=>[x]|.box _ x=>[x]|.load _ x=>[x]|.nilCheck x=>[x]|.unOp _ _ x=>[x]|.convert _ _ x=>[x]
 |.makeInterface _ x=>[x]|.fieldAddr _ x _=>[x]|.field _ x _=>[x]|.range _ x=>[x]|.next x _=>[x]|.typeAssert x _ _ _=>[x]|.extract x _=>[x]
 |.pick c a b=>[c,a,b]
 |.store _ a v=>[a,v]|.binOp _ _ a v _=>[a,v]|.makeSlice _ a v=>[a,v]|.indexAddr _ a v=>[a,v]|.index _ a v=>[a,v]|.lookup _ a v _=>[a,v]|.mapEntry _ a v=>[a,v]
 |.mapUpdate _ m k v=>[m,k,v]|.entryStore _ m k v=>[m,k,v]
 |.alloc _=>[]
 |.call ⟨.value f,xs,_⟩=>f::xs.toList
 |.call ⟨.invoke f _,xs,_⟩=>f::xs.toList
 |.call ⟨.builtin _,xs,_⟩=>xs.toList
 |op=>op.operands.toList
def aoL(op):op.operands.toList=AO op:=by cases op with|call c=>have⟨callee,xs,kB⟩:=c;cases callee<;>simp[Op.operands,Call.operands,AO]|_=>first|rfl|simp[Op.operands,AO]
def Vp(all:List Oper)(u:Option (Nat×Bool))(m:Nat):Nat:=
 match u with
 |none=>m
 |some (j,_)=>match GF all j with
  |none=>m
  |some d=>r5 m d
def vh(all:List Oper)(aa:Oper):Nat:=Vp all aa.guard (yE (AO aa.op) 0)
def X5{ops}{aa}{t}(h:t∈aa.looksAt ops):(vh ops.toList aa).testBit t=true:=by
 unfold Oper.looksAt at h;unfold vh;rw[eJ]at h;have E:(∃x∈aa.op.operands.toList,x=Operand.tmp t)->(yE (AO aa.op) 0).testBit t=true:=by rintro⟨x,hx,rfl⟩;rw[aoL]at hx;exact(aud _ t).2 (.inr hx)
 cases U:aa.guard with
 |none=>rw[U]at h;rcases h with h|h;have⟨x,hx,hxt⟩:=FJ.1 h;refine E ⟨x,hx,?_⟩;grind;simp at h
 |some p=>
  have⟨j,b⟩:=p;rw[U]at h;simp only[Vp,Uw,rk,eF];rcases h with h|h;have⟨x,hx,hxt⟩:=FJ.1 h;have:(yE (AO aa.op) 0).testBit t=true:=E ⟨x,hx,by grind⟩;cases(ops[j]?).bind (·.dst)with|none=>exact this|some d=>exact Ek.2 (.inl this)
  simp only[Option.mem_toList]at h;have h:=h;rw[h];exact Ek.2 (.inr rfl)
def sS(aa:Oper):Nat:=match aa.dst with|none=>0|some d=>Nat.shiftLeft 1 d
def L0{aa:Oper}{d i:Nat}(h:aa.dst=some d):(sS aa).testBit i=true↔i=d:=by unfold sS;rw[h];show(1<<<d).testBit i=true↔_;rw[KB,KK,FB];grind
def zw(cl:List Nat)(l:List Edge):Nat->(Nat->Option (List Nat))->Option (List Nat):=
 List.rec (fun c k=>k c)
  (fun e _ ih c k=>match e.ground with
   |.textOnly _=>ih c k
   |.gcOnly _=>ih c k
   |_=>tX (ig cl e.on) fun a=>Nat.rec (ih 0 k) (fun x _=>ih (Nat.succ x) k) (r5 (Nat.lor c a) e.on)) l
def agX{cl}(l):∀{c k r},zw cl l c k=some r->∃c',k c'=some r/\(∀e∈l,Region.binds .any e=true->e.on<cl.length)/\∀j,c'.testBit j=true->c.testBit j=true\/ ∃e∈l,Region.binds .any e=true/\(e.on=j\/ ∃a,cl[e.on]?=some a/\a.testBit j=true):=by
 induction l with
 |nil=>intro c k r h;exact⟨c,h,sM,fun j hj=>.inl hj⟩
 |cons e l ih=>
  intro c k r h;have skip:Region.binds .any e=false->zw cl l c k=some r->∃c',k c'=some r/\(∀e'∈e::l,Region.binds .any e'=true->e'.on<cl.length)/\
   ∀j,c'.testBit j=true->c.testBit j=true\/ ∃e'∈e::l,Region.binds .any e'=true/\(e'.on=j\/ ∃a,cl[e'.on]?=some a/\a.testBit j=true):=fun M h=>by
   obtain⟨c',o,E,F⟩:=ih h
   refine⟨c',o,fun e' aK aP=>?_,fun j hj=>(F j hj).imp id fun⟨e',aK,r⟩=>⟨e',KL _ aK,r⟩⟩
   rcases gE.1 aK with rfl|aK
   ·rw[M]at aP;simp at aP
   ·exact E e' aK aP
  have take:Region.binds .any e=true->(tX (ig cl e.on) fun a=>Nat.rec (zw cl l 0 k) (fun x _=>zw cl l (Nat.succ x) k) (r5 (Nat.lor c a) e.on))=some r->∃c',k c'=some r/\(∀e'∈e::l,Region.binds .any e'=true->e'.on<cl.length)/\
   ∀j,c'.testBit j=true->c.testBit j=true\/ ∃e'∈e::l,Region.binds .any e'=true/\(e'.on=j\/ ∃a,cl[e'.on]?=some a/\a.testBit j=true):=fun M h=>by
   have⟨a,ha,h⟩:=E2 h
   rw[Au]at ha
   have h:zw cl l (r5 (Nat.lor c a) e.on) k=some r:=by
    revert h
    cases r5 (Nat.lor c a) e.on<;>exact fun h=>h
   have⟨c',o,E,F⟩:=ih h
   refine⟨c',o,fun e' aK aP=>?_,fun j hj=>?_⟩
   ·grind
   ·rcases F j hj with F|⟨e',aK,r⟩
    ·rcases Ek.1 F with h3|h3
     ·have h3:(c|||a).testBit j=true:=h3
      grind
     grind
    grind
  obtain⟨aw6,ground⟩:=e;cases ground with|textOnly _=>exact skip rfl h|gcOnly _=>exact skip rfl h|_=>exact take rfl h
def AR(c bY aQ:Nat)(done:List (Nat×Nat)):Nat->Bool:=
 List.rec (fun _=>true)
  (fun x _ ih j=>Bool.rec
   (Bool.rec false (Bool.rec false (ih (Nat.succ j)) (Nat.beq (Nat.land bY x.2) 0)) (Nat.beq (Nat.land (Nat.lor aQ bY) x.1) 0))
   (ih (Nat.succ j)) (mG c j)) done
def ao8{c bY aQ}(done:List (Nat×Nat)):∀{k},AR c bY aQ done k=true->∀j x,done[j]?=some x->c.testBit (k+j)=true\/(Nat.beq (Nat.land (Nat.lor aQ bY) x.1) 0=true/\Nat.beq (Nat.land bY x.2) 0=true):=by
 induction done with
 |nil=>simp_all
 |cons y done ih=>
  intro k h j x hx;have h:Bool.rec
   (Bool.rec false (Bool.rec false (AR c bY aQ done (Nat.succ k)) (Nat.beq (Nat.land bY y.2) 0)) (Nat.beq (Nat.land (Nat.lor aQ bY) y.1) 0))
   (AR c bY aQ done (Nat.succ k)) (mG c k)=true:=h
  have rest:AR c bY aQ done (Nat.succ k)=true->(c.testBit k=true\/(Nat.beq (Nat.land (Nat.lor aQ bY) y.1) 0=true/\Nat.beq (Nat.land bY y.2) 0=true))->
   c.testBit (k+j)=true\/(Nat.beq (Nat.land (Nat.lor aQ bY) x.1) 0=true/\Nat.beq (Nat.land bY x.2) 0=true):=fun E F=>by
   cases j<;>grind
  cases M:mG c k with|true=>rw[M]at h;exact rest h (.inl (by rw[<-E1];exact M))|false=>rw[M]at h;cases E:Nat.beq (Nat.land (Nat.lor aQ bY) y.1) 0 with|false=>simp_all|true=>rw[E]at h;cases F:Nat.beq (Nat.land bY y.2) 0<;>simp_all
def Px(n:Nat)(k:Nat->Option (List Nat)):Option (List Nat):=Nat.rec (k 0) (fun m _=>k (Nat.succ m)) n
def YI(n)(k:Nat->Option (List Nat)):Px n k=k n:=by cases n<;>rfl
def ZL(all:List Oper)(rest:List Oper):List (Nat×Nat)->List Nat->Option (List Nat):=
 List.rec (fun _ cl=>some cl)
  (fun aa _ ih done cl=>zw cl aa.after.toList 0 fun c=>Px (vh all aa) fun aQ=>Px (sS aa) fun bY=>
   Bool.rec none (ih (done++[(bY,aQ)]) (cl++[c])) (AR c bY aQ done 0)) rest
def I3(ops:Array Oper):Option (List Nat):=ZL ops.toList ops.toList [] []
def Ta(ops:Array Oper)(i c:Nat):Prop:=
 ∀aa,ops.toList[i]?=some aa->(∀p∈hI aa,p<i)/\FP ops.toList i c/\∀j oj,j<i->ops.toList[j]?=some oj->c.testBit j=true\/oj.apart ops aa=true
def ae4{ops}{oj aa}(E:Nat.beq (Nat.land (Nat.lor (vh ops.toList aa) (sS aa)) (sS oj)) 0=true)(F:Nat.beq (Nat.land (sS aa) (vh ops.toList oj)) 0=true):oj.apart ops aa=true:=by
 unfold Oper.apart;rw[bR];constructor;cases hd:oj.dst with
 |none=>rfl
 |some d=>
  have V4:=(L0 hd).2 rfl;simp only[bR,c5,bne_iff_ne,ne_eq];constructor;cases hc:(aa.looksAt ops).contains d with|false=>rfl|true=>have:=X5 (BM.1 hc);exact(DU E d (by simp_all) V4).elim
  intro hc;have:=(L0 hc).2 (rfl:d=d);exact DU E d (by simp_all) V4
 cases hd:aa.dst with|none=>rfl|some d=>simp only[c5];cases hc:(oj.looksAt ops).contains d with|false=>rfl|true=>exact(DU F d ((L0 hd).2 rfl) (X5 (BM.1 hc))).elim
def Pd{aa}{p}:p∈hI aa↔ ∃e∈aa.after.toList,Region.binds .any e=true/\e.on=p:=by unfold hI;simp_all
def apr{ops}(rest):∀{pre done cl r},ops.toList=pre++rest->done=pre.map (fun aa=>(sS aa,vh ops.toList aa))->cl.length=pre.length->(∀i c,cl[i]?=some c->Ta ops i c)->ZL ops.toList rest done cl=some r->r.length=ops.toList.length/\∀i c,r[i]?=some c->Ta ops i c:=by
 induction rest with
 |nil=>intro pre done cl r H hd hl fc h;have h:some cl=some r:=h;simp_all
 |cons aa rest ih=>
  intro pre done cl r H hd hl fc h;have⟨c,h,hp,hc⟩:=agX aa.after.toList h;rw[YI,YI]at h;cases M:AR c (sS aa) (vh ops.toList aa) done 0 with
  |false=>rw[M]at h;simp at h
  |true=>
   rw[M]at h;have NI:=ao8 done M;have h2:ops.toList[pre.length]?=some aa:=by rw[H];simp
   refine ih (pre:=pre++[aa]) (by rw[H];simp) (by rw[hd];simp) (by simp[hl]) (fun i c' Q=>?_) h;rw[gr]at Q;split at Q;exact fc i c' Q
   ·have uT:i-cl.length=0:=by have:=(ao.1 Q).1;simp at this;omega
    rw[uT]at Q;simp at Q;subst Q;have g9:i=pre.length:=G;subst g9;intro o' bf;rw[h2]at bf;simp at bf;subst bf;refine⟨fun p iV=>?_,fun aQ o' hL ND m0 j hj=>?_,fun j oj hj jt=>?_⟩;have⟨e,aK,aP,Hn⟩:=Pd.1 iV;grind;rw[h2]at ND;simp at ND;subst ND;rcases hc j hj with h0|⟨e,aK,aP,E|⟨a,ha,E⟩⟩;simp at h0;rw[<-E];exact m0 _ (Pd.2 ⟨e,aK,aP,rfl⟩);have hLp:=m0 _ (Pd.2 ⟨e,aK,aP,rfl⟩);have ai:e.on<pre.length:=by have:=(ao.1 ha).1;omega
    have NE:ops.toList[e.on]?=some pre[e.on]:=by rw[H,eU ai];exact aD ai
    have:=(fc e.on a ha _ NE).2.1;exact this aQ _ hL NE (hL e.on _ NE hLp) j E
    ·have C2:done[j]?=some (sS oj,vh ops.toList oj):=by rw[hd,bz];rw[H,eU hj]at jt;rw[jt];rfl
     rcases NI j _ C2 with E|⟨E,F⟩;grind;exact .inr (ae4 E F)
def sK(c W R:Nat)(prev:List (Nat×Nat×Nat)):Bool:=
 List.rec true (fun x _ ih=>Bool.rec
  (Bool.rec false (Bool.rec false ih (Nat.beq (Nat.land W x.2.2) 0)) (Nat.beq (Nat.land x.2.1 R) 0)) ih (mG c x.1)) prev
def ae5{c W R}(prev:List (Nat×Nat×Nat))(h:sK c W R prev=true):∀x∈prev,c.testBit x.1=true\/(Nat.beq (Nat.land x.2.1 R) 0=true/\Nat.beq (Nat.land W x.2.2) 0=true):=by
 induction prev with
 |nil=>simp_all
 |cons y prev ih=>
  intro x hx;have h:Bool.rec
   (Bool.rec false (Bool.rec false (sK c W R prev) (Nat.beq (Nat.land W y.2.2) 0)) (Nat.beq (Nat.land y.2.1 R) 0)) (sK c W R prev) (mG c y.1)=true:=h
  have rest:sK c W R prev=true->(c.testBit y.1=true\/(Nat.beq (Nat.land y.2.1 R) 0=true/\Nat.beq (Nat.land W y.2.2) 0=true))->c.testBit x.1=true\/(Nat.beq (Nat.land x.2.1 R) 0=true/\Nat.beq (Nat.land W x.2.2) 0=true):=fun E F=>by grind
  cases M:mG c y.1 with|true=>rw[M]at h;exact rest h (.inl (by rw[<-E1];exact M))|false=>rw[M]at h;cases E:Nat.beq (Nat.land y.2.1 R) 0 with|false=>simp_all|true=>rw[E]at h;cases F:Nat.beq (Nat.land W y.2.2) 0<;>simp_all
def tY(rs:List Rec):List Nat->Nat->List (Nat×Nat×Nat)->Prop->Prop:=
 List.rec (fun _ _ _ k=>k)
  (fun r _ ih cs i prev k=>List.rec False (fun c bU _=>
   iz (kI (r.ws.map (·.1))) fun W=>iz (kI r.aJ) fun R=>
    dy (Nat.beq (Nat.lor W R) 0) (ih bU (Nat.succ i) prev k) (bo (sK c W R prev) (ih bU (Nat.succ i) ((i,W,R)::prev) k))) cs) rs
def ana{a b:Nat}(h:Nat.beq (Nat.lor a b) 0=true)(i):a.testBit i=false/\b.testBit i=false:=by simp_all
def auh(rs):∀{cs i prev k}seen,seen.length=i->(∀j r,seen[j]?=some r->(∀b,b∉r.ws.map (·.1)/\b∉r.aJ)\/(j,kI (r.ws.map (·.1)),kI r.aJ)∈prev)->tY rs cs i prev k->k/\rs.length<=cs.length/\∀a j r rj c,rs[a]?=some r->cs[a]?=some c->j<i+a->(seen++rs)[j]?=some rj->c.testBit j=true\/((∀b∈rj.ws.map (·.1),b∉r.aJ)/\∀b∈r.ws.map (·.1),b∉rj.aJ):=by
 induction rs with
 |nil=>intro cs i prev k seen _ _ o;exact⟨o,cx _,sM⟩
 |cons r rs ih=>
  intro cs i prev k seen hl hs o;cases cs with
  |nil=>exact o.elim
  |cons c cs=>
   have o:iz (kI (r.ws.map (·.1))) fun W=>iz (kI r.aJ) fun R=>
    dy (Nat.beq (Nat.lor W R) 0) (tY rs cs (Nat.succ i) prev k) (bo (sK c W R prev) (tY rs cs (Nat.succ i) ((i,W,R)::prev) k)):=o
   have o:=mf (k:=fun W=>iz (kI r.aJ) fun R=>
    dy (Nat.beq (Nat.lor W R) 0) (tY rs cs (Nat.succ i) prev k) (bo (sK c W R prev) (tY rs cs (Nat.succ i) ((i,W,R)::prev) k))) o
   have o:=mf (k:=fun R=>dy (Nat.beq (Nat.lor (kI (r.ws.map (·.1))) R) 0) (tY rs cs (Nat.succ i) prev k) (bo (sK c (kI (r.ws.map (·.1))) R prev) (tY rs cs (Nat.succ i) ((i,kI (r.ws.map (·.1)),R)::prev) k))) o;have fin:∀{IR},(∀x∈prev,x∈IR)->((∀b,b∉r.ws.map (·.1)/\b∉r.aJ)\/(i,kI (r.ws.map (·.1)),kI r.aJ)∈IR)->
    ((∀b,b∉r.ws.map (·.1)/\b∉r.aJ)\/sK c (kI (r.ws.map (·.1))) (kI r.aJ) prev=true)->tY rs cs (Nat.succ i) IR k->
    k/\(r::rs).length<=(c::cs).length/\∀a j r' rj c',(r::rs)[a]?=some r'->(c::cs)[a]?=some c'->j<i+a->(seen++r::rs)[j]?=some rj->
     c'.testBit j=true\/((∀b∈rj.ws.map (·.1),b∉r'.aJ)/\∀b∈r'.ws.map (·.1),b∉rj.aJ):=fun{IR}e4 D nR o=>by
    obtain⟨E,F,h3⟩:=ih (seen++[r]) (by simp[hl]) (fun j rj hj=>by
     rw[gr]at hj
     split at hj
     ·grind
     ·have Dj:j-seen.length=0:=by have:=(ao.1 hj).1;simp at this;omega
      rw[Dj]at hj
      simp at hj
      subst hj
      have:j=i:=G
      grind) o
    refine⟨E,sO,fun a j r' rj c' ha hc hj Dz=>?_⟩
    cases a with
    |zero=>
     simp at ha hc
     subst ha;subst hc
     have p9:j<seen.length:=by omega
     rw[eU p9]at Dz
     rcases hs j rj Dz with H|hm
     ·grind
     ·rcases nR with H|nR
      ·grind
      ·rcases ae5 prev nR _ hm with h|⟨h,h'⟩
       ·exact .inl h
       ·exact .inr ⟨fun b M aP=>DU h b ((zl _ b).2 M) ((zl _ b).2 aP),fun b M aP=>DU h' b ((zl _ b).2 M) ((zl _ b).2 aP)⟩
    |succ a=>exact h3 a j r' rj c' (by simpa using ha) (by simpa using hc) G (by rw[sw];exact Dz)
   rcases gk o with⟨hz,o⟩|⟨_,o⟩;have H:∀b,b∉r.ws.map (·.1)/\b∉r.aJ:=fun b=>by have⟨E,F⟩:=ana hz b;constructor;intro h;rw[(zl _ b).2 h]at E;simp at E;intro h;rw[(zl _ b).2 h]at F;simp at F
   grind;have⟨nR,o⟩:=bL o;exact fin (fun x hx=>KL _ hx) (.inr sM) (.inr nR) o
end
section
def oH(h0 h:Hp)(wr:List Nat):Prop:=∀i,i<h0.length->i∉wr->h[i]?=h0[i]?
def oH.refl(h)(wr):oH h h wr:=fun _ _ _=>rfl
def jy(b:Nat)(l:List Nat):Bool:=List.rec false (fun x _ ih=>Bool.rec ih true (Nat.beq x b)) l
def DO(m b:Nat)(l:List Nat):List Nat:=Bool.rec (Bool.rec (b::l) l (jy b l)) l (Nat.ble m b)
def RG{ab:Prop}(k:ab:=by show Bool.rec (motive:=fun _=>Bool) (jy b l) true (Nat.beq x b)=_;rw[M]):ab:=k
def Pb{b:Nat}(l:List Nat)(h:jy b l=true):b∈l:=by
 induction l with
 |nil=>simp[jy]at h
 |cons x l ih=>
  cases M:Nat.beq x b with
  |true=>rw[gS M];simp
  |false=>
   have:jy b (x::l)=jy b l:=by exact RG
   rw[this]at h;simp[ih h]
def Ie{m b}{l}:(∀i,i∈l->i∈DO m b l)/\(b<m->b∈DO m b l):=by unfold DO;cases hm:Nat.ble m b with|true=>refine⟨fun i h=>h,fun h=>?_⟩;have:=nw hm;omega|false=>cases M:jy b l with|true=>exact⟨fun i h=>h,fun _=>Pb l M⟩|false=>simp_all
def P8(m b:Nat)(l:List Nat)(k:List Nat->Prop):Prop:=dy (Nat.ble m b) (k l) (dy (jy b l) (k l) (k (b::l)))
def ZZ{m b}{l}{k}(h:P8 m b l k):k (DO m b l):=by unfold DO;rcases gk h with⟨M,h⟩|⟨M,h⟩;rw[M];exact h;rw[M];rcases gk h with⟨d1,h⟩|⟨d1,h⟩<;>(rw[d1];exact h)
def DY(m:Nat)(ws:Ws):List Nat->(List Nat->Prop)->Prop:=
 List.rec (fun wr k=>k wr) (fun p _ ih wr k=>P8 m p.1 wr fun bt=>ih bt k) ws
def OQ{m}(ws):∀{wr k},DY m ws wr k->∃bt,k bt/\(∀i,i∈wr->i∈bt)/\∀p∈ws,p.1<m->p.1∈bt:=by induction ws with|nil=>intro wr k h;exact⟨wr,h,fun _ h=>h,sM⟩|cons p ws ih=>intro wr k h;have⟨bt,o,E,F⟩:=ih (ZZ (k:=fun bt=>DY m ws bt k) h);refine⟨bt,o,fun i Q=>E i (Ie.1 i Q),fun q hq ai=>?_⟩;rcases gE.1 hq with rfl|hq;exact E _ (Ie.2 ai);grind
def D6(m:Nat)(l:List Nat):List Nat->(List Nat->Prop)->Prop:=
 List.rec (fun wr k=>k wr) (fun b _ ih wr k=>P8 m b wr fun bt=>ih bt k) l
def Po{m}(l):∀{wr k},D6 m l wr k->∃bt,k bt/\(∀i,i∈wr->i∈bt)/\∀b∈l,b<m->b∈bt:=by induction l with|nil=>intro wr k h;exact⟨wr,h,fun _ h=>h,sM⟩|cons p ws ih=>intro wr k h;have⟨bt,o,E,F⟩:=ih (ZZ (k:=fun bt=>D6 m ws bt k) h);refine⟨bt,o,fun i Q=>E i (Ie.1 i Q),fun q hq ai=>?_⟩;rcases gE.1 hq with rfl|hq;exact E _ (Ie.2 ai);simp_all
def TK(b:bK)(k:bK->Prop):Prop:=match b with
 |.fresh=>k .fresh|.dead=>k .dead
 |.fix t cs=>k (.fix t cs)
 |.row t z es=>k (.row t z es)
 |.prow t z es=>k (.prow t z es)
 |.mapB es c=>k (.mapB es c)
 |.pmap es c=>k (.pmap es c)
 |.mit m s l st=>k (.mit m s l st)
 |.sit s p=>k (.sit s p)
 |.glob u t cs=>k (.glob u t cs)
 |.tail t z es=>k (.tail t z es)
 |.imap a b=>k (.imap a b)
 |.asn ab=>k (.asn ab)
def afV{b}{k}(h:TK b k):k b:=by cases b<;>exact h
def Bj(ws:Ws):HW->(HW->Prop)->Prop:=
 List.rec (fun ad k=>k ad) (fun p _ ih ad k=>TK p.2 fun b=>yx ad p.1 b fun H'=>ih H' k) ws
def Re{ws}:∀{ad k},Bj ws ad k->∃H',k H'/\H'.view=bF ws ad.view:=by induction ws with|nil=>intro ad k o;exact⟨ad,o,rfl⟩|cons p ws ih=>intro ad k o;have⟨H1,o,_,hv⟩:=ER (afV (k:=fun b=>yx ad p.1 b fun H'=>Bj ws H' k) o);have⟨H',o,gl⟩:=ih o;exact⟨H',o,by rw[gl,hv];rfl⟩
def rf0(s:SV)(acc:List Nat):List Nat:=match s with
 |.ptr b _=>b::acc|.ep b _ _=>b::acc|.sl b=>b::acc|.ss b _ _=>b::acc|.mp b=>b::acc|.it b=>b::acc|.tl b _=>b::acc|.tp b _ _ _=>b::acc
 |_=>acc
def sc(f:SV->List Nat->List Nat)(l:List SV)(acc:List Nat):List Nat:=List.rec acc (fun x _ ih=>f x ih) l
def qC(n:Nat):SV->List Nat->List Nat:=
 Nat.rec (fun s acc=>rf0 s acc) (fun _ ih s acc=>match s with
  |.agg cs=>sc ih cs acc
  |.tup cs=>sc ih cs acc
  |.fn _ cs=>sc ih cs acc
  |.eh _ cs=>sc ih cs acc
  |.ifc _ s=>ih s acc
  |s=>rf0 s acc) n
def Qv(b:bK)(acc:List Nat):List Nat:=match b with|.fix _ cs=>sc (qC 2) cs acc|.prow _ _ es=>List.rec acc (fun e _ ih=>sc (qC 2) e ih) es|.tail _ _ es=>List.rec acc (fun e _ ih=>sc (qC 2) e ih) es|.pmap es _=>List.rec acc (fun e _ ih=>qC 2 e.1 (qC 2 e.2.1 ih)) es|.mit mb _ _ _=>(match mb with|some b=>b::acc|none=>acc)|_=>acc
def vl(U:dm)(m:Nat)(fuel:Nat):List Nat->Nat->List Nat->(List Nat->Nat->Prop)->Prop:=
 Nat.rec (fun _ _ _ _=>False)
  (fun _ ih todo mk acc k=>List.rec (k acc mk) (fun b t _=>
   dy (Nat.ble m b) (dy (mG mk b) (ih t mk acc k) (U b fun aT=>iz (Nat.lor mk (Nat.shiftLeft 1 b)) fun AD=>ih (Qv aT t) AD (b::acc) k)) (ih t mk acc k)) todo) fuel
def BO(mk:Nat)(acc:List Nat):Prop:=∀i,mG mk i=true↔i∈acc
def Gh:BO 0 []:=fun i=>by rw[E1];simp
def afS{mk b:Nat}{acc}(h:BO mk acc):BO (Nat.lor mk (Nat.shiftLeft 1 b)) (b::acc):=fun i=>by rw[E1];show(mk|||1<<<b).testBit i=true↔_;rw[Ky,KB,KK,FB];have:=h i;rw[E1]at this;grind
def Iy{h:Hp}{m}:∀fuel{todo mk acc k},vl (av h) m fuel todo mk acc k->BO mk acc->(∀b∈acc,b<h.length)->∃BY AD,k BY AD/\BO AD BY/\∀b∈BY,b<h.length:=by
 intro fuel;induction fuel with
 |zero=>intro todo mk acc k h;cases h
 |succ n ih=>
  intro todo mk acc k h M hl;cases todo with
  |nil=>exact⟨acc,mk,h,M,hl⟩
  |cons b t=>
   rcases gk h with⟨_,h⟩|⟨_,h⟩;rcases gk h with⟨_,h⟩|⟨_,h⟩;exact ih h M hl;have⟨aT,hblk,h⟩:=bg h;have h:=mf (k:=fun AD=>vl (av _) m n (Qv aT t) AD (b::acc) k) h;refine ih h (afS M) fun c hc=>?_;grind
   exact ih h M hl
def JZ(U:dm)(wr:List Nat):List Nat->(List Nat->Prop)->Prop:=
 List.rec (fun acc k=>k acc) (fun i _ ih acc k=>U i fun b=>ih (Qv b acc) k) wr
def abV{h:Hp}(wr):∀{acc k},JZ (av h) wr acc k->∃BY,k BY:=by induction wr with|nil=>intro acc k h;exact⟨_,h⟩|cons i wr ih=>intro acc k h;have⟨b,_,h⟩:=bg h;exact ih h
def IV(m:Nat)(acc:List Nat):Nat->List Nat->(List (Nat×Nat)->Prop)->Prop:=
 List.rec (fun _ _ k=>k [])
  (fun a _ ih n seen k=>bo (Nat.ble m a) (dy (jy a seen) False (ih (Nat.succ n) (a::seen) fun aA=>k ((a,n)::aA)))) acc
def anw{b}(l)(h:jy b l=false):b∉l:=by
 induction l with
 |nil=>simp
 |cons x l ih=>
  cases M:Nat.beq x b with
  |true=>
   have:jy b (x::l)=true:=by exact RG
   simp_all
  |false=>
   have:jy b (x::l)=jy b l:=by exact RG
   rw[this]at h;have cW:x≠b:=fun e=>by simp_all
   grind
def Zb{m}(acc):∀{n seen k},IV m acc n seen k->∃aA,k aA/\(∀i p,aA[i]?=some p->m<=p.1/\p.2=n+i/\p.1∉seen)/\∀(i j:Nat)(p q:Nat×Nat),aA[i]?=some p->aA[j]?=some q->p.1=q.1->i=j:=by induction acc with|nil=>intro n seen k h;exact⟨[],h,sM,by simp⟩|cons a acc ih=>intro n seen k h;have⟨E,h⟩:=bL h;have E:=nw E;rcases gk h with⟨_,h⟩|⟨F,h⟩;cases h;have F:=anw _ F;have⟨aA,o,h3,h4⟩:=ih h;refine⟨_,o,fun i p hp=>?_,fun i j p q hp hq H=>?_⟩;grind;grind
def Zh(m:Nat)(aA:List (Nat×Nat))(bP:dm)(wr:List Nat):HW->(HW->Prop)->Prop:=
 List.rec (fun ad k=>k ad) (fun i _ ih ad k=>bP i fun b=>vK m (fun _=>true) aA b fun b'=>yx ad i b' fun H1=>ih H1 k) wr
def aoF{m}{aA}{h':Hp}(wr):∀{ad k},Zh m aA (av h') wr ad k->∃H1,k H1/\H1.view.length=ad.view.length/\(∀i,i∉wr->H1.view[i]?=ad.view[i]?)/\∀i∈wr,∃b b',h'[i]?=some b/\H1.view[i]?=some b'/\wz m (fun _=>true) aA b b':=by induction wr with|nil=>intro ad k o;exact⟨ad,o,rfl,fun _ _=>rfl,sM⟩|cons i wr ih=>intro ad k o;have⟨b,M,o⟩:=bg o;have⟨b',o,D,_⟩:=Jq o;have⟨KP,o,ai,hv⟩:=ER o;have⟨H1,o,hl,F,h3⟩:=ih o;grind
def YL(m:Nat)(aA:List (Nat×Nat))(bP:dm)(l:List (Nat×Nat)):HW->(HW->Prop)->Prop:=
 List.rec (fun ad k=>k ad) (fun p _ ih ad k=>bP p.1 fun b=>vK m (fun _=>true) aA b fun b'=>mn ad b' fun _ H1=>ih H1 k) l
def aoa{m}{aA}{h':Hp}(l:List (Nat×Nat)):∀{ad k},YL m aA (av h') l ad k->∃H' r,k H'/\H'.view=ad.view++r/\r.length=l.length/\∀(i:Nat)(p:Nat×Nat)(b':bK),l[i]?=some p->r[i]?=some b'->∃b,h'[p.1]?=some b/\wz m (fun _=>true) aA b b':=by induction l with|nil=>intro ad k h;exact⟨ad,[],h,sM,rfl,by simp⟩|cons p l ih=>intro ad k h;have⟨b,M,h⟩:=bg h;have⟨b',h,D,_⟩:=Jq h;have⟨H1,h,hv⟩:=vC h;have⟨H',r,h,gl,hl,F⟩:=ih h;refine⟨H',b'::r,h,by grind,by simp[hl],fun i q c hq hc=>?_⟩;cases i<;>grind
def G1(m:Nat)(ad H':HW)(wr:List Nat)(s:SV)(k:SV->HW->Prop):Prop:=
 JZ (eZ H') wr [] fun todo=>vl (eZ H') m 4096 (qC 3 s todo) 0 [] fun acc _=>IV m acc m [] fun aA=>oq m (fun _=>true) aA 3 s fun s'=>Zh m aA (eZ H') wr ad fun H1=>YL m aA (eZ H') aA H1 fun fz=>k s' fz
def ajA{m}{ad H'}{wr}{s}{k}{h h'}(lQ:ad.view=h)(eH':H'.view=h')(hm:m=h.length)(o:G1 m ad H' wr s k)(hc:oH h h' wr):∃s' fz bx,fz.view=bx/\k s' fz/\oH h bx wr/\h.length<=bx.length/\∀w0 w X b0 g v,Inv w0 X b0 h->Inv w X g h'->af w (Ex X g) g s v->Step b0.length w0 b0 w g->∃j_,af w (Ex X j_) j_ s' v/\Inv w X j_ bx/\Step b0.length w0 b0 w j_:=by
 unfold G1 at o;rw[mV,eH']at o;have⟨todo,o⟩:=abV wr o;have⟨acc,_,o,_,_⟩:=Iy 4096 o Gh sM;have⟨aA,o,d6,Nn⟩:=Zb acc o;have⟨s',o,hs⟩:=A2 3 o;have⟨H1,o,rc,hold,N7⟩:=aoF wr o;have⟨KP,news,o,n4,HA,iT⟩:=aoa aA o;rw[lQ]at rc hold;generalize H1.view=E at rc hold N7 n4;refine⟨s',KP,E++news,n4,o,fun i Q hw=>?_,by grind,fun w0 w X b0 g v kh O D hS=>?_⟩;grind;have alK:b0.length=m:=by rw[kh.len,hm]
 let A:List (Option Nat):=(List.range m).map some++aA.map fun p=>some p.1;have alI:∀i,i<m->A[i]?=some (some i):=fun i Q=>by grind
 have W5:∀i,m<=i->A[i]?=(aA[i-m]?).map fun p=>some p.1:=fun i Q=>by grind
 have rC:∀i a,A[i]?=some (some a)->(i<m/\a=i)\/(m<=i/\∃p,aA[i-m]?=some p/\a=p.1):=fun i a Q=>by rcases nD i m with ai|hk;grind;grind
 have awg:m<=h'.length:=by rcases yP m with h0|dX;omega;have ai:m-1<h.length:=G;by_cases hw:(m-1)∈wr;have⟨b,_,M,_⟩:=N7 _ hw;grind;have:=hc (m-1) G hw;grind
 have hlen:(E++news).length=A.length:=by show _=((List.range m).map some++aA.map fun p=>some p.1).length;simp[rc,HA,hm]
 have alA:∀V,(∀i a e,A[i]?=some (some a)->g[a]?=some e->V[i]?=some e)->uB m (fun _=>true) aA g V:=fun V U=>by refine⟨fun i e Q _ H _=>U i i e (alI i Q) H,fun a j e ha H=>?_⟩;have⟨i,Q⟩:=fx.1 ha;have:=(d6 i _ Q).2.1;simp only at this;subst this;refine U _ a e ?_ H;rw[W5 _ G,show m+i-m=i by omega,Q];rfl
 have hgg:∀(i a:Nat)(e:ba),A[i]?=some (some a)->g[a]?=some e->(A.map (lB g))[i]?=some e:=fun i a e E F=>by rw[bz,E];simp[lB,List.getD,F]
 have ax:=alA _ hgg
 obtain⟨axS,hE,_⟩:=apn O (A:=A) (bx:=E++news) hlen (fun i a Q=>by
  rcases rC i a Q with⟨E,rfl⟩|⟨E,p,hp,rfl⟩;omega;have oW:i-m<news.length:=by rw[HA];exact(ao.1 hp).1
  have⟨b,M,_⟩:=iT _ p _ hp (aD oW);grind) (fun i j a Q hj=>by
  rcases rC i a Q with⟨a1,a2⟩|⟨a1,p,hp,a2⟩;rcases rC j a hj with⟨b1,c0⟩|⟨b1,q,hq,c0⟩<;>grind;rcases rC j a hj with⟨b1,c0⟩|⟨b1,q,hq,c0⟩;grind;grind) (fun i b' Q aP=>by
  rcases nD i m with ai|hk;grind;rw[W5 i hk]at Q;cases hp:aA[i-m]? with|none=>grind|some p=>grind) (fun hE i a b b' e Q aP M H aw=>by
  rcases rC i a Q with⟨a1,rfl⟩|⟨a1,p,hp,rfl⟩;rw[eU (by omega)]at aP;by_cases hw:a∈wr;have⟨c,c',jN,g7,MN⟩:=N7 a hw;rw[M]at jN;simp at jN;subst jN;rw[aP]at g7;simp at g7;subst g7;exact MN w _ _ g _ e ax hE aw;rw[hold a hw]at aP;have MO:=hc a G hw;rw[M,aP]at MO;simp at MO;subst MO;have ai:a<b0.length:=G;have lY:=aD ai;have ok0:=kh.ok a _ _ aP lY;exact aB.wR ok0 alK ax hE aw;rw[jf G,rc,<-hm]at aP;have⟨c,jN,g7⟩:=iT _ p b' hp aP;rw[M]at jN;simp at jN;subst jN;exact g7 w _ _ g _ e ax hE aw)
 refine⟨_,hs w _ _ g _ v ax hE D,axS,⟨hS.os,hS.tape,hS.output,hS.size,hS.frame,fun u I U=>?_,fun i e Q H hf=>?_⟩⟩;have:bM g u:=by rcases I with⟨i,e,H,bP⟩;rw[bz]at H;cases ds:A[i]? with|none=>grind|some r=>rw[ds]at H;cases r with|none=>simp[lB]at H;subst H;simp[ba.owns]at bP|some a=>simp[lB,List.getD]at H;cases ha:g[a]? with|none=>rw[ha]at H;simp at H;subst H;simp[ba.owns]at bP|some e'=>rw[ha]at H;simp at H;subst H;exact⟨a,e',ha,bP⟩
 exact hS.gG u this U;rcases hS.g_ i e Q H hf with E|E;grind;grind
end
