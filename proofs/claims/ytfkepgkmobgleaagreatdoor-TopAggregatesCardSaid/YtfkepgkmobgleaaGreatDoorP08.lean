/- Lemmas for TopZ; tactic blocks in binders fill in some arguments. -/
import Derived.Test.YtfkepgkmobgleaaGreatDoorP07
set_option linter.all false
noncomputable section
namespace Go.Sx
section
variable{P:Program} {T:aG}
def tA(A:List Nat)(s:SV)(k:SV->Prop):Prop:=
 match s with
 |.ptr b aa=>av A b fun j=>k (.ptr j aa)
 |.ep b i f=>av A b fun j=>k (.ep j i f)
 |.sl b=>av A b fun j=>k (.sl j)
 |.any=>k .any|.undef=>k .undef|.int q n=>k (.int q n)|.tt=>k .tt|.ff=>k .ff|.bool b=>k (.bool b)|.str s=>k (.str s)
 |.nilp=>k .nilp|.nils=>k .nils|.rs z es=>k (.rs z es)|.rp z es i f=>k (.rp z es i f)|.ra u aa=>k (.ra u aa)|.rl u n c=>k (.rl u n c)
 |.mp b=>av A b fun j=>k (.mp j)|.nilm=>k .nilm|.nili=>k .nili|.z0=>k .z0
 |.ss b l n=>av A b fun j=>k (.ss j l n)|.it b=>av A b fun j=>k (.it j)|.tl b n=>av A b fun j=>k (.tl j n)
 |_=>False
def IQ(A:List Nat)(l:List SV):(List SV->Prop)->Prop:=
 List.rec (motive:=fun _=>(List SV->Prop)->Prop) (fun k=>k []) (fun x _ ih k=>tA A x fun y=>ih fun r=>k (y::r)) l
def yf(A:List Nat)(s:SV)(k:SV->Prop):Prop:=
 match s with
 |.ifc T x=>(match x with|.agg cs=>IQ A cs fun c=>k (.ifc T (.agg c))|x=>tA A x fun y=>k (.ifc T y))
 |.fn f cs=>IQ A cs fun c=>k (.fn f c)
 |s=>tA A s k
def D7(A:List Nat)(l:List SV):(List SV->Prop)->Prop:=
 List.rec (motive:=fun _=>(List SV->Prop)->Prop) (fun k=>k []) (fun x _ ih k=>yf A x fun y=>ih fun r=>k (y::r)) l
def nb(A:List Nat)(s:SV)(k:SV->Prop):Prop:=
 match s with
 |.agg cs=>D7 A cs fun c=>k (.agg c)
 |s=>yf A s k
def YG(A:List Nat)(l:List SV):(List SV->Prop)->Prop:=
 List.rec (motive:=fun _=>(List SV->Prop)->Prop) (fun k=>k []) (fun x _ ih k=>nb A x fun y=>ih fun r=>k (y::r)) l
def rZ(A:List Nat)(s:SV)(k:SV->Prop):Prop:=
 match s with
 |.tup vs=>YG A vs fun l=>k (.tup l)
 |s=>nb A s k
def IP(A:List Nat)(l:List (List SV)):(List (List SV)->Prop)->Prop:=
 List.rec (motive:=fun _=>(List (List SV)->Prop)->Prop) (fun k=>k []) (fun x _ ih k=>D7 A x fun y=>ih fun r=>k (y::r)) l
def AG(A:List Nat)(l:List (SV×SV×Nat)):(List (SV×SV×Nat)->Prop)->Prop:=
 List.rec (motive:=fun _=>(List (SV×SV×Nat)->Prop)->Prop) (fun k=>k []) (fun x _ ih k=>nb A x.1 fun a=>nb A x.2.1 fun b=>ih fun r=>k ((a,b,x.2.2)::r)) l
def IM(A:List Nat)(b:bK)(k:bK->Prop):Prop:=
 match b with
 |.fix t cs=>D7 A cs fun c=>k (.fix t c)
 |.row t z es=>k (.row t z es)
 |.dead=>k .dead
 |.fresh=>k .fresh
 |.prow t z es=>IP A es fun aS=>k (.prow t z aS)
 |.mapB es c=>k (.mapB es c)
 |.pmap es c=>AG A es fun aS=>k (.pmap aS c)
 |.mit m a l c=>(match m with|none=>k (.mit none a l c)|some b=>av A b fun j=>k (.mit (some j) a l c))
 |.sit s p=>k (.sit s p)
 |.glob _ _ _=>False
 |.tail _ _ _=>False
 |.imap es c=>k (.imap es c)
 |.asn ab=>k (.asn ab)
def r3(A:List Nat)(l:Hp):(Hp->Prop)->Prop:=
 List.rec (motive:=fun _=>(Hp->Prop)->Prop) (fun k=>k []) (fun b _ ih k=>IM A b fun c=>ih fun r=>k (c::r)) l
def KW(A:List Nat)(g V:Sg):Prop:=∀(i j:Nat)(e:ba),A[i]?=some j->g[i]?=some e->V[j]?=some e
def Mv(A:List Nat)(s s':SV):Prop:=∀w L E' g V v,KW A g V->(∀u,E' u->L u)->af w L g s v->af w E' V s' v
def F4(A:List Nat)(l l':List SV):Prop:=l.length=l'.length/\∀(i:Nat)(s s':SV),l[i]?=some s->l'[i]?=some s'->Mv A s s'
def Mv.nd{A}{s}(hf:eK s):Mv A s s:=fun w _ _ g V v _ hE D=>(hf w _ g [] v D).le hE V
def IH{A}{s}{k}(h:tA A s k):∃s',k s'/\Mv A s s':=by
 cases s<;>simp only[tA]at h;case ptr b aa=>obtain⟨j,hj,h⟩:=bg h;refine⟨_,h,fun w L E' g V v hm _ D=>?_⟩;cases D with|ptr U=>exact .ptr (hm _ _ _ hj U)|eD U=>exact .eD (hm _ _ _ hj U)
 case ep b i f=>obtain⟨j,hj,h⟩:=bg h;refine⟨_,h,fun w L E' g V v hm _ D=>?_⟩;cases D with|ep U=>exact .ep (hm _ _ _ hj U)|hb U=>exact .hb (hm _ _ _ hj U)
 case sl b=>obtain⟨j,hj,h⟩:=bg h;refine⟨_,h,fun w L E' g V v hm _ D=>?_⟩;cases D with|sl U=>exact .sl (hm _ _ _ hj U)|dE U=>exact .dE (hm _ _ _ hj U)|c9 U=>exact .c9 (hm _ _ _ hj U)
 case mp b=>obtain⟨j,hj,h⟩:=bg h;refine⟨_,h,fun w L E' g V v hm _ D=>?_⟩;cases D with|mp U=>exact .mp (hm _ _ _ hj U)|gN U=>exact .gN (hm _ _ _ hj U)
 case ss b l n=>obtain⟨j,hj,h⟩:=bg h;refine⟨_,h,fun w L E' g V v hm _ D=>?_⟩;cases D with|ss U hl I=>exact .ss (hm _ _ _ hj U) hl I|eS U=>exact .eS (hm _ _ _ hj U)|ej U=>exact .ej (hm _ _ _ hj U)
 case it b=>obtain⟨j,hj,h⟩:=bg h;refine⟨_,h,fun w L E' g V v hm _ D=>?_⟩;cases D with|it U=>exact .it (hm _ _ _ hj U)|ho U=>exact .ho (hm _ _ _ hj U)
 case tl b n=>obtain⟨j,hj,h⟩:=bg h;refine⟨_,h,fun w L E' g V v hm _ D=>?_⟩;cases D with|tl U hl I=>exact .tl (hm _ _ _ hj U) hl I|fM U=>exact .fM (hm _ _ _ hj U)|eY U=>exact .eY (hm _ _ _ hj U)
 case any=>exact⟨_,h,fun _ _ _ _ _ _ _ _ _=>.any⟩
 all_goals first|cases h|exact⟨_,h,.nd fun w L g V v D=>by(cases D<;>first|(constructor;done)|(constructor<;>assumption))⟩
def AH{A}{f:SV->(SV->Prop)->Prop}(hf:∀{s k},f s k->∃s',k s'/\Mv A s s')(l):∀{k},List.rec (motive:=fun _=>(List SV->Prop)->Prop) (fun k=>k []) (fun x _ ih k=>f x fun y=>ih fun r=>k (y::r)) l k->∃l',k l'/\F4 A l l':=by induction l with|nil=>intro k h;exact⟨[],h,rfl,by simp⟩|cons x l ih=>intro k h;obtain⟨y,h,hy⟩:=hf h;obtain⟨l',h,hl,dg⟩:=ih h;refine⟨y::l',h,by simp[hl],fun i s s' hs bW=>?_⟩;grind
def ady{ab:Prop}(k:ab:=by
 have Q:i<cs.length:=by rw[hl];exact(ao.1 hs).1
 exact hm i _ s (aD Q) hs w L E' g V v iw hE (hc i _ v (aD Q) hv)):ab:=k
def F4.agg{A}{cs l}(h:F4 A cs l):Mv A (.agg cs) (.agg l):=by obtain⟨hl,hm⟩:=h;intro w L E' g V v iw hE D;cases D with|agg hlen I hc=>refine .agg (hl▸hlen) I fun i s v hs hv=>?_;exact ady
def Mv.ifc{A}{T:TypeId}{x y}(h:Mv A x y):Mv A (.ifc T x) (.ifc T y):=by intro w L E' g V v iw hE D;cases D with|ifc D=>exact .ifc (h w L E' g V _ iw hE D)
def II{A}{s}{k}(h:yf A s k):∃s',k s'/\Mv A s s':=by
 cases s with
 |ifc T x=>
  have key:(∃cs,x=.agg cs/\IQ A cs (fun c=>k (.ifc T (.agg c))))\/tA A x (fun y=>k (.ifc T y)):=by cases x<;>first|exact .inl ⟨_,rfl,h⟩|exact .inr h
  rcases key with⟨cs,rfl,h⟩|h;obtain⟨l,h,hm⟩:=AH IH cs h;exact⟨_,h,.ifc hm.agg⟩;obtain⟨y,h,hm⟩:=IH h;exact⟨_,h,.ifc hm⟩
 |fn f cs=>obtain⟨l,h,hl,hm⟩:=AH IH cs h;refine⟨_,h,fun w L E' g V v iw hE D=>?_⟩;cases D with|fn hlen hc=>refine .fn (hl▸hlen) fun i s v hs hv=>?_;exact ady
 |_=>exact IH h
def IK{A}{s}{k}(h:nb A s k):∃s',k s'/\Mv A s s':=by
 cases s with
 |agg cs=>obtain⟨l,h,hl,hm⟩:=AH II cs h;refine⟨_,h,fun w L E' g V v iw hE D=>?_⟩;cases D with|agg hlen I hc=>refine .agg (hl▸hlen) I fun i s v hs hv=>?_;exact ady
 |_=>exact II h
def anV{A}{s}{k}(h:rZ A s k):∃s',k s'/\Mv A s s':=by
 cases s with
 |tup cs=>obtain⟨l,h,hl,hm⟩:=AH IK cs h;refine⟨_,h,fun w L E' g V v iw hE D=>?_⟩;cases D with|tup hlen hc=>refine .tup (hl▸hlen) fun i s v hs hv=>?_;exact ady
 |_=>exact IK h
def an1{A}(l):∀{k},IP A l k->∃l',k l'/\l.length=l'.length/\∀(i:Nat)(e e':List SV),l[i]?=some e->l'[i]?=some e'->F4 A e e':=by induction l with|nil=>intro k h;exact⟨[],h,rfl,by simp⟩|cons x l ih=>intro k h;obtain⟨y,h,hy⟩:=AH II x (show D7 A x (fun y=>IP A l fun r=>k (y::r))from h);grind
def anZ{A}(l:List (SV×SV×Nat)):∀{k},AG A l k->∃l',k l'/\l.length=l'.length/\∀(i:Nat)(e e':SV×SV×Nat),l[i]?=some e->l'[i]?=some e'->Mv A e.1 e'.1/\Mv A e.2.1 e'.2.1/\e.2.2=e'.2.2:=by induction l with|nil=>intro k h;exact⟨[],h,rfl,by simp⟩|cons x l ih=>intro k h;obtain⟨a,h,ha⟩:=IK (show nb A x.1 (fun a=>nb A x.2.1 fun b=>AG A l fun r=>k ((a,b,x.2.2)::r))from h);obtain⟨b,h,M⟩:=IK h;grind
def S7(A:List Nat)(b b':bK):Prop:=∀w L E' g V e,KW A g V->(∀u,E' u->L u)->aB w L g b e->aB w E' V b' e
def R8{ab:Prop}(k:ab:=by cases e<;>simp only[aB]at D⊢;obtain⟨E,F,h3,h4,vs,h5,h6,h7⟩:=D;refine⟨E,F,h3,h4,vs,h5,h6,fun i e H=>⟨(h7 i e H).1,fun j s hs=>?_⟩⟩;obtain⟨v,a,b,c⟩:=(h7 i e H).2 j s hs;exact⟨v,a,b.le hE [],c⟩;exact D):ab:=k
def RB{ab:Prop}(k:ab:=by refine⟨_,h,fun w L E' g V e iw hE D=>?_⟩;cases e<;>simp only[aB]at D⊢;exact D):ab:=k
def anX{A}{b}{k}(h:IM A b k):∃b',k b'/\S7 A b b':=by
 cases b with
 |fix t cs=>
  obtain⟨l,h,hl,hm⟩:=AH II cs h;refine⟨_,h,fun w L E' g V e iw hE D=>?_⟩;cases e<;>simp only[aB]at D⊢;obtain⟨vs,E,F,h3⟩:=D;refine⟨vs,E,by rw[<-hl];exact F,fun i s v hs hv=>?_⟩;have Q:i<cs.length:=by rw[hl];exact(ao.1 hs).1
  obtain⟨a,b⟩:=h3 i _ v (aD Q) hv;exact⟨hm i _ s (aD Q) hs w L E' g V v iw hE a,b⟩
 |row t z es=>refine⟨_,h,fun w L E' g V e iw hE D=>?_⟩;exact R8
 |dead=>exact⟨_,h,fun w L E' g V e _ _ D=>by cases e<;>first|exact D|exact D.elim⟩
 |fresh=>exact⟨_,h,fun w L E' g V e _ _ D=>by cases e<;>first|exact D|exact D.elim⟩
 |prow t z es=>
  obtain⟨l,h,hl,hm⟩:=an1 es h;refine⟨_,h,fun w L E' g V e iw hE D=>?_⟩;cases e<;>simp only[aB]at D⊢;obtain⟨E,F,h3,h4,vs,h5,h6,h7⟩:=D;refine⟨E,F.trans hl,h3,h4,vs,h5,h6,fun i e H=>?_⟩;have Q:i<es.length:=by rw[hl];exact(ao.1 H).1
  obtain⟨q1,q2⟩:=hm i _ e (aD Q) H;obtain⟨q3,q4⟩:=h7 i _ (aD Q);refine⟨q1▸q3,fun j s hs=>?_⟩;have hj:j<es[i].length:=by rw[q1];exact(ao.1 hs).1
  obtain⟨v,a,b,c⟩:=q4 j _ (aD hj);exact⟨v,a,q2 j _ s (aD hj) hs w L E' g V v iw hE b,c⟩;grind
 |mapB es c=>refine⟨_,h,fun w L E' g V e iw hE D=>?_⟩;cases e<;>simp only[aB]at D⊢;obtain⟨ms,E,F,h3⟩:=D;exact J2
 |pmap es c=>
  obtain⟨l,h,hl,hm⟩:=anZ es h;refine⟨_,h,fun w L E' g V e iw hE D=>?_⟩;cases e<;>simp only[aB]at D⊢;obtain⟨ms,E,F,h3⟩:=D;refine⟨ms,E,hl▸F,fun i e m H xG=>?_⟩;have Q:i<es.length:=by rw[hl];exact(ao.1 H).1
  obtain⟨q1,q2,q3⟩:=hm i _ e (aD Q) H;obtain⟨q4,q5,q6⟩:=h3 i _ m (aD Q) xG;exact⟨q1 w L E' g V _ iw hE q4,q2 w L E' g V _ iw hE q5,q6.trans q3⟩
 |mit m a l c=>cases m with|none=>exact RB|some b=>obtain⟨j,hj,h⟩:=bg h;refine⟨_,h,fun w L E' g V e iw hE D=>?_⟩;cases e<;>simp only[aB]at D⊢;obtain⟨r,E,F⟩:=D;refine⟨r,E,?_⟩;rcases F with⟨g',F,h3⟩|F;exact .inl ⟨g',iw _ _ _ hj F,h3⟩;exact .inr (iw _ _ _ hj F)
 |glob u t cs=>cases h
 |tail t z es=>cases h
 |asn ab=>exact RB
 |imap es c=>refine⟨_,h,fun w L E' g V e iw hE D=>?_⟩;cases e<;>simp only[aB]at D⊢;obtain⟨iX,ms,E,F,h3⟩:=D;exact Rv
 |sit s p=>exact RB
def Pt{A}(l):∀{k},r3 A l k->∃l',k l'/\l.length=l'.length/\∀(i:Nat)(b b':bK),l[i]?=some b->l'[i]?=some b'->S7 A b b':=by induction l with|nil=>intro k h;exact⟨[],h,rfl,by simp⟩|cons x l ih=>intro k h;obtain⟨y,h,hy⟩:=anX (show IM A x (fun c=>r3 A l fun r=>k (c::r))from h);grind
def Al(A:List Nat)(s s':SV)(k:Prop):Prop:=
 match s with
 |.ptr b aa=>match s' with|.ptr b' o'=>av A b fun j=>bd j b' (bd aa o' k)|_=>False
 |.ep b i f=>match s' with|.ep b' i' f'=>av A b fun j=>bd j b' (i=i'/\bd f f' k)|_=>False
 |.sl b=>match s' with|.sl b'=>av A b fun j=>bd j b' k|_=>False
 |.any=>k
 |.undef=>match s' with|.undef=>k|_=>False
 |.int q n=>match s' with|.int q' n'=>if q=q' then n'=n/\k else False|_=>False
 |.tt=>match s' with|.tt=>k|.bool b=>b=true/\k|_=>False
 |.ff=>match s' with|.ff=>k|.bool b=>b=false/\k|_=>False
 |.bool b=>match s' with|.bool b'=>b'=b/\k|.tt=>true=b/\k|.ff=>false=b/\k|_=>False
 |.nilp=>match s' with|.nilp=>k|_=>False
 |.nils=>match s' with|.nils=>k|_=>False
 |.rs z es=>match s' with|.rs z' aS=>bd z' z (aS=es/\k)|.nils=>es=[]/\k|_=>False
 |.mp b=>match s' with|.mp b'=>av A b fun j=>bd j b' k|_=>False
 |.ss b l n=>match s' with|.ss b' l' n'=>av A b fun j=>bd j b' (l=l'/\n=n'/\k)|_=>False
 |.it b=>match s' with|.it b'=>av A b fun j=>bd j b' k|_=>False
 |.tl b n=>match s' with|.tl b' n'=>av A b fun j=>bd j b' (n=n'/\k)|_=>False
 |.nilm=>match s' with|.nilm=>k|_=>False
 |.nili=>match s' with|.nili=>k|_=>False
 |s=>s'=s/\mU s k
def Ou(A:List Nat)(l:List SV):List SV->Prop->Prop:=
 List.rec (motive:=fun _=>List SV->Prop->Prop) (fun l' k=>List.rec (motive:=fun _=>Prop) k (fun _ _ _=>False) l')
  (fun s _ ih l' k=>List.rec (motive:=fun _=>Prop) False (fun s' t' _=>Al A s s' (ih t' k)) l') l
def Ol(A:List Nat)(s s':SV)(k:Prop):Prop:=
 match s with
 |.ifc T x=>(match s' with
  |.ifc T' y=>bd T T' (match x with|.agg cs=>(match y with|.agg bU=>Ou A cs bU k|_=>False)|x=>Al A x y k)
  |_=>False)
 |.fn f cs=>(match s' with|.fn f' bU=>bd f f' (Ou A cs bU k)|_=>False)
 |s=>Al A s s' k
def Ov(A:List Nat)(l:List SV):List SV->Prop->Prop:=
 List.rec (motive:=fun _=>List SV->Prop->Prop) (fun l' k=>List.rec (motive:=fun _=>Prop) k (fun _ _ _=>False) l')
  (fun s _ ih l' k=>List.rec (motive:=fun _=>Prop) False (fun s' t' _=>Ol A s s' (ih t' k)) l') l
def Am(A:List Nat)(s s':SV)(k:Prop):Prop:=
 match s with
 |.agg cs=>match s' with|.agg bU=>Ov A cs bU k|_=>False
 |s=>Ol A s s' k
def u_(A:List Nat)(l:List SV):List SV->Prop->Prop:=
 List.rec (motive:=fun _=>List SV->Prop->Prop) (fun l' k=>List.rec (motive:=fun _=>Prop) k (fun _ _ _=>False) l')
  (fun s _ ih l' k=>List.rec (motive:=fun _=>Prop) False (fun s' t' _=>Am A s s' (ih t' k)) l') l
def Xf(A:List Nat)(l:List (List SV)):List (List SV)->Prop->Prop:=
 List.rec (motive:=fun _=>List (List SV)->Prop->Prop) (fun l' k=>List.rec (motive:=fun _=>Prop) k (fun _ _ _=>False) l')
  (fun s _ ih l' k=>List.rec (motive:=fun _=>Prop) False (fun s' t' _=>Ov A s s' (ih t' k)) l') l
def Oq(A:List Nat)(l:List (SV×SV×Nat)):List (SV×SV×Nat)->Prop->Prop:=
 List.rec (motive:=fun _=>List (SV×SV×Nat)->Prop->Prop) (fun l' k=>List.rec (motive:=fun _=>Prop) k (fun _ _ _=>False) l')
  (fun s _ ih l' k=>List.rec (motive:=fun _=>Prop) False (fun s' t' _=>Am A s.1 s'.1 (Am A s.2.1 s'.2.1 (s.2.2=s'.2.2/\ih t' k))) l') l
def Xe(A:List Nat)(b b':bK)(k:Prop):Prop:=
 match b with
 |.fix t cs=>match b' with|.fix t' bU=>bd t' t (Ov A cs bU k)|_=>False
 |.row t z es=>match b' with|.row t' z' aS=>bd t' t (bd z' z (aS=es/\k))|_=>False
 |.dead=>match b' with|.dead=>k|_=>False
 |.prow t z es=>match b' with|.prow t' z' aS=>bd t' t (bd z' z (Xf A es aS k))|_=>False
 |.mapB es c=>match b' with|.mapB aS c'=>aS=es/\c'=c/\k|_=>False
 |.pmap es c=>match b' with|.pmap aS c'=>Oq A es aS (c'=c/\k)|_=>False
 |.imap es c=>match b' with|.imap aS c'=>aS=es/\c'=c/\k|_=>False
 |.asn ab=>match b' with|.asn A'=>A'=ab/\k|_=>False
 |_=>False
def x7(A:List Nat)(h:Hp)(l:List Nat):Hp->Prop->Prop:=
 List.rec (motive:=fun _=>Hp->Prop->Prop) (fun am k=>List.rec (motive:=fun _=>Prop) k (fun _ _ _=>False) am)
  (fun j _ ih am k=>List.rec (motive:=fun _=>Prop) False (fun b t _=>av h j fun b'=>Xe A b b' (ih t k)) am) l
def F9(A:List Nat)(g V:Sg):Prop:=∀(i j:Nat)(e:ba),A[i]?=some j->g[j]?=some e->V[i]?=some e
def In(A:List Nat)(s s':SV):Prop:=∀w L E' g V v,F9 A g V->(∀u,E' u->L u)->af w L g s' v->af w E' V s v
def In.nd{A}{s}(hf:eK s):In A s s:=fun w _ _ g V v _ hE D=>(hf w _ g [] v D).le hE V
def H6{A}{s s'}{k}(h:Al A s s' k):k/\In A s s':=by
 cases s<;>simp only[Al]at h;case ptr b aa=>
  cases s'<;>first|cases h|skip
  obtain⟨j,hj,h⟩:=bg h;obtain⟨e1,h⟩:=b2 h;obtain⟨e2,F⟩:=b2 h;subst e1;subst e2;refine⟨F,fun w L E' g V v hm _ D=>?_⟩;cases D with|ptr U=>exact .ptr (hm _ _ _ hj U)|eD U=>exact .eD (hm _ _ _ hj U)
 case ep b i f=>
  cases s'<;>first|cases h|skip
  obtain⟨j,hj,h⟩:=bg h;obtain⟨e1,e2,h⟩:=b2 h;obtain⟨e3,F⟩:=b2 h;subst e1;subst e2;subst e3;refine⟨F,fun w L E' g V v hm _ D=>?_⟩;cases D with|ep U=>exact .ep (hm _ _ _ hj U)|hb U=>exact .hb (hm _ _ _ hj U)
 case sl b=>
  cases s'<;>first|cases h|skip
  obtain⟨j,hj,h⟩:=bg h;obtain⟨e1,F⟩:=b2 h;subst e1;refine⟨F,fun w L E' g V v hm _ D=>?_⟩;cases D with|sl U=>exact .sl (hm _ _ _ hj U)|dE U=>exact .dE (hm _ _ _ hj U)|c9 U=>exact .c9 (hm _ _ _ hj U)
 case mp b=>
  cases s'<;>first|cases h|skip
  obtain⟨j,hj,h⟩:=bg h;obtain⟨e1,F⟩:=b2 h;subst e1;refine⟨F,fun w L E' g V v hm _ D=>?_⟩;cases D with|mp U=>exact .mp (hm _ _ _ hj U)|gN U=>exact .gN (hm _ _ _ hj U)
 case ss b l n=>
  cases s'<;>first|cases h|skip
  obtain⟨j,hj,h⟩:=bg h;obtain⟨e1,e2,e3,F⟩:=b2 h;subst e1;subst e2;subst e3;refine⟨F,fun w L E' g V v hm _ D=>?_⟩;cases D with|ss U hl I=>exact .ss (hm _ _ _ hj U) hl I|eS U=>exact .eS (hm _ _ _ hj U)|ej U=>exact .ej (hm _ _ _ hj U)
 case it b=>
  cases s'<;>first|cases h|skip
  obtain⟨j,hj,h⟩:=bg h;obtain⟨e1,F⟩:=b2 h;subst e1;refine⟨F,fun w L E' g V v hm _ D=>?_⟩;cases D with|it U=>exact .it (hm _ _ _ hj U)|ho U=>exact .ho (hm _ _ _ hj U)
 case tl b n=>
  cases s'<;>first|cases h|skip
  obtain⟨j,hj,h⟩:=bg h;obtain⟨e1,e2,F⟩:=b2 h;subst e1;subst e2;refine⟨F,fun w L E' g V v hm _ D=>?_⟩;cases D with|tl U hl I=>exact .tl (hm _ _ _ hj U) hl I|fM U=>exact .fM (hm _ _ _ hj U)|eY U=>exact .eY (hm _ _ _ hj U)
 case nilm=>cases s'<;>first|cases h|exact⟨h,fun _ _ _ _ _ _ _ _ D=>by cases D;exact .nilm⟩
 case nili=>cases s'<;>first|cases h|exact⟨h,fun _ _ _ _ _ _ _ _ D=>by cases D;exact .nili⟩
 case any=>exact⟨h,fun _ _ _ _ _ _ _ _ _=>.any⟩
 case undef=>cases s'<;>first|cases h|exact⟨h,fun _ _ _ _ _ _ _ _ D=>by cases D;exact .undef⟩
 case int q n=>
  cases s'<;>first|cases h|skip
  simp only[]at h;split at h;rename_i hq;subst hq;obtain⟨e,h⟩:=h;subst e;exact⟨h,fun _ _ _ _ _ _ _ _ D=>by cases D;exact .int⟩;exact h.elim
 case tt=>
  cases s'<;>first|exact h.elim|skip
  exact⟨h,fun _ _ _ _ _ _ _ _ D=>by cases D;exact .tt⟩;obtain⟨e,h⟩:=h;subst e;exact⟨h,fun _ _ _ _ _ _ _ _ D=>by cases D;exact .tt⟩
 case ff=>
  cases s'<;>first|exact h.elim|skip
  exact⟨h,fun _ _ _ _ _ _ _ _ D=>by cases D;exact .ff⟩;obtain⟨e,h⟩:=h;subst e;exact⟨h,fun _ _ _ _ _ _ _ _ D=>by cases D;exact .ff⟩
 case bool b=>
  cases s'<;>first|exact h.elim|skip
  all_goals obtain⟨e,h⟩:=h;subst e;exact⟨h,fun _ _ _ _ _ _ _ _ D=>by cases D;exact .bool⟩
 case nilp=>cases s'<;>first|cases h|exact⟨h,fun _ _ _ _ _ _ _ _ D=>by cases D;exact .nilp⟩
 case nils=>cases s'<;>first|cases h|exact⟨h,fun _ _ _ _ _ _ _ _ D=>by cases D;exact .nils⟩
 case rs z es=>
  cases s'<;>first|exact h.elim|skip
  exact adp;obtain⟨e,e',F⟩:=b2 h;subst e;subst e';exact⟨F,.nd fun w L g V v D=>by cases D<;>constructor<;>assumption⟩
 all_goals
  obtain⟨e,h⟩:=h
  obtain⟨h,hf⟩:=xa h
  subst e
  exact⟨h,.nd hf⟩
def An{A}{f:SV->SV->Prop->Prop}(hf:∀{s s' k},f s s' k->k/\In A s s')(l):∀{l' k},List.rec (motive:=fun _=>List SV->Prop->Prop) (fun l' k=>List.rec (motive:=fun _=>Prop) k (fun _ _ _=>False) l') (fun s _ ih l' k=>List.rec (motive:=fun _=>Prop) False (fun s' t' _=>f s s' (ih t' k)) l') l l' k->k/\l.length=l'.length/\∀(i:Nat)(s s':SV),l[i]?=some s->l'[i]?=some s'->In A s s':=by
 induction l with
 |nil=>intro l' k h;cases l' with|nil=>simp_all|cons x t=>cases h
 |cons s l ih=>intro l' k h;cases l' with|nil=>cases h|cons s' l'=>grind
def F3(A:List Nat)(l l':List SV):Prop:=l.length=l'.length/\∀(i:Nat)(s s':SV),l[i]?=some s->l'[i]?=some s'->In A s s'
def adJ{ab:Prop}(k:ab:=by
 have Q:i<bU.length:=by rw[<-hl];exact(ao.1 hs).1
 exact hc i s _ hs (aD Q) w L E' g V v hm hE (co i _ v (aD Q) hv)):ab:=k
def axO{ab:Prop}(k:ab:=by cases D with|agg hlen I co=>refine .agg (hl.trans hlen) I fun i s v hs hv=>?_;exact adJ):ab:=k
def F3.agg{A}{cs bU}(h:F3 A cs bU):In A (.agg cs) (.agg bU):=by obtain⟨hl,hc⟩:=h;intro w L E' g V v hm hE D;exact axO
def In.ifc{A}{T:TypeId}{x y}(h:In A x y):In A (.ifc T x) (.ifc T y):=by intro w L E' g V v hm hE D;cases D with|ifc D=>exact .ifc (h w L E' g V _ hm hE D)
def H7{A}{s s'}{k}(h:Ol A s s' k):k/\In A s s':=by
 cases s with
 |ifc T x=>
  cases s' with
  |ifc T' y=>
   obtain⟨e,hz⟩:=b2 h;subst e;clear h;have key:(∃cs bU,x=.agg cs/\y=.agg bU/\Ou A cs bU k)\/Al A x y k:=by
    cases x<;>first|exact .inr hz|skip
    cases y<;>first|simp_all|cases hz
   rcases key with⟨cs,bU,rfl,rfl,h⟩|h;obtain⟨h,hl,hc⟩:=An H6 cs h;exact⟨h,.ifc (F3.agg ⟨hl,hc⟩)⟩;obtain⟨h,Q⟩:=H6 h;exact⟨h,Q.ifc⟩
  |_=>cases h
 |fn f cs=>
  cases s' with
  |fn f' bU=>obtain⟨e,hz⟩:=b2 h;subst e;obtain⟨hz,hl,hc⟩:=An H6 cs hz;refine⟨hz,fun w L E' g V v hm hE D=>?_⟩;cases D with|fn hlen co=>refine .fn (hl.trans hlen) fun i s v hs hv=>?_;exact adJ
  |_=>cases h
 |_=>exact H6 h
def Om{A}{s s'}{k}(h:Am A s s' k):k/\In A s s':=by
 cases s with
 |agg cs=>cases s' with|agg bU=>obtain⟨h,hl,hc⟩:=An H7 cs h;refine⟨h,fun w L E' g V v hm hE D=>?_⟩;exact axO|_=>cases h
 |_=>exact H7 h
def al3{A}{args bH}(h:u_ A args bH True){w}{L E'}{g V}{vs}(hm:F9 A g V)(hE:∀u,E' u->L u)(D:b5 w L g bH vs):b5 w E' V args vs:=by
 obtain⟨_,hl,Q⟩:=An Om args h;refine⟨hl.trans D.1,fun i s v hs hv=>?_⟩;have ai:i<bH.length:=by rw[<-hl];exact(ao.1 hs).1
 exact Q i s _ hs (aD ai) w L E' g V v hm hE (D.2 i _ v (aD ai) hv)
def KT(A:List Nat)(b b':bK):Prop:=∀w L E' g V e,F9 A g V->(∀u,E' u->L u)->aB w L g b' e->aB w E' V b e
def alY{A}(l):∀{l' k},Xf A l l' k->k/\l.length=l'.length/\∀(i:Nat)(e e':List SV),l[i]?=some e->l'[i]?=some e'->F3 A e e':=by
 induction l with
 |nil=>intro l' k h;cases l' with|nil=>exact⟨h,rfl,by simp⟩|cons x t=>cases h
 |cons s l ih=>intro l' k h;cases l' with|nil=>cases h|cons s' l'=>obtain⟨h,E⟩:=An H7 s h;obtain⟨h,hl,F⟩:=ih h;refine⟨h,by simp[hl],fun i a a' ha g6=>?_⟩;cases i with|zero=>simp at ha g6;subst ha;subst g6;exact E|succ i=>grind
def alW{A}(l:List (SV×SV×Nat)):∀{l' k},Oq A l l' k->k/\l.length=l'.length/\∀(i:Nat)(e e':SV×SV×Nat),l[i]?=some e->l'[i]?=some e'->In A e.1 e'.1/\In A e.2.1 e'.2.1/\e.2.2=e'.2.2:=by
 induction l with
 |nil=>intro l' k h;cases l' with|nil=>exact⟨h,rfl,by simp⟩|cons x t=>cases h
 |cons s l ih=>intro l' k h;cases l' with|nil=>cases h|cons s' l'=>obtain⟨h,E⟩:=Om (show Am A s.1 s'.1 (Am A s.2.1 s'.2.1 (s.2.2=s'.2.2/\Oq A l l' k))from h);obtain⟨⟨h0,h⟩,F⟩:=Om h;grind
def alV{A}{b b'}{k}(h:Xe A b b' k):k/\KT A b b':=by
 cases b with
 |fix t cs=>
  cases b' with
  |fix t' bU=>
   obtain⟨e,h⟩:=b2 h;obtain⟨F,hl,hc⟩:=An H7 cs h;subst e;refine⟨F,fun w L E' g V e hm hE D=>?_⟩;cases e<;>simp only[aB]at D⊢;obtain⟨vs,E,F,h3⟩:=D;refine⟨vs,E,hl.trans F,fun i s v hs hv=>?_⟩;have Q:i<bU.length:=by rw[<-hl];exact(ao.1 hs).1
   obtain⟨a,b⟩:=h3 i _ v (aD Q) hv;exact⟨hc i s _ hs (aD Q) w L E' g V v hm hE a,b⟩
  |_=>cases h
 |row t z es=>
  cases b'<;>first|cases h|skip
  obtain⟨e1,h⟩:=b2 h;obtain⟨e2,e3,F⟩:=b2 h;subst e1;subst e2;subst e3;refine⟨F,fun w L E' g V e hm hE D=>?_⟩;exact R8
 |dead=>
  cases b'<;>first|cases h|skip
  exact⟨h,fun w L E' g V e _ _ D=>by cases e<;>first|exact D|exact D.elim⟩
 |prow t z es=>
  cases b'<;>first|cases h|skip
  obtain⟨e1,h⟩:=b2 h;obtain⟨e2,h⟩:=b2 h;obtain⟨F,hl,hc⟩:=alY es h;subst e1;subst e2;refine⟨F,fun w L E' g V e hm hE D=>?_⟩;cases e<;>simp only[aB]at D⊢;obtain⟨E,F,h3,h4,vs,h5,h6,h7⟩:=D;refine⟨E,F.trans hl.symm,h3,h4,vs,h5,h6,fun i e H=>?_⟩;have Q:=(ao.1 H).1;rw[hl]at Q;obtain⟨q1,q2⟩:=hc i e _ H (aD Q);obtain⟨q3,q4⟩:=h7 i _ (aD Q);refine⟨q1.trans q3,fun j s hs=>?_⟩;have hj:=(ao.1 hs).1;rw[q1]at hj;obtain⟨v,a,b,c⟩:=q4 j _ (aD hj);exact⟨v,a,q2 j s _ hs (aD hj) w L E' g V v hm hE b,c⟩;simp_all
 |mapB es c=>
  cases b'<;>first|exact h.elim|skip
  obtain⟨e1,e2,F⟩:=h;subst e1;subst e2;refine⟨F,fun w L E' g V e hm hE D=>?_⟩;cases e<;>simp only[aB]at D⊢;obtain⟨ms,E,F,h3⟩:=D;exact J2
 |imap es c=>
  cases b'<;>first|exact h.elim|skip
  obtain⟨e1,e2,F⟩:=h;subst e1;subst e2;refine⟨F,fun w L E' g V e hm hE D=>?_⟩;cases e<;>simp only[aB]at D⊢;obtain⟨iX,ms,E,F,h3⟩:=D;exact Rv
 |asn ab=>
  cases b'<;>first|exact h.elim|skip
  obtain⟨e1,F⟩:=h;subst e1;refine⟨F,fun w L E' g V e hm hE D=>?_⟩;cases e<;>simp only[aB]at D⊢;exact D
 |pmap es c=>
  cases b'<;>first|cases h|skip
  obtain⟨⟨e1,F⟩,hl,hc⟩:=alW es h;subst e1;refine⟨F,fun w L E' g V e hm hE D=>?_⟩;cases e<;>simp only[aB]at D⊢;obtain⟨ms,E,F,h3⟩:=D;refine⟨ms,E,hl.trans F,fun i e m H xG=>?_⟩;have Q:=(ao.1 H).1;rw[hl]at Q;obtain⟨q1,q2,q3⟩:=hc i e _ H (aD Q);obtain⟨q4,q5,q6⟩:=h3 i _ m (aD Q) xG;exact⟨q1 w L E' g V _ hm hE q4,q2 w L E' g V _ hm hE q5,q6.trans q3.symm⟩
 |_=>cases h
def On{A}{h}(l):∀{am k},x7 A h l am k->k/\l.length=am.length/\∀(i j:Nat)(b:bK),l[i]?=some j->am[i]?=some b->∃b',h[j]?=some b'/\KT A b b':=by
 induction l with
 |nil=>intro am k o;cases am with|nil=>exact⟨o,rfl,by simp⟩|cons b t=>cases o
 |cons j l ih=>intro am k o;cases am with|nil=>cases o|cons b t=>obtain⟨b',M,aU⟩:=bg o;obtain⟨dc,avU⟩:=alV aU;obtain⟨o,hl,D⟩:=ih dc;grind
end
section
variable{P:Program} {T:aG}
def DT(l:List Nat):Hp->Hp->(Hp->Prop)->Prop:=
 List.rec (fun I h K=>fA h I K)
  (fun j _ ih I h K=>List.rec False (fun b t _=>gg h j b fun h'=>ih t h' K) I) l
def amA(l):∀{I h K},DT l I h K->K (bF (l.zip I) h++I.drop l.length):=by induction l with|nil=>intro I h K o;exact iL o|cons j l ih=>intro I h K o;cases I with|nil=>cases o|cons b I=>exact ih (jb o).2
def vF(m n:Nat)(A:List Nat):Bool:=
 Nat.ble m A.length&&(A.take m).all (fun j=>Nat.blt j n)&&decide (A.take m).Nodup&&(List.range (A.length-m)).all fun k=>A.getD (m+k) 0==n+k
def arw{m n}{A}(h:vF m n A=true):m<=A.length/\(∀i j,i<m->A[i]?=some j->j<n)/\(∀i i' j,i<m->i'<m->A[i]?=some j->A[i']?=some j->i=i')/\∀i j,m<=i->A[i]?=some j->j=n+(i-m):=by
 simp only[vF,bR,ir,bs,Nat.ble_eq,pG,c6]at h;obtain⟨⟨⟨E,F⟩,h3⟩,h4⟩:=h;refine⟨E,fun i j Q hj=>?_,fun i i' j Q f_ hj p9=>?_,fun i j Q hj=>?_⟩;have:j∈A.take m:=bN (i:=i) (by grind);simp_all;have e1:(A.take m)[i]?=some j:=by rw[je,au Q];exact hj
 have e2:(A.take m)[i']?=some j:=by rw[je,au f_];exact p9
 exact(ue (ao.1 e1).1 h3).1 (e1.trans e2.symm);have hl:=(ao.1 hj).1;have:=h4 (i-m) (by omega);simp_all
def aq.Ql{f}{args bH}{am h}{R K}(hc:aq P f args am R)(A)(aF:vF am.length h.length A=true) (ha:u_ A args bH True)(At:(A.take am.length).length=am.length)(oX:∀(i j:Nat)(b:bK),(A.take am.length)[i]?=some j->am[i]?=some b->∃b',h[j]?=some b'/\KT A b b') (o:∀s I,R s I->bd I.length A.length (r3 A I fun bf=>mD am.length A fun e9=>DT e9 bf h fun ad=>rZ A s fun s'=>K s' ad)):aq P f bH h K:=by
 have⟨hm,ai,Dn,iT⟩:=arw aF;refine⟨fun w X g vs O D=>?_⟩;have W9:=O.len;let e9:=A.take am.length;let dU:Sg:=e9.map fun j=>g.getD j .dead;have rQ:∀i j,e9[i]?=some j↔i<am.length/\A[i]?=some j:=by intro i j;show(A.take am.length)[i]?=some j↔_;rw[je];split<;>simp[*]
 have Nq:e9.length=am.length:=At;have nZ:∀i e,dU[i]?=some e->∃j,i<am.length/\A[i]?=some j/\g[j]?=some e:=by intro i e H;simp only[dU,bz]at H;cases hj:e9[i]? with|none=>grind|some j=>grind
 have M5:∀i j e,i<am.length->A[i]?=some j->g[j]?=some e->dU[i]?=some e:=by intro i j e Q hj H;simp[dU,(rQ i j).2 ⟨Q,hj⟩,List.getD,H]
 have uZ:F9 A g dU:=by intro i j e hj H;by_cases Q:i<am.length;grind;grind
 have u3:∀u,bM dU u->bM g u:=fun u⟨i,e,H,U⟩=>by obtain⟨j,_,_,hj⟩:=nZ i e H;exact⟨j,e,hj,U⟩
 let X0:Nat->Prop:=fun u=>Ex X g u/\¬bM dU u;have lc:∀u,Ex X0 dU u↔Ex X g u:=fun u=>by constructor;rintro(⟨E,_⟩|E);exact E;exact .inr (u3 u E);intro E;by_cases F:bM dU u;exact .inr F;exact .inl ⟨E,F⟩
 have Nv:∀u,Ex X g u->u<w.heap.size:=fun u hx=>hx.elim (O.df u) fun⟨i,e,H,U⟩=>O.lt i e u H U;have kh:Inv w X0 dU am:=by refine⟨by simp[dU,Nq],fun i b e M H=>?_,fun i e u H U=>?_,fun i i' e e' u H aK U bP=>?_,fun u hx=>hx.2,fun u hx=>Nv u hx.1⟩;obtain⟨j,Q,hj,H⟩:=nZ i e H;obtain⟨b',aP,nU⟩:=oX i j b ((rQ i j).2 ⟨Q,hj⟩) M;exact nU w (Ex X g) (Ex X0 dU) g dU e uZ (fun u hx=>(lc u).1 hx) (O.ok j b' e aP H);obtain⟨j,_,_,H⟩:=nZ i e H;exact O.lt j e u H U;obtain⟨j,Q,hj,H⟩:=nZ i e H;obtain⟨j',f_,p9,aK⟩:=nZ i' e' aK;have:=O.inj j j' e e' u H aK U bP;grind
 have hW:=al3 ha uZ (fun u hx=>(lc u).1 hx) D;refine(hc.ok w X0 dU vs kh hW).mono fun v w'⟨s,I,b0,hR,bb,ct,hS⟩=>?_;have⟨HG,o⟩:=b2 (o s I hR);have⟨bf,o,dg,akT⟩:=Pt I o;have⟨_,o⟩:=yB o;have o:=amA _ o;have⟨s',o,iw⟩:=anV o;have W6:b0.length=A.length:=by rw[ct.len,HG]
 have d8:(e9.zip b0).map (·.1)=e9:=by rw[BN];omega
 have HY:(e9.zip bf).map (·.1)=e9:=by rw[BN];omega
 have lq:e9.Nodup:=by simp only[vF,bR,bs]at aF;exact aF.1.2
 let c7:Sg:=(e9.zip b0).foldl (fun h p=>h.set p.1 p.2) g;let V:Sg:=c7++b0.drop am.length;let ad:Hp:=bF (e9.zip bf) h++bf.drop am.length;have iR:bF ((A.take am.length).zip bf) h++bf.drop (A.take am.length).length=ad:=by show _=bF ((A.take am.length).zip bf) h++bf.drop am.length;rw[show(A.take am.length).length=am.length from Nq]
 rw[iR]at o;have rc:c7.length=g.length:=abJ _;have av4:(bF (e9.zip bf) h).length=h.length:=pB _;have rP:∀(i:Nat)(e:ba),V[i]?=some e->(i∉e9/\g[i]?=some e)\/(∃k:Nat,A[k]?=some i/\b0[k]?=some e):=by
  intro i e H;rw[gr]at H;split at H;by_cases Q:i∈e9;obtain⟨k,o⟩:=fx.1 Q;obtain⟨bi,aU⟩:=(rQ k i).1 o;have km:k<b0.length:=by omega
  have bq:(i,b0[k])∈e9.zip b0:=bN (i:=k) (by rw[ug];grind);have:=Rf (e9.zip b0) (h:=g) (by grind) _ bq (by omega);rw[show c7[i]?=some b0[k]from this]at H;exact .inr ⟨k,aU,by grind⟩;have:c7[i]?=g[i]?:=JX _ fun p hp H=>Q (by grind);grind;rename_i hk;rw[uj]at H;have km:=(ao.1 H).1;have bV:A[am.length+(i-c7.length)]?=some A[am.length+(i-c7.length)]:=aD (by omega);have:=iT _ _ (by omega) bV;refine .inr ⟨_,?_,H⟩;grind
 have zT:∀(k i:Nat)(e:ba),A[k]?=some i->b0[k]?=some e->V[i]?=some e:=by intro k i e o H;by_cases p_:k<am.length;have cF:=(rQ k i).2 ⟨p_,o⟩;have cj:=ai k i p_ o;rw[eU (by omega)];have bq:(i,e)∈e9.zip b0:=bN (i:=k) (by rw[ug];grind);exact Rf _ (by grind) (i,e) bq (by omega);have:=iT k i (by omega) o;rw[jf (by omega),uj];rw[show am.length+(i-c7.length)=k by omega];exact H
 have Nk:∀(k i:Nat)(b:bK),A[k]?=some i->bf[k]?=some b->ad[i]?=some b:=by intro k i e o H;by_cases p_:k<am.length;have cF:=(rQ k i).2 ⟨p_,o⟩;have cj:=ai k i p_ o;rw[eU (by omega)];have bq:(i,e)∈e9.zip bf:=bN (i:=k) (by rw[ug];grind);exact abH _ (by grind) (i,e) bq (by omega);have:=iT k i (by omega) o;rw[jf (by omega),uj];rw[show am.length+(i-(bF (e9.zip bf) h).length)=k by omega];exact H
 have akQ:∀i,i∉e9->i<h.length->ad[i]?=h[i]?:=by intro i Q cj;rw[eU (by omega)];exact oB _ fun p hp H=>Q (by grind)
 have WB:KW A b0 V:=fun i j e hj H=>zT i j e hj H;have awp:∀(i j:Nat)(e:ba),A[i]?=some j->g[j]?=some e->i<am.length:=by intro i j e hj H;have:=(ao.1 H).1;cases nD i am.length with|inl h=>exact h|inr h=>grind
 have Af:∀(i:Nat)(e:ba)(u:Nat),i∉e9->g[i]?=some e->e.owns u->X0 u:=by intro i e u Q H U;refine⟨.inr ⟨i,e,H,U⟩,fun⟨k,e',aK,bP⟩=>?_⟩;obtain⟨j,p_,hj,aK⟩:=nZ k e' aK;have:=O.inj i j e e' u H aK U bP;subst this;exact Q (bN ((rQ k i).2 ⟨p_,hj⟩))
 have CO:∀u,Ex X V u->Ex X0 b0 u:=by exact J3
 have awX:dU.length=am.length:=by simp[dU,Nq]
 have ca:Step g.length w g w' V:=by refine⟨hS.os,hS.tape,hS.output,hS.size,fun u U I=>hS.frame u U fun h=>I (u3 u h),fun u⟨i,e,H,U⟩qa=>?_,fun i e Q H hf=>?_⟩;exact RK;by_cases f_:i∈e9;obtain⟨k,o⟩:=fx.1 f_;obtain⟨bi,aU⟩:=(rQ k i).1 o;exact(hS.g_ k e (by omega) (M5 k i e bi aU H) hf).imp (zT k i _ aU) (zT k i _ aU);left;rw[eU (by omega)];rw[show c7[i]?=g[i]? from JX _ fun p hp H=>f_ (by rw[<-H,<-d8];exact ew.2 ⟨p,hp,rfl⟩)];exact H
 have hlen:V.length=ad.length:=by show(c7++b0.drop am.length).length=(bF (e9.zip bf) h++bf.drop am.length).length;simp only[c_,Fu];omega
 refine⟨s',ad,V,o,iw w' _ _ b0 V v WB CO bb,⟨hlen,fun i b e M H=>?_,fun i e u H U=>?_,fun i j e e' u Q hj U bP=>?_,fun u hx br=>?_,fun u hx=>fj (O.df u hx) hS.size⟩,ca⟩;rcases rP i e H with⟨Q,H⟩|⟨k,o,H⟩;have cj:=(ao.1 H).1;rw[akQ i Q (by omega)]at M;exact(O.ok i b e M H).step ca (aC _) fun u U=>hS.frame u (O.lt i e u H U) fun br=>(Af i e u Q H U).2 br
 have km:k<b0.length:=(ao.1 H).1;have Wp:k<I.length:=by omega
 rw[Nk k i _ o (aD (show k<bf.length by omega))]at M;simp at M;subst M;exact akT k _ _ (aD Wp) (aD (show k<bf.length by omega)) w' _ _ b0 V e WB CO (ct.ok k _ e (aD Wp) H);exact acS;exact adE;obtain⟨i,e,H,U⟩:=br;exact RE
def aq.arx{f}{args bH}{am h}{R K}(hc:aq P f args am R)(A)(aF:vF am.length h.length A=true) (ha:u_ A args bH True)(hh:mD am.length A fun e9=>x7 A h e9 am True) (o:∀s I,R s I->bd I.length A.length (r3 A I fun bf=>mD am.length A fun e9=>DT e9 bf h fun ad=>rZ A s fun s'=>K s' ad)):aq P f bH h K:=by have⟨_,At,oX⟩:=On _ (yB hh).2;exact hc.Ql A aF ha At oX o
structure al(P:Program)(f:FuncId)(args:List SV)(am:Hp)(R:SV->Hp->Prop):Prop where
 ok:aq P f args am R
def al.call{f}{args bH}{am h}{R K}(hs:al P f args am R)(A)(aF:vF am.length h.length A=true) (ha:u_ A args bH True)(hh:mD am.length A fun e9=>x7 A h e9 am True) (o:∀s I,R s I->bd I.length A.length (r3 A I fun bf=>mD am.length A fun e9=>DT e9 bf h fun ad=>rZ A s fun s'=>K s' ad)):aq P f bH h K:=hs.ok.arx A aF ha hh o
end
section
variable{P:Program} {T:aG}
def QJ(A:eV)(s s':SV)(k:Prop):Prop:=
 match s' with
 |.agg bU=>match s with|.agg cs=>EW A cs bU k|_=>False
 |s'=>EU A s s' k
def abd(A:eV)(l:List SV):List SV->Prop->Prop:=
 List.rec (fun l' k=>List.rec k (fun _ _ _=>False) l')
  (fun s _ ih l' k=>List.rec False (fun s' t' _=>QJ A s s' (ih t' k)) l') l
def QK(A:eV)(s s':SV)(k:Prop):Prop:=
 match s' with
 |.tup cP=>match s with|.tup vs=>abd A vs cP k|_=>False
 |s'=>QJ A s s' k
def K2(A:eV)(s s':SV):Prop:=∀w L E' g V v,qT g V A->(∀u,E' u->L u)->af w L g s v->af w E' V s' v
def aa9{A}{s s'}{k}(h:QJ A s s' k):k/\K2 A s s':=by
 cases s' with
 |agg bU=>
  cases s with
  |agg cs=>
   have⟨h,hl,hc⟩:=JI cs h;refine⟨h,fun w L E' g V v ht hE D=>?_⟩;cases D with
   |agg hlen I co=>
    refine .agg (hl▸hlen) I fun i s v hs hv=>?_;have Q:i<cs.length:=by rw[hl];exact(ao.1 hs).1
    exact hc w L E' g V ht hE i _ s v (aD Q) hs (co i _ v (aD Q) hv)
  |_=>cases h
 |_=>exact EV h
def atl{A}(l):∀{l' k},abd A l l' k->k/\l.length=l'.length/\∀(i:Nat)(s s':SV),l[i]?=some s->l'[i]?=some s'->K2 A s s':=by induction l with|nil=>intro l' k h;exact acn|cons s l ih=>intro l' k h;cases l' with|nil=>cases h|cons s' l'=>have⟨h,E⟩:=aa9 h;have⟨h,hl,F⟩:=ih h;grind
def aba{A}{s s'}{k}(h:QK A s s' k):k/\K2 A s s':=by
 cases s' with
 |tup bU=>
  cases s with
  |tup cs=>have⟨h,hl,hc⟩:=atl cs h;refine⟨h,fun w L E' g V v ht hE D=>?_⟩;cases D with|tup hlen co=>refine .tup (hl▸hlen) fun i s v hs hv=>?_;exact adL
  |_=>cases h
 |_=>exact aa9 h
structure a6(m:Nat)(s:SV)(h:Hp)(R:SV->Hp->Prop):Prop where
 ok:∃s' h',R s' h'/\∀(w:World)(X:Nat->Prop)(g:Sg)(v:Value),Inv w X g h->af w (Ex X g) g s v->∃V,Inv w X V h'/\af w (Ex X V) V s' v/\Step m w g w V
def a6.of{m}{s}{h}{R}(A)(s')(h')(aF:mw m A=true)(hR:R s' h')(o:QK A s s' (nL A h A h' True)):a6 m s h R:=by have⟨o,hs⟩:=aba o;refine⟨s',h',hR,fun w X g v O D=>?_⟩;have⟨V,aE,hS,qj,hE⟩:=aa3 A aF o O;exact⟨V,aE,hs w _ _ g V v qj hE D,hS⟩
def al.mono{f}{args}{am}{R R'}(hs:al P f args am R)(D:∀s h,R s h->R' s h):al P f args am R':=
 ⟨⟨fun w X g vs O DB=>(hs.ok.ok w X g vs O DB).mono fun _ _⟨s,I,V,E,F⟩=>⟨s,I,V,D _ _ E,F⟩⟩⟩
def eb.shift{m}{c}{J F'}{h h'}{K}(hs:lM m J h F' h')(o:eb P m c F' h' K):eb P m c J h K:=fun w X g tmps O hF=>by obtain⟨V,aE,cB,hS⟩:=hs.ok w X g tmps O hF;refine j8 (o w X V tmps aE cB) fun e a w'⟨hd,x,F2,F,c8,hx,hK,be,lW,b_⟩=>⟨hd,x,F2,F,c8,hx,hK,be,lW,hS.trans b_⟩
def kd{α:Type}{f}{ls:List α}{i}{k}(Q:i<ls.length)(h:∀x,ls[i]?=some x->k (f x)):BP (ls.map f) i k:=
 ⟨f ls[i],by simp[Q],h _ (aD Q)⟩
end
section
variable{P:Program} {T:aG}
end
section
variable{P:Program} {T:aG}
def y5(P:Program)(t:TypeId)(name:String)(f:FuncId):Prop:=∀w v,(method (P.types.size+Made.depth) t v name).run P w=.ok (f,v) w
structure ael(P:Program)(t:TypeId)(name:String)(args:List SV)(h:Hp)(K:SV->Hp->Prop):Prop where
 ok:∃f,y5 P t name f/\aq P f args h K
structure aek(P:Program)(t:TypeId)(name:String)(args:List SV)(h:Hp)(ae:Nat)(K:bC):Prop where
 ok:∃f,y5 P t name f/\oF P f args h ae K
def KS(P:Program)(t ag:TypeId)(b:Bool):Prop:=∃ms i,P.underlying t=some (.interface ms)/\P.info? ag=some i/\(Instr.missingMethod ms i.methods).isNone=b
structure aei(P:Program)(t ag:TypeId)(yes no:Prop):Prop where
 ok:∃b,KS P t ag b/\(b=true->yes)/\(b=false->no)
structure wu(es:List IE)(seen:List Nat)(yes:Int->SV->Nat->Prop)(no:Prop):Prop where
 left:∀k v s,(k,v,s)∈es->s∉seen->yes k v s
 right:(∀e∈es,e.2.2∈seen)->no
def YP(h:Hp)(x:SV)(K:SV->Hp->Prop)(kf:Prop):Prop:=match x with
 |.it b=>av h b fun bw=>match bw with|.mit (some m) since seen st=>av h m fun wp=>(match wp with|.imap es ck=>(since=ck/\st=ck)/\wu es seen (fun k v s=>gg h b (.mit (some m) since (seen++[s]) ck) fun h'=>K (.tup [.tt,.int .i64 k,v]) h') (K (.tup [.ff]) h)|_=>kf)|_=>kf
 |_=>kf
def yl(P:Program)(T:aG)(J:Fr)(h:Hp)(op:Op)(K:SV->Hp->Prop):Prop:=
 match jX T op with
 |true=>DL h yA fun n=>fA h [.fresh] fun h'=>Ei P T J h' n op fun s ws _=>t_ ws h' fun bx=>K s bx
 |false=>Ei P T J h 0 op fun s ws _=>t_ ws h fun bx=>K s bx
def AN(P:Program)(T:aG)(J:Fr)(h:Hp)(op:Op)(K:SV->Hp->Prop):Prop:=
 match op with
 |.call ⟨.value x,xs,_⟩=>az J x fun x=>match x with
  |.fn f cs=>mT J xs.toList fun l=>fA l cs fun l=>aq P f l h K
  |.eh f cs=>mT J xs.toList fun l=>fA cs l fun l=>aq P f l h K
  |_=>False
 |.call ⟨.invoke r name,xs,_⟩=>az J r fun x=>match x with
  |.ifc t s=>mT J xs.toList fun l=>ael P t name (s::l) h K
  |_=>False
 |.typeAssert x xt t true=>aX T t fun te=>(match te.ti with
  |.iface=>az J x fun s=>match s with
   |.ifc ag s0=>aei P t ag (K (.tup [.ifc ag s0,.tt]) h) (k6 T t fun z=>K (.tup [z,.ff]) h)
   |_=>False
  |_=>yl P T J h (.typeAssert x xt t true) K)
 |.next x str=>(match str with
  |true=>yl P T J h (.next x true) K
  |false=>az J x fun s=>YP h s K (yl P T J h (.next x false) K))
 |op=>yl P T J h op K
def vz(P:Program)(T:aG)(all:List Oper)(l:List Oper):Fr->Hp->(Fr->Hp->Prop)->Prop:=
 List.rec (fun J h K=>K J h)
  (fun aa _ ih J h K=>Mt all J aa.guard
   (fun J=>AN P T J h aa.op fun s h'=>kr J aa.dst s fun F'=>ih F' h' K)
   (fun J=>kr J aa.dst .undef fun F'=>ih F' h K)) l
def pS(P:Program)(T:aG)(m:Nat)(c:Code):Fr->Hp->mN->Prop:=
 Code.rec
  (fun J h K=>K .normal J h)
  (fun id ops draw J h K=>match draw with
   |false=>vz P T ops.toList ops.toList J h (K .normal)
   |true=>cf P m id ops J h (K .normal))
  (fun _ _ jV jW J h K=>jV J h fun x J h=>match x with
   |.normal=>jW J h K
   |.exit i=>K (.exit i) J h
   |.ret=>K .ret J h)
  (fun c _ _ jV jW J h K=>az J c fun s=>match s with
   |.tt=>jV J h K
   |.ff=>jW J h K
   |.qb p=>(p->jV J h K)/\jW J h K
   |.bool x=>match c with
    |.tmp d=>(x=true->gg J d .tt fun J=>jV J h K)/\(x=false->gg J d .ff fun J=>jW J h K)
    |_=>False
   |_=>False)
  (fun id _ ih J h K=>ih J h fun x J h=>match x with
   |.normal=>K .normal J h
   |.exit i=>match Nat.beq i id with
    |true=>K .normal J h
    |false=>K (.exit i) J h
   |.ret=>K .ret J h)
  (fun c _ J h K=>b6 P m c J h K)
  (fun _ _ _ _ _ _ _ _ _=>False)
  (fun id J h K=>K (.exit id) J h)
  (fun _ ih J h K=>ih J h K)
  (fun _ J h K=>K .normal J h)
  (fun _ _ _ _=>False)
  (fun J h K=>K .ret J h)
  (fun _ _ _ _=>False) c
def D_(T:aG)(op:Op):Bool:=
 match op with
 |.call ⟨.value _,_,_⟩=>true
 |.call ⟨.invoke _ _,_,_⟩=>true
 |op=>jX T op
def Ma(P:Program)(T:aG)(J:Fr)(h:Hp)(ae:Nat)(op:Op)(K:bC):Prop:=
 match jX T op with
 |true=>av h ae fun b=>match b with|.fresh=>Ei P T J h ae op K|_=>False
 |false=>Ei P T J h 0 op K
def Mc(P:Program)(T:aG)(J:Fr)(h:Hp)(ae:Nat)(op:Op)(K:bC):Prop:=
 match op with
 |.call ⟨.value x,xs,_⟩=>az J x fun x=>match x with
  |.fn f cs=>mT J xs.toList fun l=>fA l cs fun l=>oF P f l h ae K
  |.eh f cs=>mT J xs.toList fun l=>fA cs l fun l=>oF P f l h ae K
  |_=>False
 |.call ⟨.invoke r name,xs,_⟩=>az J r fun x=>match x with
  |.ifc t s=>mT J xs.toList fun l=>aek P t name (s::l) h ae K
  |_=>False
 |op=>Ma P T J h ae op K
def Cr(P:Program)(T:aG)(all l:List Oper):Nat->List Nat->Fr->Hp->(List Rec->Fr->Hp->Prop)->Prop:=
 List.rec (fun _ _ J h K=>K [] J h)
  (fun aa _ ih i ids J h K=>List.rec False (fun ae DM _=>
   Bl all J aa.guard
    (Mc P T J h ae aa.op fun s ws aJ=>QO (Vr all i) s fun s=>kr J aa.dst s fun F'=>t_ ws h fun h'=>ih (Nat.succ i) DM F' h' fun rs=>K (⟨s,ws,aJ⟩::rs))
    (kr J aa.dst .undef fun F'=>ih (Nat.succ i) DM F' h fun rs=>K (⟨.undef,[],[]⟩::rs))) ids) l
def vJ(T:aG)(l:List Oper):Hp->(List Nat->Hp->Prop)->Prop:=
 List.rec (fun h k=>k [] h)
  (fun aa _ ih h k=>match D_ T aa.op with
   |true=>DL h yA fun n=>fA h [.fresh] fun h'=>ih h' fun ns bx=>k (n::ns) bx
   |false=>ih h fun ns bx=>k (0::ns) bx) l
def Ut(P:Program)(T:aG)(ops:Array Oper)(J:Fr)(h:Hp)(K:Fr->Hp->Prop):Prop:=
 vJ T ops.toList h fun ids h'=>Cr P T ops.toList ops.toList 0 ids J h' fun rs F' bx=>O_ rs fun ms=>x8 ops ms=true/\K F' bx
def apo(hT:bl P T){J}{h}{op}{K}(o:yl P T J h op K) {w}{X}{g}{a:Act}(O:Inv w X g h)(hF:cC w (Ex X g) g J a.tmps)(d:Option Tmp)(ty:TypeId)(pos)(after)(guard:Option (Nat×Bool)):bO P (execOp a.eval ⟨d,op,ty,pos,after,guard⟩) w fun v w'=>∃s h' V,K s h'/\af w' (Ex X V) V s v/\Inv w' X V h'/\Step g.length w g w' V:=by unfold yl at o;cases d6:jX T op with|true=>rw[d6]at o;obtain⟨n,hn,o⟩:=Of o;have hn:=atN hn;subst hn;have o:=iL o;obtain⟨s,ws,aJ,o,aw,_⟩:=IW hT (fun _=>by simp) o;obtain⟨aE,ca⟩:=O.fresh;have cB:=hF.step ca (aC _);exact((aw w X _ _ a.eval d ty pos after guard aE (fun x _=>cB.iA x) (fun _ _=>rfl)).done).mono fun v w'⟨V,a1,a2,a3⟩=>⟨s,_,V,E6 o,a1,a2,ca.trans a3.any⟩|false=>rw[d6]at o;obtain⟨s,ws,aJ,o,aw,_⟩:=IW hT (fun h=>by simp[d6]at h) o;exact((aw w X _ _ a.eval d ty pos after guard O (fun x _=>hF.iA x) (fun _ _=>rfl)).done).mono fun v w'⟨V,a1,a2,a3⟩=>⟨s,_,V,E6 o,a1,a2,a3⟩
def Yr{t:TypeId}{name f}(hm:y5 P t name f){ev r xs kB v}(aF:ev r=.iface t v){d}{ty:TypeId}{pos after guard}(w):(execOp ev ⟨d,.call ⟨.invoke r name,xs,kB⟩,ty,pos,after,guard⟩).run P w=(callFunc f ((v::xs.toList.map ev).toArray)).run P w:=by
 have hm:=hm w v;have e1:(v::xs.toList.map ev).toArray= #[v]++xs.map ev:=by apply BL;simp
 have e2:(#[Value.iface t v]++xs.map ev).extract 1 (#[Value.iface t v]++xs.map ev).size=xs.map ev:=by apply BL;simp[j9]
 rw[e1];simp only[execOp,resolve,aF,bJ,da,cb,invoke];rw[show(#[Value.iface t v]++Array.map ev xs)[0]?=some (Value.iface t v) by rw[Ku sM];rfl];simp only[e2,callMethod,bJ];simp_all
def Jp{w L g l cs a b}(E:b5 w L g l a)(F:b5 w L g cs b):b5 w L g (l++cs) (a++b):=by refine⟨by rw[c_,c_,E.1,F.1],fun i s v hs hv=>?_⟩;rw[gr]at hs hv;rw[<-E.1]at hv;split at hs;rename_i ai;rw[au ai]at hv;exact E.2 i s v hs hv;rename_i ai;rw[ay ai]at hv;exact F.2 _ s v hs hv
def U5{w L g f cs v}(h:af w L g (.fn f cs) v):∃vs:Array Value,v=.func (.func f) #[] vs/\b5 w L g cs vs.toList:=by cases h with| @fn _ _ _ vs hlen co=>exact⟨vs,rfl,by simpa using hlen,fun i s v hs hv=>co i s v hs (by simpa using hv)⟩
def Ys{w L g f cs v}(h:af w L g (.eh f cs) v):∃vs:Array Value,v=.func (.func f) vs #[]/\b5 w L g cs vs.toList:=by cases h with| @eh _ _ _ vs hlen co=>exact⟨vs,rfl,by simpa using hlen,fun i s v hs hv=>co i s v hs (by simpa using hv)⟩
def Oj{w L g}{t:TypeId}{s v}(h:af w L g (.ifc t s) v):∃ag,v=.iface t ag/\af w L g s ag:=by cases h with|ifc h=>exact⟨_,rfl,h⟩
def Qq{w L g l a s v}(E:af w L g s v)(F:b5 w L g l a):b5 w L g (s::l) (v::a):=by refine⟨by simp[F.1],fun i s' v' hs hv=>?_⟩;cases i with|zero=>simp_all|succ i=>exact F.2 i s' v' (by simpa using hs) (by simpa using hv)
def asw{α:Type}{n}(hn:0<n)(k:Nat->Sem α)(w):∃i d,i<n/\(choose (.mapNext n)>>=k).run P w=(k i).run P {w with drawn:=d}:=by by_cases E:n<=1;refine⟨0,w.drawn,hn,?_⟩;show(Sem.bind (.choose (.mapNext n) .pure) k).run P w=_;simp only[Sem.bind,Sem.run,Question.forced,E,KH,dw];refine⟨w.tape w.drawn (.mapNext n)% n,w.drawn+1,BG _ hn,?_⟩;show(Sem.bind (.choose (.mapNext n) .pure) k).run P w=_;simp only[Sem.bind,Sem.run,Question.forced,E,KI,dI,ek,Question.cut]
def aoj{h:Hp}{b m}{es}{ck}{seen}{K:SV->Hp->Prop}(M:h[b]?=some (.mit (some m) ck seen ck))(hm:h[m]?=some (.imap es ck)) (o:wu es seen (fun k v s=>gg h b (.mit (some m) ck (seen++[s]) ck) fun h'=>K (.tup [.tt,.int .i64 k,v]) h') (K (.tup [.ff]) h)) {w}{X}{g}(O:Inv w X g h){vx}(hx:af w (Ex X g) g (.it b) vx)(ty:TypeId):∃v w',(Instr.next vx false ty).run P w=.ok v w'/\∃s h' V,K s h'/\af w' (Ex X V) V s v/\Inv w' X V h'/\Step g.length w g w' V:=by
 obtain⟨u,ak,r,U,D⟩:=vt O M (.inr ⟨_,_,_,_,rfl⟩);have akS:m<g.length:=by rw[O.len];exact(ao.1 hm).1
 have H:=aD akS;have ki:=O.ok m _ _ hm H;generalize g[m]=e at H ki;cases e<;>simp only[aB]at ki;rename_i g5;obtain⟨iX,ms,p6,hlen,o8⟩:=ki;have o_:r=some g5:=by exact adn
 subst o_;have hv:vx=.pointer (some ⟨u,0,none⟩):=by cases hx with|it h'=>simp_all|ho h'=>simp_all
 have VT:∀mm∈ms,mm.born<ck:=fun mm rJ=>by
  obtain⟨i,Q,rfl⟩:=SI.1 rJ;have g9:i<es.length:=by rw[hlen];exact Q
  obtain⟨_,_,h3⟩:=o8 i _ _ (aD g9) (c4 Q);rw[h3];exact iX.2.2 _ (Kq g9)
 have V0:(!seen.toArray.isEmpty&& !ms.isEmpty&&ms.all (fun e=>decide (e.born≥ck)))=false:=by
  cases xG:ms.isEmpty with
  |true=>simp
  |false=>
   have dX:0<ms.size:=by rcases yP ms.size with h0|h0;simp_all;exact h0
   grind
 generalize uV:(ms.filter fun e=> !seen.toArray.contains e.born)=left;have dd:∀mm∈left,mm∈ms/\mm.born∉seen:=fun mm rJ=>by grind
 have o1:(left.filter fun x=>decide (x.born<ck))=left:=by rw[Array.filter_eq_self];intro mm rJ;exact qM (VT mm (dd mm rJ).1)
 have o2:(left.filter fun x=>decide (x.born≥ck))= #[]:=by rw[Array.filter_eq_empty_iff];intro mm rJ;have:=VT mm (dd mm rJ).1;simp;omega
 by_cases hz:left= #[];refine⟨.tuple #[.bool false],w,?_,.tup [.ff],h,g,o.2 fun e aK=>?_,Jn .ff,O,.refl _ _ _⟩;rw[hv];simp only[Instr.next,getObj,bJ,Sem.run,U,p6,Result.andThen,V0,dI,ek,uV,o1,o2,hz,choose];simp[Question.forced,Sem.run];obtain⟨i,Q⟩:=fx.1 aK;have him:i<ms.size:=by rw[<-hlen];exact(ao.1 Q).1
 obtain⟨_,_,h3⟩:=o8 i _ _ Q (c4 him);grind;have dX:0<left.size:=by rcases yP left.size with h0|h0;simp_all;exact h0
 have g9:left.isEmpty=false:=by rw[Bool.eq_false_iff];intro h;exact absurd (Array.isEmpty_iff.1 h) hz
 obtain⟨i,d,Q,a7⟩:=asw (P:=P) (n:=(left.map some).size) (by simpa using dX) (fun n=>(match(left.map some)[n]? with
  |some (some e)=>do
   setObj u (.mapIter (some g5) ck (seen.toArray.push e.born) ck)
   pure (.tuple #[.bool true,e.key,e.val])
  |some none=>pure (.tuple #[.bool false])
  |none=>stuck "Next: no such candidate" :Sem Value)) w
 have f_:i<left.size:=by simpa using Q
 obtain⟨xH,qc⟩:=dd left[i] (Array.getElem_mem f_);obtain⟨j,hj,oY⟩:=SI.1 xH;have dq:j<es.length:=by rw[hlen];exact hj
 obtain⟨a1,a2,a3⟩:=o8 j _ _ (aD dq) (c4 hj);rw[oY]at a1 a2 a3;have hK:=o.1 es[j].1 es[j].2.1 es[j].2.2 (Kq dq) (by rw[<-a3];exact qc);obtain⟨_,hK⟩:=jb hK;have be:Inv {w with drawn:=d} X g h:=O.heap rfl;have oU:=U;have hp:=I_ (aa:=.mapIter (some g5) ck (seen++[es[j].2.2]).toArray ck) (bw:=.mit (some m) ck (seen++[es[j].2.2]) ck) be ak fun hS=>⟨some g5,JE oU,.inl ⟨g5,H,rfl⟩⟩;have Hb:Step g.length w g {w with drawn:=d} g:=⟨rfl,rfl,rfl,aC _,fun _ _ _=>rfl,fun _ h _=>h,fun _ _ _ h _=>.inl h⟩
 refine⟨.tuple #[.bool true,left[i].key,left[i].val],j5 {w with drawn:=d} u (.mapIter (some g5) ck (seen++[es[j].2.2]).toArray ck),?_,_,_,g,hK,
  Jo .tt (by rw[a1];exact .int) (mv ((a2.hP Hb).hP hp.2)),hp.1,Hb.trans hp.2⟩
 rw[hv];have akc:((if left.isEmpty=true then #[none]else #[])++Array.map some (left++ #[]))=left.map some:=by rw[g9];simp
 have key:(Instr.next (.pointer (some ⟨u,0,none⟩)) false ty).run P w=(choose (.mapNext (left.map some).size)>>=(fun n=>(match(left.map some)[n]? with
  |some (some e)=>do
   setObj u (.mapIter (some g5) ck (seen.toArray.push e.born) ck)
   pure (.tuple #[.bool true,e.key,e.val])
  |some none=>pure (.tuple #[.bool false])
  |none=>stuck "Next: no such candidate" :Sem Value))).run P w:=by
  simp only[Instr.next,getObj,bJ,Sem.run,U,p6,Result.andThen,V0,dI,ek,uV,o1,o2,akc]
  rfl
 rw[key,a7];have bc:(left.map some)[i]?=some (some left[i]):=by simp[f_]
 rw[bc];simp only[setObj,bJ,Sem.run,oU,Result.andThen,a3];simp[j5]
def aoh{J h x s kf K}(hx:∀w L g A,bA w L g J A x->af w L g s (A x))(o:YP h s K kf):kf\/ ∀(w:World)(X:Nat->Prop)(g:Sg)(a:Act),Inv w X g h->cC w (Ex X g) g J a.tmps->∀d ty pos after guard,bO P (execOp a.eval ⟨d,.next x false,ty,pos,after,guard⟩) w fun v w'=>∃s h' V,K s h'/\af w' (Ex X V) V s v/\Inv w' X V h'/\Step g.length w g w' V:=by
 cases s with
 |it b=>
  obtain⟨bw,M,o⟩:=bg o;cases bw with
  |mit mb since seen st=>
   cases mb with
   |none=>exact .inl o
   |some m=>
    obtain⟨wp,hm,o⟩:=bg o;cases wp with
    |imap es ck=>
     obtain⟨⟨e1,e2⟩,o⟩:=o;subst e1;subst e2;refine .inr fun w X g a O hF d ty pos after guard=>?_;have D:=hx w _ g a.eval (hF.iA x);obtain⟨v,w',a7,E⟩:=aoj (P:=P) M hm o O D ty;unfold bO;have:(execOp a.eval ⟨d,.next x false,ty,pos,after,guard⟩).run P w=.ok (.value v) w':=by show((do pure (.value (<-Instr.next (a.eval x) false ty)):Sem Next)).run P w=_;simp only[bJ,a7,cb,da]
     simp_all
    |_=>exact .inl o
  |_=>exact .inl o
 |_=>exact .inl o
def Zj(hT:bl P T){J}{h}{op}{K}(o:AN P T J h op K) {w}{X}{g}{a:Act}(O:Inv w X g h)(hF:cC w (Ex X g) g J a.tmps)(d:Option Tmp)(ty:TypeId)(pos)(after)(guard:Option (Nat×Bool)):bO P (execOp a.eval ⟨d,op,ty,pos,after,guard⟩) w fun v w'=>∃s h' V,K s h'/\af w' (Ex X V) V s v/\Inv w' X V h'/\Step g.length w g w' V:=by
 have plain:yl P T J h op K->bO P (execOp a.eval ⟨d,op,ty,pos,after,guard⟩) w fun v w'=>∃s h' V,K s h'/\af w' (Ex X V) V s v/\Inv w' X V h'/\Step g.length w g w' V:=
  fun h'=>apo hT h' O hF d ty pos after guard
 cases op with
 |call c=>
  obtain⟨callee,xs,kB⟩:=c;cases callee with
  |value x=>obtain⟨sx,o,hx⟩:=bS o;have D:=hx w _ g a.eval (hF.iA x);cases sx with|fn f cs=>obtain⟨l,o,hl⟩:=nN o;have o:=iL o;have fP:=hl w _ g a.eval fun y _=>hF.iA y;obtain⟨vs,aF,co⟩:=U5 D;rw[Gr aF];exact o.ok w X g _ O (Jp fP co)|eh f cs=>obtain⟨l,o,hl⟩:=nN o;have o:=iL o;have fP:=hl w _ g a.eval fun y _=>hF.iA y;obtain⟨vs,aF,co⟩:=Ys D;rw[Gp aF];exact o.ok w X g _ O (Jp co fP)|_=>cases o
  |invoke r name=>obtain⟨sx,o,hx⟩:=bS o;have D:=hx w _ g a.eval (hF.iA r);cases sx with|ifc t s=>obtain⟨l,o,hl⟩:=nN o;have fP:=hl w _ g a.eval fun y _=>hF.iA y;obtain⟨f,hm,o⟩:=o.ok;obtain⟨ag,aF,hu⟩:=Oj D;exact bO.congr (o.ok w X g _ O (Qq hu fP)) (Yr hm aF w)|_=>cases o
  |builtin b=>exact plain o
 |typeAssert x xt t ok=>
  cases ok with
  |false=>exact plain o
  |true=>
   obtain⟨te,o,_⟩:=gq T t _ o;cases ax:te.ti<;>rw[ax]at o<;>try exact plain o
   obtain⟨sx,o,hx⟩:=bS o;have D:=hx w _ g a.eval (hF.iA x);cases sx with
   |ifc ag s0=>
    obtain⟨b,⟨ms,i,hu,Q,xH⟩,hy,hn⟩:=o.ok;obtain⟨v,aF,jS⟩:=Oj D;cases b with
    |true=>
     have a7:(Instr.typeAssert (.iface ag v) xt t true).run P w=.ok (.tuple #[.iface ag v,.bool true]) w:=by exact acm
     have:(execOp a.eval ⟨d,.typeAssert x xt t true,ty,pos,after,guard⟩).run P w=.ok (.value (.tuple #[.iface ag v,.bool true])) w:=by exact acb
     unfold bO;rw[this];exact⟨_,h,g,hy rfl,oo (.ifc jS) .tt,O,.refl _ _ _⟩
    |false=>
     obtain⟨z,yG,o,hz,l8⟩:=Br hT (hn rfl);have a7:(Instr.typeAssert (.iface ag v) xt t true).run P w=.ok (.tuple #[yG,.bool false]) w:=by exact RC
     have:(execOp a.eval ⟨d,.typeAssert x xt t true,ty,pos,after,guard⟩).run P w=.ok (.value (.tuple #[yG,.bool false])) w:=by exact acb
     unfold bO;rw[this];exact⟨_,h,g,o,oo (l8 _ _ _) .ff,O,.refl _ _ _⟩
   |_=>cases o
 |next x str=>cases str with|true=>exact plain o|false=>obtain⟨s,o,hx⟩:=bS o;rcases aoh (P:=P) hx o with hq|hq;exact plain hq;simp_all
 |_=>exact plain o
def acO{ab:Prop}(k:ab:=by cases M:b with|true=>obtain⟨_,bV⟩:=jb (o.1 M);grind|false=>obtain⟨_,bV⟩:=jb (o.2 M);grind):ab:=k
def aoO(hT:bl P T){ops m X K}(l):∀{J h},vz P T ops.toList l J h K->∀w g tmps,Inv w X g h->cC w (Ex X g) g J tmps->wpList P ops (jm m X w g fun x J h=>x=.normal/\K J h) l ⟨tmps,[]⟩ w:=by
 induction l with
 |nil=>intro J h o w g tmps O hF;exact⟨rfl,.normal,J,h,g,rfl,⟨rfl,o⟩,O,hF,.refl _ _ _⟩
 |cons aa l ih=>
  intro J h o w g tmps O hF;have yes:∀J:Fr,cC w (Ex X g) g J tmps->Region.wanted aa (yielded ops tmps)=true->(AN P T J h aa.op fun s h'=>kr J aa.dst s fun F'=>vz P T ops.toList l F' h' K)->
   wpList P ops (jm m X w g fun x J h=>x=.normal/\K J h) (aa::l) ⟨tmps,[]⟩ w:=by
   intro J hF hw o
   unfold wpList
   rw[au hw]
   refine .inl ?_
   obtain⟨d,op,ty,pos,after,guard⟩:=aa
   refine E_ (Zj hT o (a:=⟨tmps,[]⟩) O hF d ty pos after guard) fun v w'⟨s,h',V,o,D,aE,hS⟩=>?_
   obtain⟨F',o,hp⟩:=ZY o
   obtain⟨cB,hd⟩:=hp w' (Ex X V) V ⟨tmps,[]⟩ v (hF.step hS (aC _)) D
   have:=ih o w' V ((Act.put ⟨tmps,[]⟩ d v).tmps) aE cB
   exact acr
  have no:∀J:Fr,cC w (Ex X g) g J tmps->Region.wanted aa (yielded ops tmps)=false->(kr J aa.dst .undef fun F'=>vz P T ops.toList l F' h K)->
   wpList P ops (jm m X w g fun x J h=>x=.normal/\K J h) (aa::l) ⟨tmps,[]⟩ w:=by
   intro J hF hw o
   unfold wpList
   rw[ay (by rw[hw];simp)]
   obtain⟨F',o,hp⟩:=ZY o
   obtain⟨cB,hd⟩:=hp w (Ex X g) g ⟨tmps,[]⟩ Go.undef hF .undef
   have:=ih o w g ((Act.put ⟨tmps,[]⟩ aa.dst Go.undef).tmps) O cB
   have e:Act.put ⟨tmps,[]⟩ aa.dst Go.undef=⟨(Act.put ⟨tmps,[]⟩ aa.dst Go.undef).tmps,[]⟩:=by cases aa.dst<;>rfl
   rw[e]
   exact this
  have o:Mt ops.toList J aa.guard (fun J=>AN P T J h aa.op fun s h'=>kr J aa.dst s fun F'=>vz P T ops.toList l F' h' K) (fun J=>kr J aa.dst .undef fun F'=>vz P T ops.toList l F' h K):=o;revert o;generalize ajZ:(fun J=>AN P T J h aa.op fun s h'=>kr J aa.dst s fun F'=>vz P T ops.toList l F' h' K)=Yes;generalize hNo:(fun J=>kr J aa.dst .undef fun F'=>vz P T ops.toList l F' h K)=auP;intro o;unfold Mt at o;cases U:aa.guard with
  |none=>rw[U]at o;subst ajZ;exact yes J hF (by simp[Region.wanted,U]) o
  |some p=>
   obtain⟨j,want⟩:=p;rw[U]at o;simp only[]at o;cases hd:rk ops.toList j with
   |none=>simp_all
   |some d=>
    rw[hd]at o;obtain⟨s,hs,o⟩:=bg o;obtain⟨v,hv,D⟩:=hF.get hs;have hy:∀r:Option Bool,(match v with|.bool b=>some b|_=>none)=r->Region.wanted aa (yielded ops tmps)=(r==some want):=by
     intro r ds;have li:(ops[j]?).bind (·.dst)=some d:=by unfold rk at hd;rw[eF]at hd;exact hd
     have:yielded ops tmps j=r:=by unfold yielded;rw[li];simp only[Kr,hv,<-ds];cases v<;>rfl
     simp[Region.wanted,U,this]
    cases s with
    |tt=>cases D;grind
    |ff=>cases D;grind
    |undef=>cases D;have:=hy none rfl;grind
    |bool b=>
     cases D;have:=hy (some b) rfl;have kt:b=true->cC w (Ex X g) g (J.set d .tt) tmps:=fun M=>hF.tv fun v' gl=>by rw[hv]at gl;simp at gl;subst gl;subst M;exact .tt
     have kf:b=false->cC w (Ex X g) g (J.set d .ff) tmps:=fun M=>hF.tv fun v' gl=>by rw[hv]at gl;simp at gl;subst gl;subst M;exact .ff
     cases want;exact acO;exact acO
    |_=>simp_all
def zx(hT:bl P T){m}(c):∀{J h K},pS P T m c J h K->eb P m c J h K:=by
 induction c with
 |skip=>intro J h K o w X g tmps O hF;exact wp_skip ⟨rfl,.normal,J,h,g,rfl,o,O,hF,.refl _ _ _⟩
 |region id ops draw=>intro J h K o;cases draw with|false=>intro w X g tmps O hF;refine j8 (wp_region_list (aoO (m:=m) hT ops.toList (K:=K .normal) o w g tmps O hF)) fun e a w' hq=>?_;exact hq.mono fun x J h⟨hx,o⟩=>by subst hx;exact o|true=>exact o.ok.mono fun x J h⟨hx,o⟩=>by subst hx;exact o
 |seq a b jV jW=>intro J h K o;refine eb.seq ((jV o).mono fun x J h o=>?_);cases x with|normal=>exact jW o|exit i=>exact o|ret=>exact o
 |cond c a b jV jW=>
  intro J h K o w X g tmps O hF;obtain⟨s,o,hs⟩:=bS o;have D:=hs w (Ex X g) g (Act.eval ⟨tmps,[]⟩) (cC.iA (a:=⟨tmps,[]⟩) hF c);generalize hv:Act.eval ⟨tmps,[]⟩ c=v at D;cases s with
  |tt=>cases D;exact wi (t:=true) hv (jV o w X g tmps O hF)
  |ff=>cases D;exact wi (t:=false) hv (jW o w X g tmps O hF)
  |qb p=>cases D with| @qb _ _ b M=>cases b with|true=>exact wi (t:=true) hv (jV (o.1 (M rfl)) w X g tmps O hF)|false=>exact wi (t:=false) hv (jW o.2 w X g tmps O hF)
  |bool x=>
   cases D;cases c with
   |tmp d=>
    have gl:tmps.getD d Go.undef=.bool x:=hv;have tv:∀s,(∀L:Nat->Prop,af w L g s (.bool x))->cC w (Ex X g) g (J.set d s) tmps:=fun s hs=>hF.tv fun v n4=>by simp_all
    cases hx:x with|true=>obtain⟨_,bV⟩:=jb (o.1 hx);subst hx;exact wi (t:=true) hv (jV bV w X g tmps O (tv _ fun _=>.tt))|false=>obtain⟨_,bV⟩:=jb (o.2 hx);subst hx;exact wi (t:=false) hv (jW bV w X g tmps O (tv _ fun _=>.ff))
   |_=>cases o
  |_=>cases o
 |block id c ih=>intro J h K o;refine eb.block ((ih o).mono fun x J h o=>?_);cases x<;>exact o
 |loop c _=>intro J h K o;exact o.ok
 |rangeFunc f ps a b _ _=>intro J h K o;cases o
 |exit id=>intro J h K o w X g tmps O hF;exact wp_exit ⟨rfl,.exit id,J,h,g,rfl,o,O,hF,.refl _ _ _⟩
 |scope c ih=>intro J h K o w X g tmps O hF;refine wp_scope_straight (j8 (ih o w X g tmps O hF) fun e a w' hq=>?_);cases e with|goto l=>obtain⟨_,x,_,_,_,hx,_⟩:=hq;cases hx|_=>exact hq
 |label l=>intro J h K o w X g tmps O hF;exact wp_label ⟨rfl,.normal,J,h,g,rfl,o,O,hF,.refl _ _ _⟩
 |goto l=>intro J h K o;cases o
 |ret=>intro J h K o w X g tmps O hF;exact wp_ret ⟨rfl,.ret,J,h,g,rfl,o,O,hF,.refl _ _ _⟩
 |refuse bZ=>intro J h K o;cases o
def aq.ar(hT:bl P T){f fn c args h R}(hf:P.funcs[f]?=some fn)(hn:(fn.name== "runtime.NumGoroutine")=false) (M:fn.body=some c)(o:vN args fn.ntmps fun J=>pS P T h.length c J h (yt T fn R)):aq P f args h R:=by
 obtain⟨J,o,hs⟩:=abg o;refine⟨fun w X g vs O D=>?_⟩;have ro:(callFunc f vs.toArray).run P w=.ok (.enter f vs.toArray) w:=by exact ad1
 unfold bO;rw[ro];refine calls_of_wp hf M (j8 (zx hT c o w X g _ O (hs w _ g vs D)) fun e a w' hq=>?_);obtain⟨hd,x,F',h',V,hx,o,aE,cB,hS⟩:=hq;have hm:=O.len.symm;rw[hm]at hS;have fin:A0 h' F' T fn.results.toList (fun l=>sn l fun s=>R s h')->a.defers=[]/\∃v,(results fn a.tmps).run P w'=.ok v w'/\∃v',Ending.returned v=.returned v'/\∃s h' V,R s h'/\af w' (Ex X V) V s v'/\Inv w' X V h'/\Step g.length w g w' V:=by intro o;obtain⟨ss,o,gK⟩:=Qr hT _ o;obtain⟨s,o,bQ⟩:=Q2 o;obtain⟨cP,a7,gJ⟩:=gK w' X V a.tmps aE cB;exact adS
 cases e<;>cases hx;case normal=>exact fin o
 case ret=>exact fin o
 case exit id=>cases o
def ai4(hT:bl P T){ops J h ae aa K}(o:Mc P T J h ae aa.op K):∃s ws aJ,K s ws aJ/\(∀p∈ws,p.1∈aJ)/\∀(w:World)(X:Nat->Prop)(g:Sg)(F:Hp)(a:Act),Inv w X g F->(∀t∈aa.looksAt ops,∀s,J[t]?=some s->∃v,a.tmps[t]?=some v/\af w (Ex X g) g s v)->(∀i∈aJ,F[i]?=h[i]?)->ea P (execOp a.eval aa) w X g F s ws:=by
 obtain⟨d,op,ty,pos,after,guard⟩:=aa;have plain:Ma P T J h ae op K->∃s ws aJ,K s ws aJ/\(∀p∈ws,p.1∈aJ)/\
  ∀(w:World)(X:Nat->Prop)(g:Sg)(F:Hp)(a:Act),Inv w X g F->(∀t∈(Oper.mk d op ty pos after guard).looksAt ops,∀s,J[t]?=some s->∃v,a.tmps[t]?=some v/\af w (Ex X g) g s v)->
  (∀i∈aJ,F[i]?=h[i]?)->ea P (execOp a.eval ⟨d,op,ty,pos,after,guard⟩) w X g F s ws:=by
  intro o
  unfold Ma at o
  have U:aN P J h op K:=by
   cases d6:jX T op with
   |true=>
    rw[d6]at o
    obtain⟨b,M,o⟩:=bg o
    cases b with
    |fresh=>exact IW hT (fun _=>M) o
    |_=>cases o
   |false=>
    rw[d6]at o
    exact IW hT (fun h=>by simp[d6]at h) o
  obtain⟨s,ws,aJ,o,aw,e4⟩:=U
  exact⟨s,ws,aJ,o,e4,fun w X g F a O hl D=>aw w X g F a.eval d ty pos after guard O (fun x hx=>vw hl x hx) D⟩
 cases op with
 |call c=>
  obtain⟨callee,xs,kB⟩:=c;cases callee with
  |value x=>obtain⟨sx,o,hx⟩:=bS o;cases sx with|fn f cs=>obtain⟨l,o,hl⟩:=nN o;have o:=iL o;obtain⟨s,ws,aJ,o,aw,e4⟩:=o.ok;refine⟨s,ws,aJ,o,e4,fun w X g F a O l4 ap=>?_⟩;have kT:=vw l4;have D:=hx w _ g a.eval (kT x (by simp[Op.operands,Call.operands]));have fP:=hl w _ g a.eval fun y hy=>kT y (by simp[Op.operands,Call.operands];right;simpa using hy);obtain⟨vs,aF,co⟩:=U5 D;rw[Gr aF];exact aw w X g F _ O (Jp fP co) ap|eh f cs=>obtain⟨l,o,hl⟩:=nN o;have o:=iL o;obtain⟨s,ws,aJ,o,aw,e4⟩:=o.ok;refine⟨s,ws,aJ,o,e4,fun w X g F a O l4 ap=>?_⟩;have kT:=vw l4;have D:=hx w _ g a.eval (kT x (by simp[Op.operands,Call.operands]));have fP:=hl w _ g a.eval fun y hy=>kT y (by simp[Op.operands,Call.operands];right;simpa using hy);obtain⟨vs,aF,co⟩:=Ys D;rw[Gp aF];exact aw w X g F _ O (Jp co fP) ap|_=>cases o
  |invoke r name=>obtain⟨sx,o,hx⟩:=bS o;cases sx with|ifc t s=>obtain⟨l,o,hl⟩:=nN o;obtain⟨f,hm,o⟩:=o.ok;obtain⟨s',ws,aJ,o,aw,e4⟩:=o.ok;refine⟨s',ws,aJ,o,e4,fun w X g F a O l4 ap=>?_⟩;have kT:=vw l4;have D:=hx w _ g a.eval (kT r (by simp[Op.operands,Call.operands]));have fP:=hl w _ g a.eval fun y hy=>kT y (by simp[Op.operands,Call.operands];right;simpa using hy);obtain⟨ag,aF,hu⟩:=Oj D;exact bO.congr (aw w X g F _ O (Qq hu fP) ap) (Yr hm aF w)|_=>cases o
  |builtin b=>exact plain o
 |_=>exact plain o
def Ur(hT:bl P T){ops}(l):∀{i ids J h K},Cr P T ops.toList l i ids J h K->∃rs F' h',K rs F' h'/\iJ P ops J h l rs F' h':=by
 induction l with
 |nil=>intro i ids J h K o;exact⟨[],J,h,o,.nil⟩
 |cons aa l ih=>
  intro i ids J h K o;cases ids with
  |nil=>cases o
  |cons ae ids=>
   obtain⟨b,o,hw⟩:=Ri (show Bl ops.toList J aa.guard (Mc P T J h ae aa.op fun s ws aJ=>QO (Vr ops.toList i) s fun s=>kr J aa.dst s fun F'=>t_ ws h fun h'=>
    Cr P T ops.toList l (Nat.succ i) ids F' h' fun rs=>K (⟨s,ws,aJ⟩::rs))
    (kr J aa.dst .undef fun F'=>Cr P T ops.toList l (Nat.succ i) ids F' h fun rs=>K (⟨.undef,[],[]⟩::rs))from o)
   cases b with|true=>obtain⟨s,ws,aJ,o,e4,aw⟩:=ai4 hT (ops:=ops) (aa:=aa) o;obtain⟨s',o,bW⟩:=att o;have o:=E6 (P7 o);obtain⟨rs,F',h',o,D⟩:=ih o;exact⟨_,F',h',o,.cons ⟨fun w X g F a O _ hl ap=>.inl ⟨hw w _ g a hl,(aw w X g F a O hl ap).tv bW⟩,e4⟩ D⟩|false=>simp only[dI,ek]at o;have o:=P7 o;obtain⟨rs,F',h',o,D⟩:=ih o;exact⟨_,F',h',o,.cons ⟨fun w X g F a O _ hl ap=>.inr ⟨hw w _ g a hl,rfl,rfl⟩,sM⟩ D⟩
section
variable{ops:Array Oper}
def arK(l):∀{h k},vJ T l h k->∃ns h',k ns h'/\∀w X g,Inv w X g h->∃V,Inv w X V h'/\Step g.length w g w V:=by induction l with|nil=>intro h k o;exact⟨[],h,o,fun w X g O=>⟨g,O,.refl _ _ _⟩⟩|cons aa l ih=>intro h k o;have o:(match D_ T aa.op with|true=>DL h yA fun n=>fA h [.fresh] fun h'=>vJ T l h' fun ns bx=>k (n::ns) bx|false=>vJ T l h fun ns bx=>k (0::ns) bx):=o;cases hn:D_ T aa.op with|true=>rw[hn]at o;obtain⟨n,_,o⟩:=Of o;have o:=iL o;obtain⟨ns,h',o,hs⟩:=ih o;refine⟨_,h',o,fun w X g O=>?_⟩;obtain⟨ct,i8⟩:=O.fresh;obtain⟨V,aE,ca⟩:=hs w X _ ct;exact⟨V,aE,i8.trans (ca.le sM)⟩|false=>grind
def cf.fQ(hm:P.follows .mixedOrders=true)(hT:bl P T){m id J h K}(o:Ut P T ops J h K):cf P m id ops J h K:=by
 refine⟨fun w X g tmps O hF=>wp_region_any hm ?_⟩;obtain⟨ids,h',o,qf⟩:=arK ops.toList o;obtain⟨rs,F',bx,o,a7⟩:=Ur hT ops.toList o;obtain⟨xz,o⟩:=Yk o;obtain⟨hp,e1,e2⟩:=a7.apq xz;subst e1;subst e2;obtain⟨c7,ct,i8⟩:=qf w X g O;have CP:=hF.step i8 (aC _);have b_:Step c7.length w c7 {w with drawn:=w.drawn+1} c7:=⟨rfl,rfl,rfl,aC _,fun _ _ _=>rfl,fun _ h _=>h,fun _ _ _ h _=>.inl h⟩;have lW:=CP.step b_ (aC _);have be:Inv {w with drawn:=w.drawn+1} X c7 h':=ct.heap rfl;have MA:∀k,FL ops.toList rs J (cO (Array.replicate ops.size false)) k=J:=by exact adq
 have My:∀k,HL rs h' (cO (Array.replicate ops.size false)) k=h':=by exact adr
 have Hh:∀i,cO (Array.replicate ops.size false) i=false:=fun i=>by exact adC
 refine Uu hp o ops.size _ (List.range ops.size) ⟨tmps,[]⟩ _ c7 sM (fun i aa _ Q=>by simp_all) sM (fun i Q _=>pG.2 Q) rfl ?_ ?_ (i8.any.trans b_.any);rw[My];exact be;rw[MA];exact lW
end
def b6.cq(hT:bl P T){α:Type}{m c J h K}(n)(sp:α->List (Nat×SV))(hx:α->Hp)(μ:α->Nat)(x0) (hs:y3 m J h n (sp x0) (hx x0))(body:∀x,GZ n (sp x) fun J=>pS P T m c J (hx x) (S3 m n sp hx μ x K)):b6 P m c J h K:=
 ⟨eb.loop sp hx μ x0 hs.ok fun x=>zx hT c (Mj (body x))⟩
def aY.ar(hT:bl P T){f fn c args R}(hf:P.funcs[f]?=some fn)(hn:(fn.name== "runtime.NumGoroutine")=false) (M:fn.body=some c)(ha:xb args True)(o:vN args fn.ntmps fun J=>pS P T 0 c J [] (yt T fn fun s _=>PQ s R)):aY P f args R:=
 .aoE ha (aq.ar hT hf hn M o)
def al.ar(hT:bl P T){f fn c args am R}(hf:P.funcs[f]?=some fn)(hn:(fn.name== "runtime.NumGoroutine")=false) (M:fn.body=some c)(o:vN args fn.ntmps fun J=>pS P T am.length c J am (yt T fn fun s h'=>a6 am.length s h' R)):al P f args am R:=
 ⟨⟨fun w X g vs O D=>((aq.ar hT hf hn M o).ok w X g vs O D).mono fun v w'⟨s,h',V,I,bb,aE,hS⟩=>by
  obtain⟨s',bx,hR,p7⟩:=I.ok
  obtain⟨j_,axS,xP,ca⟩:=p7 w' X V v aE bb
  have hl:=O.len
  exact⟨s',bx,j_,hR,xP,axS,hS.trans (by rw[hl];exact ca)⟩⟩⟩
end
section
variable{P:Program} {T:aG}
def wD(A:eV)(h:Hp)(s s':SV):Prop:=∀w X g E' v,Inv w X g h->(∀u,E' u->Ex X g u)->
 (∀i e u,some i∉A->g[i]?=some e->e.owns u->¬E' u)->af w (Ex X g) g s v->af w E' [] s' v
def wD.nd{A h s s'}(hf:∀w L g v,af w L g s v->af w L [] s' v):wD A h s s':=fun w _ g _ v _ hE _ D=>(hf w _ g v D).le hE []
def lA(A:eV)(h:Hp)(s:SV)(K:SV->Prop):Prop:=
 match s with
 |.sl b=>bo (!(A.contains (some b))) (av h b fun aT=>match aT with|.row _ z es=>K (.rs z es)|_=>False)
 |.ss b lo m=>bo (!(A.contains (some b))&&Nat.beq lo 0) (av h b fun aT=>match aT with|.row _ z es=>K (.rs z (es.take m))|_=>False)
 |.tt=>K (.bool true)|.ff=>K (.bool false)|.bool b=>K (.bool b)
 |.int q n=>K (.int q n)|.str s=>K (.str s)|.nilp=>K .nilp|.nils=>K .nils|.rs z es=>K (.rs z es)|.rp z es i f=>K (.rp z es i f)
 |.ra u aa=>K (.ra u aa)|.rl u n c=>K (.rl u n c)|.any=>K .any|.undef=>K .undef
 |_=>False
def aoZ(A:eV)(h:Hp)(l:List SV):(List SV->Prop)->Prop:=
 List.rec (fun K=>K []) (fun x _ ih K=>lA A h x fun y=>ih fun r=>K (y::r)) l
def mg(A:eV)(h:Hp)(s:SV)(K:SV->Prop):Prop:=
 match s with
 |.agg cs=>aoZ A h cs fun c=>K (.agg c)
 |s=>lA A h s K
def ao1(A:eV)(h:Hp)(l:List SV):(List SV->Prop)->Prop:=
 List.rec (fun K=>K []) (fun x _ ih K=>mg A h x fun y=>ih fun r=>K (y::r)) l
def mh(A:eV)(h:Hp)(s:SV)(K:SV->Prop):Prop:=
 match s with
 |.tup vs=>ao1 A h vs fun l=>K (.tup l)
 |s=>mg A h s K
def ash{w L E' g V}{t:TypeId}{z m es b e v}(ak:g[b]?=some e)(aw:aB w L g (.row t z es) e) (hle:∀u,E' u->L u)(hE:∀u,e.owns u->¬E' u)(ai:∀u,e.owns u->u<w.heap.size)(D:af w L g (.ss b 0 m) v):af w E' V (.rs z (es.take m)) v:=by
 cases D with
 | @ss _ _ u sz n cap _ _ aa hs hl I=>
  rw[ak]at hs;simp at hs;subst hs;obtain⟨E,F,h3,h4,vs,h5,h6,h7⟩:=aw;subst E;subst F;have hm:m<=es.length:=G;by_cases xu:0<cap
  ·have:=I xu;simp at this;subst this;have hlen:(es.take m).length=m:=sO;rw[show(Value.slice (some ⟨u,0,none⟩) m (cap-0))=Value.slice (some ⟨u,0,none⟩) (es.take m).length (cap-0) by rw[hlen]];have hq:∀i e,(es.take m)[i]?=some e->es[i]?=some e:=fun i e hq=>by rw[je]at hq;split at hq;exact hq;simp at hq
   refine .rs (val:=fun i j=>(vs[i*sz+j]?).getD Go.undef) G G (hE u rfl) (ai u rfl) (fun i e H=>(h7 i e (hq i e H)).1) (fun i e j s H hs=>?_) (fun i e j s H hs=>?_) (fun i e j s H hs=>?_);all_goals obtain⟨v,a,b,c⟩:=(h7 i e (hq i e H)).2 j s hs
   obtain⟨fr,h5,_⟩:=h5;rw[oQ h5,jE,a];rfl;rw[a];exact c;rw[a];exact b.le hle []
  have e0:es=[]:=pH (by omega);subst e0;have:m=0:=by simp at hm;exact hm
  subst this;simp only[List.take_nil];exact .hJ G
 |eS hs=>rw[ak]at hs;simp at hs;subst hs;subst aw;simp only[List.take_nil];exact .hJ (cx _)
 |ej hs=>rw[ak]at hs;simp at hs;subst hs;cases aw
def Zo{A h s K}(o:lA A h s K):∃s',K s'/\wD A h s s'/\eK s':=by
 unfold lA at o;split at o;case h_1 b=>
  obtain⟨Dm,o⟩:=bL o;have Hy:some b∉A:=by simpa using Dm
  obtain⟨aT,M,o⟩:=bg o;cases aT with|row t z es=>exact adQ|_=>cases o
 case h_2 b lo m=>
  obtain⟨Dm,aU⟩:=bL o;rw[bR]at Dm;have Hy:some b∉A:=by simpa using Dm.1
  have fo:=gS Dm.2;subst fo;obtain⟨aT,M,aU⟩:=bg aU;cases aT with
  |row t z es=>
   refine⟨_,aU,fun w X g E' v O hE dW D=>?_,fun w L g V v D=>by generalize es.take m=x at D⊢;cases D<;>constructor<;>assumption⟩;have ai:b<g.length:=by rw[O.len];exact(ao.1 M).1
   have cS:=aD ai;exact ash cS (O.ok b _ _ M cS) hE (fun u U=>dW b _ u Hy cS U) (fun u U=>O.lt b _ u cS U) D
  |_=>cases aU
 all_goals first|cases o|exact⟨_,o,.nd fun w L g v D=>by(cases D<;>first|(constructor;done)|(constructor<;>assumption)),fun w L g V v D=>by(cases D<;>first|(constructor;done)|(constructor<;>assumption))⟩
def aew(A:eV)(h:Hp)(l l':List SV):Prop:=l.length=l'.length/\∀(i:Nat)(s s':SV),l[i]?=some s->l'[i]?=some s'->wD A h s s'
def Zy{A}{h}{f:SV->(SV->Prop)->Prop}(hf:∀{s K},f s K->∃s',K s'/\wD A h s s'/\eK s')(l):∀{K},List.rec (fun K=>K []) (fun x _ ih K=>f x fun y=>ih fun r=>K (y::r)) l K->∃l',K l'/\aew A h l l'/\∀s∈l',eK s:=by induction l with|nil=>intro K h;exact⟨[],h,⟨rfl,sM⟩,sM⟩|cons x l ih=>intro K h;obtain⟨y,h,hy,hfy⟩:=hf h;obtain⟨l',h,⟨hl,dg⟩,g8⟩:=ih h;refine⟨y::l',h,⟨by simp[hl],fun i s s' hs bW=>?_⟩,fun s hs=>?_⟩;grind;grind
def Zt{A}{h}{s}{K}(o:mg A h s K):∃s',K s'/\wD A h s s'/\eK s':=by cases s with|agg cs=>obtain⟨l,o,⟨hl,kV⟩,dp⟩:=Zy Zo cs o;exact BB|_=>exact Zo o
def PR{A}{h}{s}{K}(o:mh A h s K):∃s',K s'/\wD A h s s'/\eK s':=by cases s with|tup cs=>obtain⟨l,o,⟨hl,kV⟩,dp⟩:=Zy Zt cs o;exact Kj|_=>exact Zt o
abbrev fy:=World->(Nat->Prop)->Prop
def gv(ab:fy):Prop:=∀w w' ci,ab w ci->(∀u,ci u->w'.heap[u]?=w.heap[u]?)->w.heap.size<=w'.heap.size->ab w' ci
def sF(s:SV):Prop:=∀w w' L E' g v,af w L g s v->af w' E' g s v
def k_(b:bK):Prop:=match b with|.fix _ cs=>∀s∈cs,sF s|.row _ _ es=>∀e∈es,∀s∈e,sF s|.imap es _=>∀e∈es,sF e.2.1|.mapB es _=>∀e∈es,sF e.1/\sF e.2.1|.dead=>True|.asn _=>True|_=>False
def ef(h:Hp):Prop:=∀b∈h,k_ b
def k_.fe{b}(M:k_ b){w w' L E' g e}(h:aB w L g b e)(U:∀u,e.owns u->w'.heap[u]?=w.heap[u]?)(hs:w.heap.size<=w'.heap.size):aB w' E' g b e:=by
 cases b<;>cases e<;>simp only[aB,k_]at h M⊢;case fix.fix=>obtain⟨vs,E,F,h3⟩:=h;exact⟨vs,(U _ rfl).trans E,F,fun i s v bW hv=>⟨M s (bN bW) w w' L E' g v (h3 i s v bW hv).1,(h3 i s v bW hv).2⟩⟩
 case row.row=>obtain⟨E,F,h3,h4,vs,h5,h6,h7⟩:=h;refine⟨E,F,h3,h4,vs,h5.same (U _ rfl),h6,fun i e H=>⟨(h7 i e H).1,fun j s bW=>?_⟩⟩;obtain⟨v,a,b,c⟩:=(h7 i e H).2 j s bW;exact⟨v,a,M e (bN H) s (bN bW) w w' L E' [] v b,c⟩
 case row.rownil=>exact h
 case imap.obj=>obtain⟨iX,ms,E,F,h3⟩:=h;exact⟨iX,ms,(U _ rfl).trans E,F,fun i e m H hm=>⟨(h3 i e m H hm).1,M e (bN H) w w' L E' [] _ (h3 i e m H hm).2.1,(h3 i e m H hm).2.2⟩⟩
 case mapB.obj=>obtain⟨ms,E,F,h3⟩:=h;exact⟨ms,(U _ rfl).trans E,F,fun i e m H hm=>⟨(M e (bN H)).1 w w' L E' [] _ (h3 i e m H hm).1,(M e (bN H)).2 w w' L E' [] _ (h3 i e m H hm).2.1,(h3 i e m H hm).2.2⟩⟩
 case asn.own=>obtain⟨E,F⟩:=h;exact⟨F w' U hs,fun w2 e2 s2=>F w2 (fun u hO=>(e2 u hO).trans (U u hO)) (dF hs s2)⟩
def Ig{w w' X X' g h}(O:Inv w X g h)(hn:ef h)(U:∀u,bM g u->w'.heap[u]?=w.heap[u]?)(hs:w.heap.size<=w'.heap.size) (hd:∀u,X' u->¬bM g u)(hl:∀u,X' u->u<w'.heap.size):Inv w' X' g h:=
 ⟨O.len,fun i b e M H=>(hn b (bN M)).fe (O.ok i b e M H) (fun u I=>U u ⟨i,e,H,I⟩) hs,fun i e u H I=>fj (O.lt i e u H I) hs,O.inj,hd,hl⟩
def cL(hc:Hp)(gs:List Nat):fy:=fun w ci=>∃g:Sg,Inv w (fun _=>False) g hc/\(∀(i u:Nat),gs[i]?=some u->g[i]?=some (.fix u))/\∀k,ci k↔bM g k
def om{hc}(hn:ef hc)(gs):gv (cL hc gs):=fun w w' ci⟨g,O,D,hO⟩U hs=>
 ⟨g,Ig O hn (fun u I=>U u ((hO u).2 I)) hs (fun _ h=>h.elim) (fun _ h=>h.elim),D,hO⟩
structure uA(ab:fy)(hc:Hp)(gs:List Nat)(A':Hp->fy):Prop where
 ok:∀(w:World)(ci:Nat->Prop),ab w ci->∃O1:Nat->Prop,cL hc gs w O1/\(∀k,O1 k->ci k)/\∀(ST:Hp)(w':World)(y6:Nat->Prop),ef ST->
  (∀k,ci k->¬O1 k->w'.heap[k]?=w.heap[k]?)->w.heap.size<=w'.heap.size->(∀k,y6 k->ci k->O1 k)->cL ST gs w' y6->A' ST w' (fun k=>(ci k/\¬O1 k)\/y6 k)
def uA.pack(hc)(gs):uA (cL hc gs) hc gs (fun ST=>cL ST gs):=⟨fun w ci hA=>⟨ci,hA,fun _ h=>h,fun ST w' y6 _ _ _ _⟨g,E,F,h3⟩=>
 ⟨g,E,F,fun k=>⟨fun h=>h.elim (fun h=>absurd h.1 h.2) (fun h=>(h3 k).1 h),fun h=>.inr ((h3 k).2 h)⟩⟩⟩⟩
def Tq(gs:List Nat)(s s':SV)(k:Prop):Prop:=
 match s with
 |.ptr i aa=>match s' with|.ra u o'=>gs[i]?=some u/\aa=o'/\k|_=>False
 |s=>s'=s/\mU s k
def wL(gs:List Nat)(l:List SV):List SV->Prop->Prop:=
 List.rec (fun l' k=>List.rec k (fun _ _ _=>False) l')
  (fun s _ ih l' k=>List.rec False (fun s' t' _=>Tq gs s s' (ih t' k)) l') l
def afj{gs s s' k}(h:Tq gs s s' k):k/\∀w L E' g V v,(∀(i u:Nat),gs[i]?=some u->V[i]?=some (.fix u))->(∀u,E' u->L u)->af w L g s' v->af w E' V s v:=by
 have fr:∀{s0},s'=s0/\mU s0 k->k/\∀w L E' g V v,(∀(i u:Nat),gs[i]?=some u->V[i]?=some (.fix u))->(∀u,E' u->L u)->af w L g s' v->af w E' V s0 v:=by rintro s0 ⟨rfl,h⟩;obtain⟨o,hf⟩:=xa h;exact⟨o,fun w L E' g V v _ hE D=>(hf w L g [] v D).le hE V⟩
 cases s with
 |ptr i aa=>cases s' with|ra u o'=>obtain⟨E,F,o⟩:=h;subst F;exact⟨o,fun w L E' g V v U _ D=>by cases D;exact .ptr (U _ _ E)⟩|_=>cases h
 |_=>exact fr h
def Li{gs}(l):∀{l' k},wL gs l l' k->k/\∀w L E' g V vs,(∀(i u:Nat),gs[i]?=some u->V[i]?=some (.fix u))->(∀u,E' u->L u)->b5 w L g l' vs->b5 w E' V l vs:=by
 induction l with
 |nil=>intro l' k h;cases l' with|nil=>exact⟨h,fun w L E' g V vs _ _ D=>⟨D.1,sM⟩⟩|cons _ _=>cases h
 |cons s l ih=>intro l' k h;cases l' with|nil=>cases h|cons s' l'=>obtain⟨h,E⟩:=afj h;obtain⟨h,F⟩:=ih h;refine⟨h,fun w L E' g V vs U hE D=>?_⟩;cases vs with|nil=>have:=D.1;simp at this|cons v vs=>refine Qq (E w L E' g V v U hE (D.2 0 _ _ rfl rfl)) (F w L E' g V vs U hE ⟨by simpa using D.1,fun i a b ha M=>D.2 (i+1) a b (by simpa using ha) (by simpa using M)⟩)
def K0(n:Nat)(A:eV)(b3:Hp):Prop:=∀i,i<n->A[i]?=some (some i)/\∃T cs,b3[i]?=some (.fix T cs)
def zc(s s':SV):Prop:=∀w L v,af w L [] s v->af w L [] s' v
structure bj(n:Nat)(s:SV)(I:Hp)(s':SV)(b3:Hp):Prop where
 ok:∃(A:eV)(s1:SV),mw 0 A=true/\mh A I s (fun s2=>s2=s1)/\zc s1 s'/\nL A I A b3 True/\K0 n A b3
def E0{m}{am h}{p}{ab}{gs}{A'}{R K:SV->Hp->Prop}(hp:h[p]?=some (.asn ab))(hA:uA ab am gs A') (bQ:∀hc,ef hc->gv (A' hc))(uX:ef am){w}{X}{g}(O:Inv w X g h) (hc:∀X1 dU,Inv w X1 dU am->(∀(i u:Nat),gs[i]?=some u->dU[i]?=some (.fix u))->(∀k,Ex X1 dU k->Ex X g k)->bO P m w fun v w'=>∃s I V,R s I/\af w' (Ex X1 V) V s v/\Inv w' X1 V I/\Step dU.length w dU w' V) (o:∀s I,R s I->∃s' b3,bj gs.length s I s' b3/\ef b3/\K s' (h.set p (.asn (A' b3)))):bO P m w fun v w'=>∃s h' V,K s h'/\af w' (Ex X V) V s v/\Inv w' X V h'/\Step g.length w g w' V/\V.length=g.length:=by
 have hg:p<g.length:=by rw[O.len];exact(ao.1 hp).1
 have gm:=aD hg;have ii:=O.ok p _ _ hp gm;generalize g[p]=ep at gm ii;cases ep<;>simp only[aB]at ii;rename_i ci;obtain⟨G7,_⟩:=ii;obtain⟨O1,⟨dU,p3,pa,CT⟩,e4,xO⟩:=hA.ok w ci G7;have sX:∀k,ci k->bM g k:=fun k o=>⟨p,_,gm,o⟩;have MD:∀k,ci k->k<w.heap.size:=fun k o=>O.lt p _ k gm o;let X1:Nat->Prop:=fun k=>Ex X g k/\¬O1 k;have G9:∀k,Ex X g k->k<w.heap.size:=fun k o=>o.elim (O.df k) fun⟨i,e,H,I⟩=>O.lt i e k H I;have ajY:Inv w X1 dU am:=Ig p3 uX (fun _ _=>rfl) (aC _) (fun u hx I=>hx.2 ((CT u).2 I)) (fun u hx=>G9 u hx.1);have ajW:∀k,Ex X1 dU k->Ex X g k:=fun k o=>o.elim (fun h=>h.1) fun I=>.inr (sX k (e4 k ((CT k).2 I)));refine(hc X1 dU ajY pa ajW).mono fun v w'⟨s,I,V,hR,bb,aE,hS⟩=>?_;obtain⟨s',b3,⟨A,s1,aF,ak7,hwk,hblk,alo⟩,zV,hK⟩:=o s I hR;obtain⟨_,e1,kV,Ho⟩:=PR ak7;subst e1;obtain⟨c8,be,b_,xn,Mx,Hq⟩:=A_ (m:=0) A aF hblk aE;have W7:∀k,bM c8 k->bM V k:=fun k o=>b_.gG k o (by obtain⟨i,e,H,I⟩:=o;exact be.lt i e k H I);have alL:∀k,bM c8 k->k<w.heap.size->bM dU k:=fun k o ai=>hS.gG k (W7 k o) ai;have alp:∀(i u:Nat),gs[i]?=some u->c8[i]?=some (.fix u):=fun i u U=>by
  have cj:=(ao.1 U).1;obtain⟨jU,T0,cs,qd⟩:=alo i cj;have h0:=pa i u U;have Y_:c8[i]?≠some .dead:=fun hd=>by have:=be.ok i _ _ qd hd;simp[aB]at this
  rcases hS.g_ i _ (ao.1 h0).1 h0 sM with E|E;exact(xn.ref i i _ jU E sM).resolve_right Y_;exact absurd ((xn.ref i i _ jU E sM).elim id id) Y_
 have lr:cL b3 gs w' (bM c8):=⟨c8,Ig be zV (fun _ _=>rfl) (aC _) (fun _ h=>h.elim) (fun _ h=>h.elim),alp,fun _=>Iff.rfl⟩;have Mu:=xO b3 w' (bM c8) zV (fun k o bi=>hS.frame k (MD k o) fun I=>bi ((CT k).2 I)) hS.size (fun k o bi=>(CT k).2 (alL k o (MD k bi))) lr;generalize hO2:(fun k=>(ci k/\¬O1 k)\/bM c8 k)=O2 at Mu;have xk:∀k,O2 k->(ci k/\¬O1 k)\/bM c8 k:=fun k o=>by grind
 have bc:∀i e,(g.set p (.own O2))[i]?=some e->(i=p/\e=.own O2)\/(i≠p/\g[i]?=some e):=fun i e H=>by grind
 have ak6:∀i e u,i≠p->g[i]?=some e->e.owns u->¬ci u:=fun i e u kQ H U hO=>kQ (O.inj i p e _ u H gm U hO);have VI:∀i e u,i≠p->g[i]?=some e->e.owns u->X1 u:=fun i e u kQ H U=>⟨.inr ⟨i,e,H,U⟩,fun E=>ak6 i e u kQ H U (e4 u E)⟩;have VJ:∀u,X u->X1 u:=fun u hx=>⟨.inl hx,fun E=>O.cU u hx (sX u (e4 u E))⟩;have uN:Step g.length w g w' (g.set p (.own O2)):=by
  refine⟨hS.os,hS.tape,hS.output,hS.size,fun u U I=>hS.frame u U fun zW=>I (sX u (e4 u ((CT u).2 zW))),fun u⟨i,e,H,U⟩ai=>?_,fun i e Q H hl=>?_⟩;rcases bc i e H with⟨_,rfl⟩|⟨_,H⟩;rcases xk u U with E|E;exact sX u E.1;grind;exact⟨i,e,H,U⟩;left;have kQ:i≠p:=by rintro rfl;rw[gm]at H;simp at H;subst H;exact hl trivial
  grind
 have hEf:∀u,Ex X (g.set p (.own O2)) u->Ex X1 V u:=by rintro u (hx|⟨i,e,H,U⟩);exact .inl (VJ u hx);rcases bc i e H with⟨_,rfl⟩|⟨kQ,H⟩;rcases xk u U with E|E;exact .inl ⟨.inr (sX u E.1),E.2⟩;exact .inr (W7 u E);exact .inl (VI i e u kQ H U)
 refine⟨s',h.set p (.asn (A' b3)),g.set p (.own O2),hK,?_,?_,uN,sM⟩;have:=kV w' X1 V (Ex X (g.set p (.own O2))) v aE hEf (fun i e u avV H U hx=>?_) bb;exact(hwk _ _ _ this).mono _ (fun _ _ _=>rfl) (aC _) (fun _ _ h=>h) sM;rcases hx with hx|⟨j,e',aK,bP⟩;exact aE.cU u (VJ u hx) ⟨i,e,H,U⟩;rcases bc j e' aK with⟨_,rfl⟩|⟨uU,aK⟩;rcases xk u bP with E|⟨b,e2,C3,oU⟩;exact aE.cU u ⟨.inr (sX u E.1),E.2⟩ ⟨i,e,H,U⟩;obtain⟨l,rc,d3⟩:=Hq b e2 u C3 oU;have:=aE.inj i l e e2 u H d3 U oU;grind;exact aE.cU u (VI j e' u uU aK bP) ⟨i,e,H,U⟩;refine⟨by simp[O.len],fun i b e M H=>?_,fun i e u H U=>?_,fun i j e e' u Q hj U bP=>?_,fun u hx⟨i,e,H,U⟩=>?_,fun u hx=>fj (O.df u hx) hS.size⟩;rcases bc i e H with⟨rfl,rfl⟩|⟨kQ,H⟩;rw[bu,au rfl,au (by simp_all)]at M;simp at M;subst M;exact⟨Mu,fun w2 e2 s2=>bQ b3 zV w' w2 O2 Mu e2 s2⟩;rw[bu,ay fun h=>kQ h.symm]at M;refine(O.ok i b e M H).step uN (aC _) fun u U=>hS.frame u (O.lt i e u H U) fun zW=>?_;grind
 rcases bc i e H with⟨_,rfl⟩|⟨_,H⟩;rcases xk u U with E|⟨b,e2,C3,oU⟩;exact fj (MD u E.1) hS.size;exact be.lt b e2 u C3 oU;exact fj (O.lt i e u H U) hS.size;rcases bc i e Q with⟨e1,rfl⟩|⟨kQ,g9⟩<;>rcases bc j e' hj with⟨e2,rfl⟩|⟨uU,oY⟩;rw[e1,e2];rcases xk u U with E|E;grind;grind;rcases xk u bP with E|E;grind;grind;exact O.inj i j e e' u g9 oY U bP;rcases bc i e H with⟨_,rfl⟩|⟨_,H⟩;rcases xk u U with E|E;exact O.cU u hx (sX u E.1);grind;exact O.cU u hx ⟨i,e,H,U⟩
def aq.sub{f}{args bH}{am h}{p}{ab}{gs}{A'}{R K}(hp:h[p]?=some (.asn ab))(hA:uA ab am gs A') (bQ:∀hc,ef hc->gv (A' hc))(uX:ef am)(ha:wL gs args bH True)(hc:aq P f args am R) (o:∀s I,R s I->∃s' b3,bj gs.length s I s' b3/\ef b3/\K s' (h.set p (.asn (A' b3)))):aq P f bH h K:=
 ⟨fun w X g vs O D=>(E0 hp hA bQ uX O (fun X1 dU p3 pa lc=>hc.ok w X1 dU vs p3 ((Li args ha).2 w _ _ g dU vs pa lc D)) o).mono
  fun _ _⟨s,h',V,a,b,c,d,_⟩=>⟨s,h',V,a,b,c,d⟩⟩
def u9(n:Nat):eV:=(List.range n).map some
structure oJ(n:Nat)(hc:Hp):Prop where
 Ed:ef hc
 roots:∀i,i<n->∃T cs,hc[i]?=some (.fix T cs)
 id:nL (u9 hc.length) hc (u9 hc.length) hc True
def arN(n):mw 0 (u9 n)=true:=by simp only[mw,u9,List.range_zero,List.all_nil,KJ,ir,pG,bh,Ft];simp_all
def oJ.ar8{n hc}(h:oJ n hc):K0 n (u9 hc.length) hc:=fun i Q=>by obtain⟨T,cs,M⟩:=h.roots i Q;have hl:=(ao.1 M).1;exact⟨by unfold u9;simp_all,T,cs,M⟩
def Zm{s K}(h:lA [] [] s K):∃s1,K s1/\∀A hp,∀K',K' s1->lA A hp s K':=by cases s<;>first|exact h.elim|exact⟨_,h,fun _ _ _ h=>h⟩|exact((bL h).2).elim
def Zz{f:eV->Hp->SV->(SV->Prop)->Prop}(hf:∀{s K},f [] [] s K->∃s1,K s1/\∀A hp,∀K',K' s1->f A hp s K')(l):∀{K},List.rec (fun K=>K []) (fun x _ ih K=>f [] [] x fun y=>ih fun r=>K (y::r)) l K->∃l1,K l1/\∀A hp,∀K',K' l1->List.rec (fun K=>K []) (fun x _ ih K=>f A hp x fun y=>ih fun r=>K (y::r)) l K':=by induction l with|nil=>grind|cons x l ih=>intro K h;obtain⟨y,h,hy⟩:=hf h;obtain⟨l1,h,hl⟩:=ih h;exact⟨y::l1,h,fun A hp K' o=>hy A hp _ (hl A hp _ o)⟩
def Zr{s}{K}(h:mg [] [] s K):∃s1,K s1/\∀A hp,∀K',K' s1->mg A hp s K':=by
 have key:(∃cs,s=.agg cs)\/lA [] [] s K:=by cases s<;>first|exact .inl ⟨_,rfl⟩|exact .inr h
 rcases key with⟨cs,rfl⟩|h;obtain⟨l,h,hl⟩:=Zz (f:=lA) Zm cs h;exact⟨.agg l,h,fun A hp K' o=>hl A hp _ o⟩;obtain⟨s1,E,F⟩:=Zm h;refine⟨s1,E,fun A hp K' o=>?_⟩;have:=F A hp K' o;exact ach
def Zx{s}{K}(h:mh [] [] s K):∃s1,K s1/\∀A hp,∀K',K' s1->mh A hp s K':=by
 have key:(∃cs,s=.tup cs)\/mg [] [] s K:=by cases s<;>first|exact .inl ⟨_,rfl⟩|exact .inr h
 rcases key with⟨cs,rfl⟩|h;obtain⟨l,h,hl⟩:=Zz (f:=mg) Zr cs h;exact⟨.tup l,h,fun A hp K' o=>hl A hp _ o⟩;obtain⟨s1,E,F⟩:=Zr h;refine⟨s1,E,fun A hp K' o=>?_⟩;have:=F A hp K' o;exact ach
def bj.same{n s s1 hc}(h:oJ n hc)(hs:mh (u9 hc.length) hc s (fun x=>x=s1)):bj n s hc s1 hc:=⟨⟨u9 hc.length,s1,arN _,hs,fun _ _ _ h=>h,h.id,h.ar8⟩⟩
def Ej{m w X g F s p bw ws}(hw:bF ws F=F.set p bw) (h:bO P m w fun v w'=>∃s' h' V,(s'=s/\h'=F.set p bw)/\af w' (Ex X V) V s' v/\Inv w' X V h'/\Step g.length w g w' V/\V.length=g.length):ea P m w X g F s ws:=
 bO.mono h fun v w'⟨s',h',V,⟨e1,e2⟩,b,c,d,e⟩=>by grind
def cc.sub(hT:bl P T){t:TypeId}{u aa j}{am h}{p}{ab}{gs}{A'}{K}(hp:h[p]?=some (.asn ab))(hA:uA ab am gs A') (bQ:∀hc,ef hc->gv (A' hc))(I:oJ gs.length am)(hAA:A' am=ab)(U:gs[j]?=some u) (o:de T false [.ptr j aa] am 0 (.load t (.tmp 0)) fun s ws _=>ws=[]/\mh [] [] s fun s1=>K s1 [] [p]):cc P t u aa h K:=by
 obtain⟨s,ws,aJ,⟨e,o⟩,aw,_⟩:=yk hT (fun h=>by simp[jX,qX]at h) o;subst e;obtain⟨s1,o,cY⟩:=Zx o;refine⟨⟨s1,[],[p],o,sM,fun w X g F A x d ty pos after guard hv O ap=>?_⟩⟩;have nY:=(ap p sM).trans hp;refine Ej (p:=p) (bw:=.asn ab) (yy nY).symm (E0 (R:=fun s0 h0=>s0=s/\h0=am) nY hA bQ I.Ed O (fun X1 dU p3 pa lc=>?_) (fun s0 h0⟨e1,e2⟩=>?_));have:=aw w X1 dU am (fun _=>.pointer (some ⟨u,aa,none⟩)) d ty pos after guard p3 (fun y hy=>?_) (fun _ _=>rfl);have e1:execOp A ⟨d,.load t x,ty,pos,after,guard⟩=execOp (fun _=>.pointer (some ⟨u,aa,none⟩)) ⟨d,.load t (.tmp 0),ty,pos,after,guard⟩:=by simp only[execOp,hv]
 rw[e1];exact bO.mono this fun v w'⟨V,a1,a2,a3,_⟩=>⟨s,am,V,⟨rfl,rfl⟩,a1,a2,a3⟩;simp[Op.operands]at hy;subst hy;intro s0 h0;simp at h0;subst h0;exact .ptr (pa j u U);rw[e1,e2];exact⟨s1,am,.same I (cY _ _ _ rfl),I.Ed,rfl,by rw[hAA]⟩
def aI(gs:Nat->List Nat)(hs:List Hp):fy:=fun w ci=>∃Os:Nat->Nat->Prop,(∀i hc,hs[i]?=some hc->cL hc (gs i) w (Os i))/\
 (∀i j k,i<hs.length->j<hs.length->Os i k->Os j k->i=j)/\∀k,ci k↔ ∃i,i<hs.length/\Os i k
def pq{gs hs}(hn:∀hc∈hs,ef hc):gv (aI gs hs):=fun w w' ci⟨Os,E,F,h3⟩U hz=>
 ⟨Os,fun i hc Q=>om (hn hc (bN Q)) (gs i) w w' (Os i) (E i hc Q) (fun u hO=>U u ((h3 u).2 ⟨i,(ao.1 Q).1,hO⟩)) hz,F,h3⟩
def uA.pool{gs hs i hc}(Q:hs[i]?=some hc)(hn:∀hc∈hs,ef hc):uA (aI gs hs) hc (gs i) (fun ST=>aI gs (hs.set i ST)):=by have cj:=(ao.1 Q).1;refine⟨fun w ci⟨Os,E,F,h3⟩=>⟨Os i,E i hc Q,fun k o=>(h3 k).2 ⟨i,cj,o⟩,fun ST w' y6 tc dp dY C2 lr=>⟨fun a=>if a=i then y6 else Os a,fun a M ha=>?_,fun a b k ha M h4 h5=>?_,fun k=>?_⟩⟩⟩;rw[bu]at ha;by_cases VN:i=a;simp_all;rw[ay VN]at ha;have aj1:¬a=i:=fun h=>VN h.symm;simp only[ay aj1];refine om (hn M (bN ha)) (gs a) w w' (Os a) (E a M ha) (fun u U=>?_) dY;grind;grind;grind
end
