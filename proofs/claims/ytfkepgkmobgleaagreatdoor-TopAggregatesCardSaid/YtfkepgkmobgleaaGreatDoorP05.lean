/- Lemmas for TopZ; tactic blocks in binders fill in some arguments. -/
import Derived.Test.YtfkepgkmobgleaaGreatDoorP04
set_option linter.all false
noncomputable section
namespace Go.Sx
section
variable{P:Program} {T:aG}
def Inv.conv{w}{X}{g}{h}(O:Inv w X g h){b}{x y}(M:h[b]?=some x)(hc:∀e,g[b]?=some e->aB w (Ex X g) g x e->aB w (Ex X g) g y e):Inv w X g (h.set b y):=by have ai:=(ao.1 M).1;refine⟨by simp[O.len],fun i bw e fm H=>?_,O.lt,O.inj,O.cU,O.df⟩;rw[bu]at fm;by_cases Q:b=i;subst Q;rw[au rfl,au ai]at fm;simp at fm;subst fm;exact hc e H (O.ok b x e M H);rw[ay Q]at fm;exact O.ok i bw e fm H
def jH.conv{J}{h}{op}{s}{ws}{aJ}(e4:∀p∈ws,p.1∈aJ) (hc:∀w X g F,Inv w X g F->(∀i∈aJ,F[i]?=h[i]?)->∃E,Inv w X g E/\aN P J E op fun s1 ws1 _=>∀w' V v,Step g.length w g w' V->af w' (Ex X V) V s1 v->Inv w' X V (bF ws1 E)->af w' (Ex X V) V s v/\Inv w' X V (bF ws F)):jH P J h op s ws aJ:=by refine⟨fun w X g F A d ty pos after guard O I ap=>?_,e4⟩;obtain⟨E,ct,s1,ws1,aw8,avF,aw⟩:=hc w X g F O ap;refine bO.mono (aw.ok w X g E A d ty pos after guard ct I fun _ _=>rfl) fun v w'⟨V,a1,a2,a3,a4⟩=>?_;grind
def tT{α:Type}{l:List α}{b}{x y}(h:l[b]?=some x):(l.set b y)[b]?=some y:=by grind
def A9{α:Type}{l}:∀{n:Nat}{v:α}{k:List α->Prop},n<l.length->k (l.set n v)->gg l n v k:=by induction l with|nil=>simp_all|cons x xs ih=>intro n v k h o;cases n with|zero=>exact o|succ n=>exact ih (k:=fun r=>k (x::r)) (by simpa using h) o
def QW{α:Type}:∀{n:Nat}{l:List α}{k:List α->Prop},n<=l.length->k (l.take n)->mD n l k:=by intro n;induction n with|zero=>intro l k _ o;show k [];simpa using o|succ n ih=>intro l k h o;cases l with|nil=>simp at h|cons x xs=>exact ih (k:=fun r=>k (x::r)) (by simpa using h) o
def ah9{α:Type}:∀{n:Nat}{l:List α}{k:List α->Prop},n<=l.length->k (l.drop n)->w4 n l k:=by intro n;induction n with|zero=>intro l k _ o;show k l;simpa using o|succ n ih=>intro l k h o;cases l with|nil=>simp at h|cons x xs=>exact ih (by simpa using h) o
def BZ{α:Type}{l}:∀{ys:List α}{k:List α->Prop},k (l++ys)->fA l ys k:=by induction l with|nil=>intro ys k h;exact h|cons x xs ih=>intro ys k h;exact ih (ys:=ys) (k:=fun r=>k (x::r)) h
def ab0(T)(t:TypeId):sC (k6 T t):=fun k h=>by have⟨te,h,ht⟩:=gq T t _ h;have⟨cs,h,hc⟩:=abY te.zero _ h;cases hz:te.Rs with|true=>rw[hz]at h;exact⟨_,h,fun k' bV=>ht _ (hc _ (by simp_all))⟩|false=>rw[hz]at h;cases cs with|nil=>exact h.elim|cons x r=>cases r with|nil=>exact⟨x,h,fun k' bV=>ht _ (hc _ (by simp_all))⟩|cons _ _=>exact h.elim
def al4{n}{k}(h:k n):x9 n k:=by cases n with|ofNat m=>cases m<;>exact h|negSucc m=>cases m<;>exact h
def aem{c}{K}{z}(h:∀s:SV,(∀w L g v,af w L g s v->af w L g z v)->K s):KV c K z:=by
 unfold KV;split;rename_i b;cases b with|true=>exact h _ fun w L g v D=>by cases D;exact .bool|false=>exact h _ fun w L g v D=>by cases D;exact .bool
 rename_i k n;have:=h _ fun w L g v D=>D;cases c with|false=>exact this|true=>exact al4 (k:=fun n=>K (.int k n)) this
 simp_all
def Ii{T}{t:TypeId}{s}{k}(h:qo T t s k):k/\∀k':Prop,k'->qo T t s k':=by obtain⟨te,h,ht⟩:=gq T t _ h;grind
end
section
variable{P:Program} {T:aG}
abbrev IE:=Int×SV×Nat
def x6(es:List IE)(k:Int):Option IE:=es.find? fun e=>e.1==k
def Aj(es:List IE)(k:Int):Option SV:=(x6 es k).map (·.2.1)
def rS(es:List IE)(k:Int):Bool:=es.any fun e=>e.1==k
def lx(es:List IE)(k:Int)(v:SV)(ck:Nat):List IE:=if rS es k then es.map (fun e=>if e.1=k then(e.1,v,e.2.2)else e)else es++[(k,v,ck)]
def m_(es:List IE)(k:Int)(ck:Nat):Nat:=if rS es k then ck else ck+1
def qm(es:List IE)(k:Int):List IE:=es.filter fun e=> !(e.1==k)
def eu(e:IE):ME:=(.int .i64 e.1,e.2.1,e.2.2)
def Xd{w L g es ck e}(h:aB w L g (.imap es ck) e):gW es ck/\aB w L g (.mapB (es.map eu) ck) e:=by
 cases e<;>simp only[aB]at h⊢;all_goals first|exact h.elim|skip
 obtain⟨hw,ms,E,F,h3⟩:=h;refine⟨hw,ms,E,by simpa using F,fun i e m H hm=>?_⟩;rw[bz]at H;cases hp:es[i]? with|none=>simp_all|some p=>rw[hp]at H;simp at H;subst H;have⟨a,b,c⟩:=h3 i p m hp hm;exact⟨by rw[a];exact .int,b,c⟩
def anq{w L g es ck e}(hw:gW es ck)(h:aB w L g (.mapB (es.map eu) ck) e):aB w L g (.imap es ck) e:=by cases e<;>simp only[aB]at h⊢;have⟨ms,E,F,h3⟩:=h;refine⟨hw,ms,E,by simpa using F,fun i e m H hm=>?_⟩;have⟨a,b,c⟩:=h3 i (eu e) m (by simp_all) hm;refine⟨?_,b,c⟩;generalize o:m.key=key at a;cases a;rfl
def Inv.imap{w X g h}(O:Inv w X g h){b es ck}(M:h[b]?=some (.imap es ck)):gW es ck/\Inv w X g (h.set b (.mapB (es.map eu) ck)):=by
 have ai:b<g.length:=by rw[O.len];exact(ao.1 M).1
 have H:=aD ai;exact⟨(Xd (O.ok b _ _ M H)).1,O.conv M fun e _ h=>(Xd h).2⟩
def tq{w}{X}{g}{F:Hp}{b}{aS:List IE}{m9}{bw}(M:F[b]?=some bw)(hw:gW aS m9)(O:Inv w X g (F.set b (.mapB (aS.map eu) m9))):Inv w X g (F.set b (.imap aS m9)):=by have:=O.conv (y:=.imap aS m9) (tT M) fun e _ h=>anq hw h;simp_all
def yy{F:Hp}{b}{bw}(M:F[b]?=some bw):F.set b bw=F:=by have⟨ai,U⟩:=ao.1 M;exact acR
def iY(es:List IE)(k:Int):Option Nat:=es.findIdx? fun e=>e.1==k
def IB{k}(es):∀{n K},K ((iY es k).map (n+ ·))->na (.int .i64 k) (es.map eu) n K:=by
 induction es with
 |nil=>intro n K h;exact h
 |cons e es ih=>
  intro n K h;have⟨a,v,s⟩:=e;show(if IntKind.i64=IntKind.i64 then dy (decide (k=a)) (K (some n)) (na (.int .i64 k) (es.map eu) (Nat.succ n) K)else False);rw[au rfl];unfold iY at h;rw[SF]at h;by_cases fO:a=k;have e1:(a==k)=true:=by simpa using fO
  rw[e1]at h;exact B3 (qM fO.symm) (by simpa using h);have e1:(a==k)=false:=by simpa using fO
  refine B2 (uh fun h'=>fO h'.symm) (ih ?_);show K ((iY es k).map (n+1+ ·));have:(iY es k).map (n+1+ ·)=(Option.map (fun i=>i+1) (List.findIdx? (fun e=>e.1==k) es)).map (n+ ·):=by unfold iY;cases List.findIdx? (fun e=>e.1==k) es with|none=>rfl|some i=>simp;omega
  simp_all
def Ak{es k i}(h:iY es k=some i):∃v s,es[i]?=some (k,v,s)/\x6 es k=some (k,v,s)/\rS es k=true:=by
 induction es generalizing i with
 |nil=>simp[iY]at h
 |cons e es ih=>
  have⟨a,v,s⟩:=e;unfold iY at h;rw[SF]at h;by_cases fO:a=k;have e1:(a==k)=true:=by simpa using fO
  rw[e1]at h;simp at h;subst h;subst fO;exact⟨v,s,rfl,by simp[x6],by simp[rS]⟩;have e1:(a==k)=false:=by simpa using fO
  simp only[e1]at h;cases hj:List.findIdx? (fun e=>e.1==k) es with|none=>rw[hj]at h;simp at h|some j=>rw[hj]at h;simp at h;subst h;have⟨v',s',E,F,h3⟩:=ih hj;refine⟨v',s',by simpa using E,?_,?_⟩;unfold x6 at F⊢;simp_all;unfold rS at h3⊢;simp_all
def H5{es k}(h:iY es k=none):x6 es k=none/\rS es k=false/\∀e∈es,e.1≠k:=by
 have E:∀e∈es,e.1≠k:=by unfold iY at h;rw[List.findIdx?_eq_none_iff]at h;intro e H o;have:=h e H;simp[o]at this
 refine⟨?_,?_,E⟩;unfold x6;grind;unfold rS;grind
def aor{es:List IE}(hn:(es.map (·.1)).Nodup){i j:Nat}{a b}(Q:es[i]?=some a)(hj:es[j]?=some b)(hab:a.1=b.1):i=j:=by
 have e1:(es.map (·.1))[i]?=some a.1:=by rw[bz,Q];rfl
 have e2:(es.map (·.1))[j]?=some a.1:=by rw[bz,hj,hab];rfl
 exact(ue (ao.1 e1).1 hn).1 (e1.trans e2.symm)
def alU{es k}:∀{i},(es.map (·.1)).Nodup->iY es k=some i->qm es k=es.eraseIdx i:=by
 induction es with
 |nil=>intro i _ h;simp[iY]at h
 |cons e es ih=>
  intro i hn h;have⟨a,v,s⟩:=e;unfold iY at h;rw[SF]at h;simp only[mI,SG]at hn;by_cases fO:a=k;have e1:(a==k)=true:=by simpa using fO
  rw[e1]at h;simp at h;subst h;subst fO;show(List.filter _ _)=_;rw[SH];simp only[e1,dL,dI,ek,List.eraseIdx_zero,List.tail_cons];rw[Kw];grind;have e1:(a==k)=false:=by simpa using fO
  simp only[e1]at h;cases hj:List.findIdx? (fun e=>e.1==k) es with|none=>rw[hj]at h;simp at h|some j=>rw[hj]at h;simp at h;subst h;have:=ih hn.2 hj;unfold qm at this⊢;simp_all
def Xc{es}{k}{v}{ck i s}{v0}(hn:(es.map (·.1)).Nodup)(h:iY es k=some i)(Q:es[i]?=some (k,v0,s)):lx es k v ck=es.set i (k,v,s):=by have hh:=Ak h;have⟨_,_,_,_,jR⟩:=hh;unfold lx;rw[au jR];apply jh;intro j;rw[bz,bu];by_cases lp:i=j;grind;rw[ay lp];cases hj:es[j]? with|none=>rfl|some e=>have:e.1≠k:=fun H=>lp (aor hn Q hj H.symm);simp[this]
def acM{ab:Prop}(k:ab:=by apply jh;intro j;rw[bz,bz,bu];by_cases lp:i=j;grind;rw[ay lp]):ab:=k
def gW.set{es ck}(h:gW es ck)(k)(v):gW (lx es k v ck) (m_ es k ck):=by
 have⟨E,F,h3⟩:=h;cases hx:iY es k with
 |some i=>
  have⟨v0,s,Q,_,jR⟩:=Ak hx;rw[Xc E hx Q];unfold m_;rw[au jR];have WA:(es.set i (k,v,s)).map (·.1)=es.map (·.1):=by exact acM
  have nW:(es.set i (k,v,s)).map (·.2.2)=es.map (·.2.2):=by exact acM
  refine⟨by rw[WA];exact E,by rw[nW];exact F,fun e H=>?_⟩;grind
 |none=>have⟨_,jR,cW⟩:=H5 hx;unfold lx m_;rw[ay (by rw[jR];simp),ay (by rw[jR];simp)];refine⟨?_,?_,fun e H=>?_⟩;grind;grind;grind
def gW.del{es ck}(h:gW es ck)(k):gW (qm es k) ck:=
 ⟨h.1.sublist (List.Sublist.map _ Fx),h.2.1.sublist (List.Sublist.map _ Fx),fun e H=>h.2.2 e (oE.1 H).1⟩
def gW.nil(ck):gW [] ck:=⟨sM,sM,sM⟩
def ob(h:Hp)(x:SV)(kt:Nat->List IE->Nat->Prop)(kf:Prop):Prop:=match x with
 |.mp b=>av h b fun aT=>match aT with|.imap es ck=>kt b es ck|_=>kf
 |_=>kf
def Xb{h x kt kf}(o:ob h x kt kf):(∃b es ck,x=.mp b/\h[b]?=some (.imap es ck)/\kt b es ck)\/kf:=by cases x with|mp b=>have⟨aT,M,o⟩:=bg o;grind|_=>exact .inr o
def DK(s:SV)(k:Int->Prop):Prop:=match s with|.int q n=>(match q with|.i64=>k n|_=>False)|_=>False
def H3{s k}(h:DK s k):∃n,s=.int .i64 n/\k n:=by
 cases s with
 |int q n=>cases q<;>first|exact⟨n,rfl,h⟩|cases h
 |_=>cases h
structure nG(es:List IE)(k:Int)(yes:SV->Prop)(no:Prop):Prop where
 left:∀v,Aj es k=some v->yes v
 right:Aj es k=none->no
def X4(T:aG)(t:TypeId)(b:Nat)(es:List IE)(key:SV)(ok:Bool)(K:bC):Prop:=
 aX T t fun te=>match te.ti with
  |.map kt d4=>qo T kt key (DK key fun k=>k6 T d4 fun z=>nG es k (fun v=>Bool.rec (motive:=fun _=>Prop) (K v [] [b]) (K (.tup [v,.tt]) [] [b]) ok) (Bool.rec (motive:=fun _=>Prop) (K z [] [b]) (K (.tup [z,.ff]) [] [b]) ok))
  |_=>False
def am8(hT:bl P T){J}{h}{t:TypeId}{x y}{ok}{K}{b}{es}{ck}{key}(M:h[b]?=some (.imap es ck))(hm:∀w L g A,bA w L g J A x->af w L g (.mp b) (A x)) (hy:∀w L g A,bA w L g J A y->af w L g key (A y))(o:X4 T t b es key ok K):aN P J h (.lookup t x y ok) K:=by
 obtain⟨te,o,d5⟩:=gq T t _ o;cases ax:te.ti with
 |map kt d4=>
  rw[ax]at o;obtain⟨o,kS⟩:=Ii o;obtain⟨k,rfl,o⟩:=H3 o;obtain⟨z,o,hz⟩:=ab0 T d4 _ o
  have go:∀s,K s [] [b]->(∀K1,(∀s1,(∀w L g v,af w L g s1 v->af w L g s v)->K1 s1 [] [b])->
   (match(iY es k).map (0+ ·)with
    |none=>k6 T d4 fun z=>Bool.rec (di false K1 z [] [b]) (K1 (.tup [z,.ff]) [] [b]) ok
    |some i=>av (es.map eu) i fun e=>Bool.rec (di false K1 e.2.1 [] [b]) (K1 (.tup [e.2.1,.tt]) [] [b]) ok))->aN P J h (.lookup t x y ok) K:=fun s hs h'=>by
   refine⟨s,[],[b],hs,jH.conv sM fun w X g F O ap=>?_⟩
   have aP:=(ap b sM).trans M
   have⟨hw,ct⟩:=O.imap aP
   refine⟨_,ct,X6 hT (c:=false) hm hy (d5 _ ?_)⟩
   simp only[ax]
   refine kS _ (jY (tT aP) (IB es ?_))
   exact h' _ fun s1 cY w' V v hS bb be=>⟨cY _ _ _ _ bb,by
    have:=tq (bw:=.imap es ck) aP hw be
    rwa[yy aP]at this⟩
  have val:∀z bit,(Bool.rec (K z [] [b]) (K (.tup [z,bit]) [] [b]) ok)->∃s,K s [] [b]/\∀K1,(∀s1,(∀w L g v,af w L g s1 v->af w L g s v)->K1 s1 [] [b])->
   (Bool.rec (di false K1 z [] [b]) (K1 (.tup [z,bit]) [] [b]) ok):=fun z bit h=>by
   cases ok with
   |true=>grind
   |false=>exact⟨z,h,fun K1 E=>aem (K:=fun s=>K1 s [] [b]) E⟩
  cases hx:iY es k with|none=>have⟨E,_,_⟩:=H5 hx;have⟨s,hs,hv⟩:=val z .ff (o.2 (by unfold Aj;rw[E];rfl));grind|some i=>have⟨v,s0,Q,E,_⟩:=Ak hx;have⟨s,hs,hv⟩:=val v .tt (o.1 v (by unfold Aj;rw[E];rfl));refine go s hs fun K1 E=>?_;rw[hx];refine jY (x:=eu (k,v,s0)) ?_ (hv K1 E);simp_all
 |_=>simp_all
def YC(T:aG)(t:TypeId)(b:Nat)(es:List IE)(ck:Nat)(key v:SV)(K:bC):Prop:=
 aX T t fun te=>match te.ti with
  |.map kt _=>qo T kt key (DK key fun k=>bo (zH v) (K .undef [(b,.imap (lx es k v ck) (m_ es k ck))] [b]))
  |_=>False
def anT(hT:bl P T){J}{h}{t:TypeId}{x y z}{K}{b}{es}{ck}{key v}(M:h[b]?=some (.imap es ck))(hm:∀w L g A,bA w L g J A x->af w L g (.mp b) (A x)) (hy:∀w L g A,bA w L g J A y->af w L g key (A y))(hz:∀w L g A,bA w L g J A z->af w L g v (A z)) (o:YC T t b es ck key v K):aN P J h (.mapUpdate t x y z) K:=by
 have⟨te,o,d5⟩:=gq T t _ o;cases ax:te.ti with
 |map kt d4=>
  rw[ax]at o;have⟨o,kS⟩:=Ii o;obtain⟨k,rfl,o⟩:=H3 o;have⟨hf,o⟩:=bL o;have zY:hG false v=false:=by unfold hG;rw[hf];rfl
  refine⟨.undef,[(b,.imap (lx es k v ck) (m_ es k ck))],[b],o,jH.conv sM fun w X g F O ap=>?_⟩;have aP:=(ap b sM).trans M;have⟨hw,ct⟩:=O.imap aP;refine⟨_,ct,YD hT hm hy hz (d5 _ ?_)⟩;simp only[ax];refine kS _ (jY (tT aP) (IB es ?_));have fin:∀l c,l=(lx es k v ck).map eu->c=m_ es k ck->∀w' V ag,Step g.length w g w' V->af w' (Ex X V) V .undef ag->
   Inv w' X V (bF [(b,.mapB l c)] (F.set b (.mapB (es.map eu) ck)))->af w' (Ex X V) V .undef ag/\Inv w' X V (bF [(b,.imap (lx es k v ck) (m_ es k ck))] F):=fun l c hl hc w' V ag hS bb be=>by
   subst hl;subst hc
   refine⟨bb,?_⟩
   have be:Inv w' X V ((F.set b (.mapB (es.map eu) ck)).set b (.mapB ((lx es k v ck).map eu) (m_ es k ck))):=be
   rw[qL]at be
   exact tq aP (hw.set k v) be
  cases hx:iY es k with
  |none=>have⟨_,jR,_⟩:=H5 hx;refine BZ ?_;rw[zY];refine fin _ _ ?_ ?_;unfold lx;rw[ay (by rw[jR];simp)];simp[eu];unfold m_;simp_all
  |some i=>
   have⟨v0,s0,Q,_,jR⟩:=Ak hx;have cj:=(ao.1 Q).1;have e0:(es.map eu)[0+i]?=some (eu (k,v0,s0)):=by rw[jE,bz,Q];rfl
   refine jY e0 (A9 (by simp;omega) ?_);rw[zY];refine fin _ _ ?_ ?_;rw[Xc hw.1 hx Q,iH];simp only[jE];rfl;unfold m_;rw[au jR]
 |_=>simp_all
def Yp(T:aG)(t:TypeId)(b:Nat)(es:List IE)(ck:Nat)(key:SV)(K:bC):Prop:=
 aX T t fun te=>match te.ti with
  |.map kt d4=>qo T kt key (DK key fun k=>k6 T d4 fun z=>rS es k=false/\bo (zH z) (K (.tup [z,.int .i64 (ck:Int)]) [(b,.imap (es++[(k,z,ck)]) (ck+1))] [b]))
  |_=>False
def anA(hT:bl P T){J}{h}{t:TypeId}{x y}{K}{b}{es}{ck}{key}(M:h[b]?=some (.imap es ck))(hm:∀w L g A,bA w L g J A x->af w L g (.mp b) (A x)) (hy:∀w L g A,bA w L g J A y->af w L g key (A y))(o:Yp T t b es ck key K):aN P J h (.mapEntry t x y) K:=by
 have⟨te,o,d5⟩:=gq T t _ o;cases ax:te.ti with
 |map kt d4=>
  rw[ax]at o;have⟨o,kS⟩:=Ii o;obtain⟨k,rfl,o⟩:=H3 o;have⟨z,⟨jR,o⟩,hzd⟩:=ab0 T d4 _ o;have⟨hf,o⟩:=bL o;have zY:hG false z=false:=by unfold hG;rw[hf];rfl
  refine⟨.tup [z,.int .i64 (ck:Int)],[(b,.imap (es++[(k,z,ck)]) (ck+1))],[b],o,jH.conv sM fun w X g F O ap=>?_⟩;have aP:=(ap b sM).trans M;have⟨hw,ct⟩:=O.imap aP;refine⟨_,ct,Yq hT hm hy (d5 _ ?_)⟩;simp only[ax];refine kS _ (jY (tT aP) (IB es ?_));have hx:iY es k=none:=by cases hx:iY es k with|none=>rfl|some i=>obtain⟨_,_,_,_,E⟩:=Ak hx;simp_all
  rw[hx];refine hzd _ (BZ (fun w' V ag hS bb be=>⟨bb,?_⟩));have xX:=hw.set k z;have e1:lx es k z ck=es++[(k,z,ck)]:=by unfold lx;rw[ay (by rw[jR];simp)]
  have e2:m_ es k ck=ck+1:=by unfold m_;rw[ay (by rw[jR];simp)]
  rw[e1,e2]at xX;have be:Inv w' X V ((F.set b (.mapB (es.map eu) ck)).set b (fF (hG false z) (es.map eu++[(.int .i64 k,z,ck)]) (Nat.succ ck))):=be;rw[zY,qL]at be;refine tq aP xX ?_;rw[dx];exact be
 |_=>simp_all
def pc(es:List IE)(n:Int)(v:SV):List IE:=es.map fun e=>if(e.2.2:Int)=n then(e.1,v,e.2.2)else e
def gW.store{es ck}(h:gW es ck)(n)(v):gW (pc es n v) ck:=by
 have⟨E,F,h3⟩:=h;have e1:(pc es n v).map (·.1)=es.map (·.1):=by unfold pc;rw[pJ];refine k8 fun e _=>?_;show(if(e.2.2:Int)=n then(e.1,v,e.2.2)else e).1=e.1;split<;>rfl
 have e2:(pc es n v).map (·.2.2)=es.map (·.2.2):=by unfold pc;rw[pJ];refine k8 fun e _=>?_;show(if(e.2.2:Int)=n then(e.1,v,e.2.2)else e).2.2=e.2.2;split<;>rfl
 refine⟨by rw[e1];exact E,by rw[e2];exact F,fun e H=>?_⟩;unfold pc at H;grind
def afZ{n}(es):∀{i j k e},es[j]?=some e->(e.2.2:Int)=n->(∀l e',l<j->es[l]?=some e'->(e'.2.2:Int)≠n)->k (i+j)->B7 n es i k:=by induction es with|nil=>simp_all|cons a es ih=>intro i j k e hj H M o;show dy (decide ((a.2.2:Int)=n)) (k i) (B7 n es (Nat.succ i) k);cases j with|zero=>simp at hj;subst hj;exact B3 (qM H) o|succ j=>refine B2 (uh (M 0 a G rfl)) (ih (j:=j) (by simpa using hj) H (fun l e' hl d3=>M (l+1) e' G (by simpa using d3)) ?_);grind
def UM(b:Nat)(es:List IE)(ck:Nat)(st v:SV)(K:bC):Prop:=match st with|.int _ n=>(∃e∈es,(e.2.2:Int)=n)/\bo (zH v) (K .undef [(b,.imap (pc es n v) ck)] [b])|_=>False
def ais{J}{h}{t:TypeId}{x y z}{K}{b}{es}{ck}{st v}(M:h[b]?=some (.imap es ck))(hm:∀w L g A,bA w L g J A x->af w L g (.mp b) (A x)) (hy:∀w L g A,bA w L g J A y->af w L g st (A y))(hz:∀w L g A,bA w L g J A z->af w L g v (A z)) (o:UM b es ck st v K):aN P J h (.entryStore t x y z) K:=by
 cases st with
 |int q n=>
  have⟨⟨e,H,hn⟩,o⟩:=o;have⟨hf,o⟩:=bL o;have zY:hG false v=false:=by unfold hG;rw[hf];rfl
  refine⟨.undef,[(b,.imap (pc es n v) ck)],[b],o,jH.conv sM fun w X g F O ap=>?_⟩;have aP:=(ap b sM).trans M;have⟨hw,ct⟩:=O.imap aP;refine⟨_,ct,UN hm hy hz ?_⟩;have⟨j,hj⟩:=fx.1 H;have dq:=(ao.1 hj).1;have uniq:∀l e',es[l]?=some e'->(e'.2.2:Int)=n->l=j:=fun l e' hl h'=>by
   have e1:(es.map (·.2.2))[l]?=some e.2.2:=by rw[bz,hl];show some e'.2.2=_;congr 1;omega
   have e2:(es.map (·.2.2))[j]?=some e.2.2:=by rw[bz,hj];rfl
   exact(ue (by grind) hw.2.1).1 (e1.trans e2.symm)
  have Wz:(es.map eu)[j]?=some (eu e):=by rw[bz,hj];rfl
  refine jY (tT aP) (afZ (j:=j) _ Wz hn (fun l e' hl d3 h'=>?_) ?_);rw[bz,BC]at d3;obtain⟨e2,d3,rfl⟩:=d3;have:=uniq l e2 d3 h';omega;rw[jE];refine jY Wz (A9 (by simpa using dq) (fun w' V ag hS bb be=>⟨bb,?_⟩));have be:Inv w' X V ((F.set b (.mapB (es.map eu) ck)).set b (fF (hG false v) ((es.map eu).set j ((eu e).1,v,(eu e).2.2)) ck)):=be;rw[zY,qL]at be;refine tq aP (hw.store n v) ?_;have rM:(es.map eu).set j ((eu e).1,v,(eu e).2.2)=(pc es n v).map eu:=by apply jh;intro l;unfold pc;rw[bu,bz,bz,bz];by_cases hl:j=l;subst hl;rw[au rfl,au (by simpa using dq),hj];simp[hn,eu];grind
  rw[<-rM];exact be
 |_=>cases o
def LV(T:aG)(t:TypeId)(b:Nat)(es:List IE)(ck:Nat)(key:SV)(K:bC):Prop:=
 aX T t fun te=>match te.ti with
  |.map kt _=>qo T kt key (DK key fun k=>K (.tup []) [(b,.imap (qm es k) ck)] [b])
  |_=>False
def ahw(hT:bl P T){J}{h}{t:TypeId}{kB}{xs}{x y}(bD:kB.toList=t::kB.toList.tail)(bv:xs.toList=[x,y]){K}{b}{es}{ck}{key}(M:h[b]?=some (.imap es ck)) (hm:∀k':SV->Prop,k' (.mp b)->az J x k')(hy:∀k':SV->Prop,k' key->az J y k')(o:LV T t b es ck key K):aN P J h (.call ⟨.builtin .delete,xs,kB⟩) K:=by
 have⟨te,o,d5⟩:=gq T t _ o;cases ax:te.ti with
 |map kt d4=>
  rw[ax]at o;have⟨o,kS⟩:=Ii o;obtain⟨k,rfl,o⟩:=H3 o;refine⟨.tup [],[(b,.imap (qm es k) ck)],[b],o,jH.conv sM fun w X g F O ap=>?_⟩;have aP:=(ap b sM).trans M;have⟨hw,ct⟩:=O.imap aP;refine⟨_,ct,Ui hT bD bv (hm _ (hy _ (d5 _ ?_)))⟩;simp only[ax];refine kS _ (jY (tT aP) (IB es ?_));have fin:∀l,l=(qm es k).map eu->∀w' V ag,Step g.length w g w' V->af w' (Ex X V) V (.tup []) ag->
   Inv w' X V (bF [(b,.mapB l ck)] (F.set b (.mapB (es.map eu) ck)))->af w' (Ex X V) V (.tup []) ag/\Inv w' X V (bF [(b,.imap (qm es k) ck)] F):=fun l hl w' V ag hS bb be=>by
   subst hl
   refine⟨bb,?_⟩
   have be:Inv w' X V ((F.set b (.mapB (es.map eu) ck)).set b (.mapB ((qm es k).map eu) ck)):=be
   rw[qL]at be
   exact tq aP (hw.del k) be
  cases hx:iY es k with
  |none=>
   have⟨_,_,cW⟩:=H5 hx
   refine fin _ ?_
   congr 1
   unfold qm
   rw[Kw.2]
   grind
  |some i=>have⟨v0,s0,Q,_,_⟩:=Ak hx;have cj:=(ao.1 Q).1;refine QW (by simp;omega) (ah9 (by simp;omega) (BZ ?_));refine fin _ ?_;rw[alU hw.1 hx,v_,dx,wa,Sd];simp_all
 |_=>simp_all
def LL(T:aG)(t:TypeId)(b ck:Nat)(K:bC):Prop:=aX T t fun te=>match te.ti with|.map _ _=>K (.tup []) [(b,.imap [] ck)] [b]|_=>False
def agZ(hT:bl P T){J}{h}{t:TypeId}{kB}{xs}{x}(bD:kB.toList=t::kB.toList.tail)(bv:xs.toList=[x]){K}{b}{es:List IE}{ck}(M:h[b]?=some (.imap es ck)) (hm:∀k':SV->Prop,k' (.mp b)->az J x k')(o:LL T t b ck K):aN P J h (.call ⟨.builtin .clear,xs,kB⟩) K:=by have⟨te,o,d5⟩:=gq T t _ o;cases ax:te.ti with|map kt d4=>rw[ax]at o;refine⟨.tup [],[(b,.imap [] ck)],[b],o,jH.conv sM fun w X g F O ap=>?_⟩;have aP:=(ap b sM).trans M;have⟨hw,ct⟩:=O.imap aP;refine⟨_,ct,Ua hT bD bv (hm _ (d5 _ ?_))⟩;simp only[ax];refine jY (tT aP) fun w' V ag hS bb be=>⟨bb,?_⟩;have be:Inv w' X V ((F.set b (.mapB (es.map eu) ck)).set b (.mapB (([]:List IE).map eu) ck)):=be;rw[qL]at be;exact tq aP (gW.nil ck) be|_=>simp_all
def OL(T:aG)(t:TypeId)(b:Nat)(es:List IE)(K:bC):Prop:=aX T t fun te=>match te.ti with|.map _ _=>K (.int .i64 (es.length:Int)) [] [b]|_=>False
def amJ(hT:bl P T){J}{h}{t:TypeId}{kB}{xs}{x}(bD:kB.toList=t::kB.toList.tail)(bv:xs.toList=[x]){K}{b}{es}{ck}(M:h[b]?=some (.imap es ck)) (hm:∀k':SV->Prop,k' (.mp b)->az J x k')(o:OL T t b es K):aN P J h (.call ⟨.builtin .len,xs,kB⟩) K:=by have⟨te,o,d5⟩:=gq T t _ o;cases ax:te.ti with|map kt d4=>rw[ax]at o;refine⟨_,[],[b],o,jH.conv sM fun w X g F O ap=>?_⟩;have aP:=(ap b sM).trans M;have⟨hw,ct⟩:=O.imap aP;refine⟨_,ct,XP hT bD bv (hm _ (d5 _ ?_))⟩;simp only[ax];refine jY (tT aP) fun w' V ag hS bb be=>⟨by simpa using bb,?_⟩;have:=tq (bw:=.imap es ck) aP hw be;rwa[yy aP]at this|_=>simp_all
def aai(T:aG)(ae:Nat)(t:TypeId)(b ck:Nat)(K:bC):Prop:=aX T t fun te=>match te.ti with|.map _ _=>K (.it ae) [(ae,.mit (some b) ck [] ck)] [ae,b]|_=>False
def are(hT:bl P T){J}{h}{ae}(hf:h[ae]?=some .fresh){t:TypeId}{x}{K}{b}{es:List IE}{ck}(M:h[b]?=some (.imap es ck)) (hm:∀k':SV->Prop,k' (.mp b)->az J x k')(o:aai T ae t b ck K):aN P J h (.range t x) K:=by
 have mW:b≠ae:=by rintro rfl;rw[M]at hf;simp at hf
 have⟨te,o,d5⟩:=gq T t _ o;cases ax:te.ti with
 |map kt d4=>
  rw[ax]at o;refine⟨_,_,_,o,jH.conv sM fun w X g F O ap=>?_⟩;have aP:=(ap b sM).trans M;have cE:=(ap ae sM).trans hf;have⟨hw,ct⟩:=O.imap aP;have xx:(F.set b (.mapB (es.map eu) ck))[ae]?=some .fresh:=by rw[bu,ay mW];exact cE
  refine⟨_,ct,aak hT xx (hm _ (d5 _ ?_))⟩;simp only[ax];refine jY (tT aP) fun w' V ag hS bb be=>⟨bb,?_⟩;have be:Inv w' X V ((F.set b (.mapB (es.map eu) ck)).set ae (.mit (some b) ck [] ck)):=be;rw[List.set_comm _ _ mW]at be;have d1:(F.set ae (.mit (some b) ck [] ck))[b]?=some (.imap es ck):=by rw[bu,ay (fun e=>mW e.symm)];exact aP
  have:=tq d1 hw be;rwa[yy d1]at this
 |_=>simp_all
end
section
variable{P:Program} {T:aG}
def E3(h:Hp)(b:Nat)(k:TypeId->Nat->List (List SV)->Prop):Prop:=av h b fun bw=>match bw with|.row t z es=>k t z es|_=>False
def JR{h b}{k:TypeId->Nat->List (List SV)->Prop}(o:E3 h b k):∃t z es,h[b]?=some (dr false t z es)/\k t z es:=by obtain⟨bw,M,o⟩:=bg o;cases bw with|row t z es=>exact⟨t,z,es,M,o⟩|_=>cases o
def aby(T:aG)(J:Fr)(h:Hp)(t:TypeId)(b m:Nat)(i:Operand)(K:bC):Prop:=az J i fun s=>match s with
 |.int _ n=>aX T t fun te=>match te.ti with|.slice e=>E3 h b fun _ z es=>eQ T e fun q _=>bd q z (bo (decide (m<=es.length/\0<=n/\n<(m:Int))) (K (.ep b (es.length-m+n.toNat) 0) [] [b]))|_=>False
 |_=>False
def at7(hT:bl P T){J h}{t:TypeId}{b m x i K}(hx:∀w L g A,bA w L g J A x->af w L g (.tl b m) (A x))(o:aby T J h t b m i K):aN P J h (.indexAddr t x i) K:=by
 obtain⟨si,o,Q⟩:=bS o;cases si with
 |int q n=>
  replace o:=b4 hT o;generalize ax:(bk P t).ti=ti at o;cases ti with
  |slice e=>
   have hu:=fi (bm ax sM).1;obtain⟨T0,z,es,dn,o⟩:=JR o;obtain⟨sz,h1,o,_,hn⟩:=kY hT o;obtain⟨kX,aU⟩:=b2 o;subst kX;obtain⟨M,ga⟩:=bL aU;obtain⟨hm,h0,E⟩:=cZ M;refine⟨_,_,_,ga,fun w X g F A d ty pos after guard O I ap=>?_,sM⟩;have aP:F[b]?=some (dr false T0 sz es):=(ap b (by simp)).trans dn;have D:=hx w _ g A (I x rO);have dB:=Q w _ g A (I i rO);generalize aF:A x=vx at D;generalize jU:A i=vX at dB;cases dB;rcases ot O aP with⟨u,cap,vs,ak,cR,_⟩|⟨_,dA⟩;cases D with|tl h' bq bf=>rw[ak]at h';simp at h';obtain⟨rfl,rfl,rfl,rfl⟩:=h';refine .pure (v:=.pointer (some ⟨u,(es.length-m+n.toNat)*sz,none⟩)) (cu ?_) O (by rw[show(es.length-m+n.toNat)*sz=(es.length-m+n.toNat)*sz+0 from rfl];exact .ep ak);exact Bv|eY h'=>simp_all|fM h'=>omega
   grind
  |_=>cases o
 |_=>cases o
def QZ(T:aG)(h:Hp)(t:TypeId)(b m:Nat)(K:bC):Prop:=aX T t fun te=>match te.ti with|.slice _=>E3 h b fun _ _ _=>K (.int .i64 (m:Int)) [] [b]|_=>False
def at8(hT:bl P T){J h}{t:TypeId}{kB xs x b m}(bD:kB.toList=[t])(bv:xs.toList=[x]){K} (hx:∀w L g A,bA w L g J A x->af w L g (.tl b m) (A x))(o:QZ T h t b m K):aN P J h (.call ⟨.builtin .len,xs,kB⟩) K:=by
 replace o:=b4 hT o;generalize ax:(bk P t).ti=ti at o;have n5:∀A:Operand->Value,xs.map A= #[A x]:=fun A=>by exact Bz
 have iS:kB[0]?=some t:=by rw[<-eF,bD];rfl
 have gI:x∈(Op.call ⟨.builtin .len,xs,kB⟩).operands.toList:=by simp[Op.operands,Call.operands];rw[<-qN,bv];simp
 have hex:∀A d ty pos after guard,
  execOp A ⟨d,.call ⟨.builtin .len,xs,kB⟩,ty,pos,after,guard⟩=(do pure (Next.value (<-Builtin.len_ kB ty #[A x])):Sem Next):=fun A d ty pos after guard=>by
  exact adf
 cases ti with
 |slice e=>
  have hu:=fi (bm ax sM).1;obtain⟨T0,z,es,M,o⟩:=JR o;refine⟨_,_,_,o,fun w X g F A d ty pos after guard O I ap=>?_,sM⟩;have E:=hx w _ g A (I x gI);have hv:∃a c,A x=.slice a m c:=by generalize aF:A x=vx at E;rcases ot O ((ap b sM).trans M)with⟨u,cap,vs,ak,_⟩|⟨ak,dA⟩;cases E<;>grind;cases E<;>simp_all
  obtain⟨a,c,hv⟩:=hv;refine dD (hex A d ty pos after guard) (v:=.int .i64 (m:Int)) (w':=w) ?_ ⟨g,.int,O,.refl _ _ _,rfl⟩;exact adX
 |_=>cases o
def LO{w}{t e:TypeId}{sz}(hu:P.underlying t=some (.slice e))(hn:(Go.sizeOf e).run P w=.ok sz w){A}{lo Q:Option Operand}{l ag}{a}{m c:Nat} (fo:(lo=none/\l=0)\/ ∃y,lo=some y/\∃q,A y=.int q l)(l3:(Q=none/\ag=(m:Int))\/ ∃y,Q=some y/\∃q,A y=.int q ag)(h0:0<=l)(E:l<=ag)(F:ag<=(c:Int)):(Instr.sliceAt t (.slice a m c) (lo.map A) (Q.map A) none).run P w=.ok (.slice (a.map fun a=>if c=l.toNat then a else a.add (l.toNat*sz)) (ag.toNat-l.toNat) (c-l.toNat)) w:=by have VU:=wT (P:=P) (w:=w) (isSlice:=true) (len:=m) (cap:=c) fo l3 h0 E F;cases a with|none=>simp only[Instr.sliceAt,Instr.slice,bJ,bB hu,cb,VU,hn,da,SJ,ite_self]|some a=>simp only[Instr.sliceAt,Instr.slice,bJ,bB hu,cb,VU,hn,da,nC];grind
def abx(T:aG)(J:Fr)(h:Hp)(t:TypeId)(b m:Nat)(lo Q mx:Option Operand)(K:bC):Prop:=match lo,Q,mx with
 |some l,none,none=>az J l fun s=>match s with
  |.int _ n=>aX T t fun te=>match te.ti with|.slice e=>E3 h b fun _ z es=>eQ T e fun q _=>bd q z (bo (decide (m<=es.length/\0<=n/\n<=(m:Int))) (K (.tl b (m-n.toNat)) [] [b]))|_=>False
  |_=>False
 |_,_,_=>False
def arP(T:aG)(J:Fr)(t:TypeId)(u c:Nat)(lo Q mx:Option Operand)(K:bC):Prop:=match lo,Q,mx with
 |none,some y,none=>az J y fun s=>match s with
  |.int _ k=>aX T t fun te=>match te.ti with|.slice e=>eQ T e fun _ _=>(0<=k/\k<=(c:Int))/\K (.rl u k.toNat c) [] []|_=>False
  |_=>False
 |_,_,_=>False
def aaC(x:SV)(u8:Nat->Nat->Prop)(kf:Prop):Prop:=match x with|.rl u _ c=>u8 u c|_=>kf
def arV{x u8 kf}(h:aaC x u8 kf):(∃u n c,x=.rl u n c/\u8 u c)\/kf:=by cases x<;>first|exact .inl ⟨_,_,_,rfl,h⟩|exact .inr h
def at6(hT:bl P T){J}{h}{t:TypeId}{b m}{x}{lo Q mx}{K}(hx:∀w L g A,bA w L g J A x->af w L g (.tl b m) (A x))(o:abx T J h t b m lo Q mx K):aN P J h (.slice t x lo Q mx) K:=by
 cases lo with
 |none=>cases o
 |some l=>
  cases Q with
  |some _=>cases o
  |none=>
   cases mx with
   |some _=>cases o
   |none=>
    obtain⟨sl,o,hl⟩:=bS o;cases sl with
    |int q n=>
     replace o:=b4 hT o;generalize ax:(bk P t).ti=ti at o;cases ti with
     |slice e=>
      have hu:=fi (bm ax sM).1;obtain⟨T0,z,es,dn,o⟩:=JR o;obtain⟨sz,h1,o,_,hn⟩:=kY hT o;obtain⟨kX,aU⟩:=b2 o;subst kX;obtain⟨M,ga⟩:=bL aU;obtain⟨hm,h0,E⟩:=cZ M;refine⟨_,_,_,ga,fun w X g F A d ty pos after guard O I ap=>?_,sM⟩;have aP:F[b]?=some (dr false T0 sz es):=(ap b (by simp)).trans dn;have D:=hx w _ g A (I x rO);have dB:=hl w _ g A (I l rO);have fo:((some l:Option Operand)=none/\n=0)\/ ∃y,some l=some y/\∃q,A y=.int q n:=by generalize jU:A l=vX at dB;cases dB;exact .inr ⟨l,rfl,_,jU⟩
      have l3:((none:Option Operand)=none/\(m:Int)=(m:Int))\/ ∃y,(none:Option Operand)=some y/\∃q,A y=.int q (m:Int):=.inl ⟨rfl,rfl⟩;rcases ot O aP with⟨u,cap,vs,ak,cR,_⟩|⟨ak,dA⟩;obtain⟨aa,hv,bf⟩:∃aa,A x=.slice (some ⟨u,aa,none⟩) m (cap-(es.length-m))/\(es.length-m<cap->aa=(es.length-m)*sz):=by generalize aF:A x=vx at D;cases D<;>grind
      have a7:=LO (P:=P) (w:=w) hu (hn w) (a:=some ⟨u,aa,none⟩) (m:=m) (c:=cap-(es.length-m)) fo l3 h0 E (by omega);rw[<-hv]at a7;refine .pure (cu (m:=Instr.sliceAt t (A x) ((some l).map A) ((none:Option Operand).map A) none) a7) O ?_;rw[gh,show cap-(es.length-m)-n.toNat=cap-(es.length-(m-n.toNat)) by omega,nC];by_cases hz:cap-(es.length-m)=n.toNat;rw[au hz];exact .tl ak G (fun ai=>by omega);rw[ay hz,lf];refine .tl ak G (fun ai=>?_);rw[bf G,<-jg];congr 1;omega;subst dA;simp at hm;subst hm;have lq:n=0:=G;subst lq;have hv:A x=.slice none 0 0:=by generalize aF:A x=vx at D;cases D with|tl h'=>simp_all|eY h'=>simp_all|fM h'=>rfl
      have a7:=LO (P:=P) (w:=w) hu (hn w) (a:=none) (m:=0) (c:=0) fo l3 h0 E G;rw[<-hv]at a7;exact .pure (cu (m:=Instr.sliceAt t (A x) ((some l).map A) ((none:Option Operand).map A) none) a7) O (.fM ak)
     |_=>cases o
    |_=>cases o
def ae8(w)(t ag ty e:TypeId)(du:TypeDesc)(i:TypeInfo)(z)(ht:P.underlying t=some (.slice e))(hu:P.underlying ag=some du)(fC:(∃e',du=.slice e')\/du=.string) (Q:P.info? e=some i)(hz:i.zero=some z)(x)(m)(news:List Value)(hlen:∀w':World,(Builtin.lenOf x).run P w'=.ok m w')(kl:(Builtin.firstCells i.size m x).run P w.drew=.ok news.toArray w.drew) (u aa n cap)(xs:List Value)(hn:¬(n+m<=cap))(lV:¬(9223372036854775807<((n:Int)+(m:Int))))(lU:¬(281474976710656<Builtin.nextslicecap (n+m) cap*i.bytes)) (s3:(Builtin.firstCells i.size n (.slice (some ⟨u,aa,none⟩) n cap)).run P w.drew=.ok xs.toArray w.drew):(Builtin.append_ #[t,ag] ty #[.slice (some ⟨u,aa,none⟩) n cap,x]).run P w=.ok (.slice (some ⟨w.heap.size,0,none⟩) (n+m) (grownCap w (n+m) cap e)) (w.drew.alloc (.cells (xs.toArray++news.toArray++Builtin.zeroCells z.cells (grownCap w (n+m) cap e-(n+m))) e)):=by exact ab8
def JP(T:aG)(h:Hp)(ae:Nat)(t ag:TypeId)(b m:Nat)(x:SV)(K:bC):Prop:=
 aX T t fun te=>match te.ti with
  |.slice e=>aX T e fun ee=>iq ee.zero fun zs=>og 1 ee.size (aX T ag fun tu=>match tu.ti with
   |.slice _=>EX T false (av h) ag e ee.size zs x fun _ ys rd=>E3 h b fun t0 q es=>bd t0 e (bd q ee.size (bo (decide (m<=es.length/\1<=ys.length)) (bo (jr m ys.length ee.bytes)
    (K (.tl ae (m+ys.length)) [(ae,.tail e ee.size (es.drop (es.length-m)++ys)),(b,.dead)] (ae::b::rd)))))
   |_=>False)
  |_=>False
def at5(hT:bl P T){J h ae}(hf:h[ae]?=some .fresh){xs kB x0 y0}{t ag:TypeId}(bv:xs.toList=[x0,y0])(bD:kB.toList=[t,ag]){b m x K} (hs:∀w L g A,bA w L g J A x0->af w L g (.tl b m) (A x0))(hx:∀w L g A,bA w L g J A y0->af w L g x (A y0)) (o:JP T h ae t ag b m x K):aN P J h (.call ⟨.builtin .append,xs,kB⟩) K:=by
 have bD:kB= #[t,ag]:=by rw[<-yR (xs:=kB),bD]
 subst bD;have kU:∀w L g A,(∀z∈(Op.call ⟨.builtin .append,xs,#[t,ag]⟩).operands.toList,bA w L g J A z)->xs.toList.map A=[A x0,A y0]/\af w L g (.tl b m) (A x0)/\af w L g x (A y0):=fun w L g A I=>by exact adV
 unfold JP at o;have o:=b4 hT o;generalize ax:(bk P t).ti=ti at o;cases ti with
 |slice e=>
  replace o:=b4 hT o;obtain⟨i,z,Q,iW,jM,hz,d8,hi,kW,o⟩:=oc o;obtain⟨dX,o⟩:=qq o;have lu:=fi (bm ax sM).1;rw[iW]at dX o;rw[hz]at o;have o:=b4 hT o;generalize N1:(bk P ag).ti=tu at o;cases tu with
  |slice aiu=>
   obtain⟨ps,ys,mu,o,⟨du,fC,ol⟩,qh⟩:=abf hT (fun q=>by rw[N1];simp) o;obtain⟨t0,q,es,M,o⟩:=JR o;obtain⟨e1,bi⟩:=b2 o;obtain⟨e2,aU⟩:=b2 bi;obtain⟨xJ,dc⟩:=bL aU;obtain⟨hm,lw⟩:=cZ xJ;obtain⟨jp,kR⟩:=bL dc;subst e1;subst e2;obtain⟨ld,d1⟩:=cZ jp;rw[jM]at d1;refine⟨_,_,_,kR,fun w X g F A d ty pos after guard O I ap=>?_,sM⟩;obtain⟨l5,D,ds⟩:=kU w _ g A I;have go:∀{w' r ws v'},(Builtin.append_ #[t,ag] ty #[A x0,A y0]).run P w=.ok v' w'->
    (∃V,af w' (Ex X V) V r v'/\Inv w' X V (bF ws F)/\Step g.length w g w' V/\V.length=g.length)->ea P (execOp A ⟨d,.call ⟨.builtin .append,xs,#[t,ag]⟩,ty,pos,after,guard⟩) w X g F r ws:=by
    intro w' r ws v' D res
    exact ado
   obtain⟨news,pb⟩:=qh w X g F (A y0) O (fun j hj=>ap j (by simp[hj])) ds;have hH:=pb.len;have mZ:=pb.one;have aw:=pb.row;have cE:=(ap ae sM).trans hf;have aP:=(ap b sM).trans M;have mW:b≠ae:=by rintro rfl;rw[aP]at cE;simp[dr]at cE
   have grow:∀(Bp:List Value)(Ca gZ:Nat)(v0:Value),A x0=v0->Bp.length=m*i.size->(∀k e',(es.drop (es.length-m))[k]?=some e'->e'.length=i.size/\∀j s,e'[j]?=some s->∃v,Bp[k*i.size+j]?=some v/\af w (Ex X g) [] s v/\v.oneCell'=true)->
    (es.drop (es.length-m)).length=m->gZ=grownCap w (m+ys.length) Ca t0->
    (Builtin.append_ #[t,ag] ty #[v0,A y0]).run P w=.ok (.slice (some ⟨w.heap.size,0,none⟩) (m+ys.length) gZ) (w.drew.alloc (.cells (Bp.toArray++news.toArray++Builtin.zeroCells z.cells (gZ-(m+ys.length))) t0))->
    ea P (execOp A ⟨d,.call ⟨.builtin .append,xs,#[t,ag]⟩,ty,pos,after,guard⟩) w X g F (.tl ae (m+ys.length)) [(ae,.tail t0 i.size (es.drop (es.length-m)++ys)),(b,.dead)]:=by
    intro Bp Ca gZ v0 m2 xY alG rF akd a7
    rw[<-m2]at a7
    have hk:=FF w (m+ys.length) Ca t0
    have mX:=KE w (m+ys.length) Ca t0 (by simp only[maxLen];omega)
    rw[<-akd]at hk mX
    generalize CY:Bp.toArray++news.toArray++Builtin.zeroCells z.cells (gZ-(m+ys.length))=cur at a7
    have akf:cur.size=gZ*i.size:=by
     rw[<-CY]
     simp only[KF,FC,BK,kW,xY,hH,<-jg]
     congr 1;omega
    have bc:∀k,k<(m+ys.length)*i.size->cur[k]?=(Bp++news)[k]?:=fun k o=>by
     rw[<-CY,<-eF]
     simp only[Array.toList_append]
     rw[eU (by grind)]
    obtain⟨aE,ca⟩:=Cs O
    have b_:=pM (w':=w.drew.alloc (.cells cur t0)) aE cE (e:=.row w.drew.heap.size i.size (m+ys.length) gZ) rfl rfl rfl rfl rfl
    have MV:(es.drop (es.length-m)++ys).length=m+ys.length:=by rw[c_,rF]
    have be:=qW (w':=w.drew.alloc (.cells cur t0)) aE cE (e:=.row w.drew.heap.size i.size (m+ys.length) gZ) (b:=.tail t0 i.size (es.drop (es.length-m)++ys)) rfl rfl rfl rfl rfl
     ⟨rfl,by omega,hk,mX,cur,gj.of (su w.drew _),akf,fun k a ha=>by
      have cF:k<m+ys.length:=by rw[<-MV];exact(ao.1 ha).1
      have bi:k*i.size+i.size<=(m+ys.length)*i.size:=by
       have:=e8 i.size (show k+1<=m+ys.length from cF);rw[oC]at this;exact this
      have Cu:(m+ys.length-(es.drop (es.length-m)++ys).length+k)=k:=by omega
      rw[Cu]
      rw[gr]at ha
      split at ha
      ·rename_i ai
       rw[rF]at ai
       obtain⟨a1,a2⟩:=alG k a ha
       refine⟨a1,fun j s hs=>?_⟩
       obtain⟨v,c1,c2,c3⟩:=a2 j s hs
       have hj:j<i.size:=by rw[<-a1];exact(ao.1 hs).1
       refine⟨v,?_,mv ((c2.hP ca).hP b_),c3⟩
       rw[bc _ (by omega),eU (ao.1 c1).1]
       exact c1
      ·rename_i ai
       rw[rF]at ai ha
       obtain⟨a1,a2⟩:=aw _ a ha
       refine⟨a1,fun j s hs=>?_⟩
       obtain⟨v,c1,c2,c3⟩:=a2 j s hs
       have hj:j<i.size:=by rw[<-a1];exact(ao.1 hs).1
       refine⟨v,?_,JN (mF (mF c2 ca (aC _)) b_ (aC _)),c3⟩
       have e3:k*i.size=m*i.size+(k-m)*i.size:=by rw[<-jg];congr 1;omega
       rw[bc _ (by omega),jf (by rw[xY];omega),xY,show k*i.size+j-m*i.size=(k-m)*i.size+j by omega]
       exact c1,fun q hq=>by
      grind⟩
    obtain⟨b1,c0⟩:=be.drop (g.set ae (.row w.drew.heap.size i.size (m+ys.length) gZ)).length b
    refine go a7 ⟨_,?_,b1,(ca.trans b_).trans (by simpa using c0),by simp⟩
    have iT:((g.set ae (.row w.drew.heap.size i.size (m+ys.length) gZ)).set b .dead)[ae]?=some (.row w.heap.size i.size (m+ys.length) gZ):=by
     rw[bu,ay mW,bu,au rfl,au (ao.1 (lR O cE)).1]
     rfl
    have C7:=af.tl (w:=w.drew.alloc (.cells cur t0)) (L:=Ex X ((g.set ae (.row w.drew.heap.size i.size (m+ys.length) gZ)).set b .dead)) iT (m:=m+ys.length) (aa:=0) (aC _) (fun _=>by simp)
    simpa using C7
   have sW:¬(9223372036854775807<((m:Int)+(ys.length:Int))):=by omega
   rcases se O aP with⟨u,cap,vs,ak,cR,d0,U,hl,cN⟩|⟨ak,dA⟩;obtain⟨aa,gA,bf⟩:∃aa,A x0=.slice (some ⟨u,aa,none⟩) m (cap-(es.length-m))/\(es.length-m<cap->aa=(es.length-m)*i.size):=by generalize A x0=v at D;cases D with|tl h' hle I=>rw[ak]at h';simp at h';obtain⟨rfl,rfl,rfl,rfl⟩:=h';grind|fM h'=>simp_all|eY h'=>grind
   have rF:(es.drop (es.length-m)).length=m:=by rw[Fu];omega
   have two:∀{a b:Nat},a<b->a*i.size+i.size<=b*i.size:=fun{a b}h=>by have:=e8 i.size (show a+1<=b from h);grind
   have akD:∀q,q<es.length*i.size->∃v,vs[q]?=some v/\v.oneCell'=true:=fun q hq=>by
    have Dv:q/i.size<es.length:=SE (by grind);obtain⟨b1,c0⟩:=cN (q/i.size) _ (aD Dv);have dq:q % i.size<es[q/i.size].length:=by rw[b1];exact BG _ dX
    obtain⟨v,c1,_,c3⟩:=c0 (q % i.size) _ (aD dq);rw[show q/i.size*i.size+q % i.size=q by rw[BJ];exact FK q i.size]at c1;exact⟨v,c1,c3⟩
   by_cases fd:m+ys.length<=cap-(es.length-m);have bf:=bf (by omega);subst bf;have Wr:es.length*i.size+news.length<=vs.size:=by rw[hH,hl,<-jg];exact e8 _ (by omega)
   have bQ:=yw (P:=P) u (es.length*i.size) t0 news 0 vs w U (by simpa using Wr) mZ;simp only[sA]at bQ;have xq:((⟨u,(es.length-m)*i.size,none⟩:Addr).add (m*i.size))=⟨u,es.length*i.size,none⟩:=by rw[lf,<-jg];congr 2;omega
   have a7:=Tp (ty:=ty) w t ag t0 du i lu fC ol Q (A y0) ys.length news pb.lenOf (pb.first w rfl) u ((es.length-m)*i.size) m (cap-(es.length-m)) _ fd (by rw[xq];exact bQ);rw[<-gA]at a7;obtain⟨f1,f2,f3,f4,f5⟩:=qE (w:=w) (u:=u) (cs:=(vs.toList.take (es.length*i.size)++news++vs.toList.drop (es.length*i.size+news.length)).toArray);have iO:∀k,(vs.toList.take (es.length*i.size)++news++vs.toList.drop (es.length*i.size+news.length)).toArray[k]?=if es.length*i.size<=k/\k<es.length*i.size+news.length then news[k-es.length*i.size]? else vs[k]?:=fun k=>by have:=r8 vs.toList (es.length*i.size) news (by simp;omega) k;simp only[eF]at this;rw[lG,sw];exact this
   have dY:(vs.toList.take (es.length*i.size)++news++vs.toList.drop (es.length*i.size+news.length)).toArray.size=vs.size:=by simp;omega
   have MV:(es.drop (es.length-m)++ys).length=m+ys.length:=by rw[c_,rF]
   have nW:=Pn (w':=w.setRow u (vs.toList.take (es.length*i.size)++news++vs.toList.drop (es.length*i.size+news.length)).toArray) O cE ak (e':=.row u i.size (es.length+ys.length) cap) rfl rfl f1 f2 f3 f4 f5 (bw:=.tail t0 i.size (es.drop (es.length-m)++ys)) fun hS=>
    ⟨rfl,by omega,by omega,d0,_,U.set dY,by rw[dY,hl],fun k a ha=>by
     have cF:k<m+ys.length:=by rw[<-MV];exact(ao.1 ha).1
     have Cu:(es.length+ys.length-(es.drop (es.length-m)++ys).length+k)=es.length-m+k:=by omega
     rw[Cu]
     rw[gr]at ha
     split at ha
     ·rename_i ai
      rw[rF]at ai
      rw[uj]at ha
      obtain⟨a1,a2⟩:=cN _ a ha
      refine⟨a1,fun j s hs=>?_⟩
      obtain⟨v,c1,c2,c3⟩:=a2 j s hs
      have hj:j<i.size:=by rw[<-a1];exact(ao.1 hs).1
      have:=two (show es.length-m+k<es.length by omega)
      refine⟨v,?_,mv (c2.hP hS),c3⟩
      rw[iO,ay (by omega)]
      exact c1
     ·rename_i ai
      rw[rF]at ai ha
      obtain⟨a1,a2⟩:=aw _ a ha
      refine⟨a1,fun j s hs=>?_⟩
      obtain⟨v,c1,c2,c3⟩:=a2 j s hs
      have hj:j<i.size:=by rw[<-a1];exact(ao.1 hs).1
      refine⟨v,?_,JN (mF c2 hS (aC _)),c3⟩
      have e3:(es.length-m+k)*i.size=es.length*i.size+(k-m)*i.size:=by rw[<-jg];congr 1;omega
      have:=two (show k-m<ys.length by omega)
      rw[iO,au ⟨by omega,by rw[hH];omega⟩,show(es.length-m+k)*i.size+j-es.length*i.size=(k-m)*i.size+j by omega]
      exact c1,fun q hq=>by
     have td:q<es.length*i.size:=fj hq (e8 _ (by omega))
     rw[iO,ay (by omega)]
     exact akD q td⟩
   refine go a7 ⟨_,?_,nW.1,nW.2,by simp⟩;have e3:cap-(es.length-m)=cap-(es.length+ys.length-(m+ys.length)):=by omega
   rw[e3];refine .tl (n:=es.length+ys.length) (cap:=cap) (sz:=i.size) ?_ (by omega) (fun _=>by congr 1;omega);exact R_;have xY:((vs.toList.drop ((es.length-m)*i.size)).take (m*i.size)).length=m*i.size:=by
    have:es.length*i.size<=vs.size:=by rw[hl];exact e8 _ cR
    have e3:es.length*i.size=(es.length-m)*i.size+m*i.size:=by rw[<-jg];congr 1;omega
    simp;omega
   have W3:∀k,k<m*i.size->((vs.toList.drop ((es.length-m)*i.size)).take (m*i.size))[k]?=vs[(es.length-m)*i.size+k]?:=fun k o=>by rw[je,au o,uj,eF]
   have s3:=FG (P:=P) w.drew i.size m ⟨u,aa,none⟩ m (cap-(es.length-m)) ((vs.toList.drop ((es.length-m)*i.size)).take (m*i.size)) xY (fun j ag hj=>by
    have dq:j<m*i.size:=by rw[<-xY];exact(ao.1 hj).1
    have he:0<m:=by rcases yP m with h|h;grind;exact h
    rw[W3 j dq]at hj;rw[bf (by omega)];obtain⟨fr,U,_⟩:=U;rw[oQ (w:=w.drew) U ((es.length-m)*i.size) j];exact hj)
   refine grow _ (cap-(es.length-m)) _ _ gA xY (fun k e' aK=>?_) rF rfl ?_;have p_:k<m:=by rw[<-rF];exact(ao.1 aK).1
   rw[uj]at aK;obtain⟨a1,a2⟩:=cN _ e' aK;refine⟨a1,fun j s hs=>?_⟩;obtain⟨v,c1,c2,c3⟩:=a2 j s hs;have hj:j<i.size:=by rw[<-a1];exact(ao.1 hs).1
   have:=two p_;refine⟨v,?_,c2,c3⟩;rw[W3 _ (by omega),<-c1,jg,sB];exact ae8 (ty:=ty) w t ag t0 du i z lu fC ol Q d8 (A y0) ys.length news pb.lenOf (pb.first w.drew rfl) u aa m (cap-(es.length-m)) _ fd sW (by have:=growslice_fits (old:=cap-(es.length-m)) (need:=m+ys.length) (by omega) d1;omega) s3;subst dA;simp at hm;subst hm;have gA:A x0=.slice none 0 0:=by generalize A x0=v at D;cases D with|tl h' hle I=>simp_all|fM h'=>rfl|eY h'=>simp_all
   refine grow [] 0 _ _ gA (by simp) (by simp) (by simp) rfl ?_;have:=Le (ty:=ty) w t ag t0 du i z lu fC ol Q d8 (A y0) ys.length news pb.lenOf (pb.first w.drew rfl) G G (by rw[SD G];grind);simpa using this
  |_=>cases o
 |_=>cases o
end
section
variable{P:Program} {T:aG}
def ik(r:Rec):Mk:=(r.ws.map (·.1),r.aJ)
def ajr{ws}:∀{k},Va ws k->k (ws.map (·.1)):=by induction ws with|nil=>intro k h;exact h|cons p ws ih=>intro k h;exact ih (k:=fun l=>k (p.1::l)) h
def Yk{rs}:∀{k},O_ rs k->k (rs.map ik):=by induction rs with|nil=>intro k h;exact h|cons r rs ih=>intro k h;have h:=ajr h;exact ih (k:=fun l=>k (ik r::l)) h
def nF(ops:List Oper)(aQ:Nat->Bool):Prop:=∀i aa,ops[i]?=some aa->aQ i=true->∀p∈hI aa,aQ p=true
def FP(ops:List Oper)(i:Nat)(c:Nat):Prop:=∀aQ aa,nF ops aQ->ops[i]?=some aa->(∀p∈hI aa,aQ p=true)->∀j,c.testBit j=true->aQ j=true
def agV{cl:List Nat}(ps:List Nat){j}:∀{m},(ps.foldl (fun m j=>m|||2 ^j|||cl.getD j 0) m).testBit j=true->m.testBit j=true\/ ∃p∈ps,p=j\/(cl.getD p 0).testBit j=true:=by induction ps with|nil=>simp_all|cons p ps ih=>intro m h;rcases ih h with h|⟨q,hq,h⟩<;>grind
def ao9{ops c oi pf}(l:List (Oper×Mk)):∀{k},IZ ops c oi pf k l=true->∀j x,l[j]?=some x->c.testBit (k+j)=true\/wJ ops x.1 oi x.2 pf=true:=by induction l with|nil=>simp_all|cons y l ih=>intro k h j x hx;simp only[IZ,bR,uf]at h;cases j<;>grind
def BT(ops:Array Oper)(So:List (Oper×Mk))(i:Nat)(x:Oper×Mk):Prop:=
 (∀p∈hI x.1,p<i)/\∃c,FP (So.map (·.1)) i c/\∀j y,j<i->So[j]?=some y->c.testBit j=true\/wJ ops y.1 x.1 y.2 x.2=true
def Xg{ops}(rest:List (Oper×Mk)):∀{done cl},cl.length=done.length->(∀i c,cl[i]?=some c->FP ((done++rest).map (·.1)) i c)->H9 ops done cl rest=true->∀i x,done.length<=i->(done++rest)[i]?=some x->BT ops (done++rest) i x:=by
 induction rest with
 |nil=>simp_all
 |cons y rest ih=>
  intro done cl hlen fc h i x Q hx;simp only[H9,bR,ir,bs]at h;obtain⟨⟨E,F⟩,h3⟩:=h;have hy:(done++y::rest)[done.length]?=some y:=sM;have hc:FP ((done++y::rest).map (·.1)) done.length (LJ cl (hI y.1)):=by
   intro aQ aa hL I hp j hj;rw[bz,hy]at I;simp at I;subst I;rcases agV (hI y.1) hj with h0|⟨p,fD,h0⟩;simp at h0
   ·rcases h0 with h0|h0;simp_all
    ·have ai:=E p fD;have U:cl[p]?=some (cl.getD p 0):=by simp[List.getD,aD ai]
     have qa:p<done.length:=by rw[<-hlen];exact ai
     have bf:((done++y::rest).map (·.1))[p]?=some (done[p]'qa).1:=by rw[bz,eU qa,aD qa];rfl
     exact fc p _ U aQ _ hL bf (hL p _ bf (hp p fD)) j h0
  by_cases H:i=done.length;·subst H;rw[hy]at hx;simp at hx;subst hx;refine⟨fun p hp=>by simp_all,_,hc,fun j z hj hz=>?_⟩;rw[eU hj]at hz;have:=ao9 done F j z hz;simpa using this
  ·have e:done++y::rest=(done++[y])++rest:=sM;rw[e]at hx fc hc⊢;refine ih (by simp[hlen]) (fun k c o=>?_) h3 i x sO hx;rw[gr]at o;split at o;exact fc k c o;have cF:k-cl.length=0:=by have:=(ao.1 o).1;simp at this;omega
   rw[cF]at o;simp at o;subst o;rw[show k=done.length by omega];exact hc
variable{ops:Array Oper} {recs:List Rec} {F0:Fr} {h0:Hp}
def iJ.at(l):∀{rs k F' h'},(∀i,l[i]?=ops.toList[k+i]?)->(∀i,rs[i]?=recs[k+i]?)->iJ P ops (FL ops.toList recs F0 (fun _=>true) k) (HL recs h0 (fun _=>true) k) l rs F' h'->rs.length=l.length/\(∀i aa r,l[i]?=some aa->rs[i]?=some r->Good P ops (FL ops.toList recs F0 (fun _=>true) (k+i)) (HL recs h0 (fun _=>true) (k+i)) aa r)/\F'=FL ops.toList recs F0 (fun _=>true) (k+l.length)/\h'=HL recs h0 (fun _=>true) (k+l.length):=by
 induction l with
 |nil=>intro rs k F' h' _ _ D;cases D<;>simp_all
 |cons aa l ih=>
  intro rs k F' h' I gK D;cases D with
  | @cons _ _ _ _ _ _ r rs U D=>
   have e1:kc ops.toList k=aa.dst:=by have:=I 0;simp only[mL,sA]at this;simp[kc,<-this]
   have e2:recAt recs k=r:=by have:=gK 0;simp only[mL,sA]at this;simp[recAt,List.getD,<-this]
   have ds:iJ P ops (FL ops.toList recs F0 (fun _=>true) (k+1)) (HL recs h0 (fun _=>true) (k+1)) l rs F' h':=by simp only[FL,HL,dw,e1,e2];exact D
   obtain⟨i0,rR,i2,i3⟩:=ih (fun i=>by have:=I (i+1);grind)
    (fun i=>by have:=gK (i+1);grind) ds
   refine⟨by simp[i0],fun i o' r' E F=>?_,by grind,by grind⟩;grind
def SP{AQ i}:∀d,FL AQ recs F0 (fun j=>decide (j<i)) (i+d)=FL AQ recs F0 (fun j=>decide (j<i)) i|0=>rfl|d+1=>by have ih:=SP (AQ:=AQ) (i:=i) d;show FL AQ recs F0 _ (i+d+1)=_;simp only[FL];grind
def SU{i}:∀d,HL recs h0 (fun j=>decide (j<i)) (i+d)=HL recs h0 (fun j=>decide (j<i)) i|0=>rfl|d+1=>by have ih:=SU (i:=i) d;show HL recs h0 _ (i+d+1)=_;simp only[HL];grind
def zf{oj oi AC pf}(h:wJ ops oj oi AC pf=true):((∀d,oj.dst=some d->d∉oi.looksAt ops)/\(∀d,oj.dst=some d->oi.dst≠some d)/\(∀d,oi.dst=some d->d∉oj.looksAt ops))/\(∀x∈AC.1,x∉pf.2)/\(∀x∈pf.1,x∉AC.2):=by simp only[wJ,bR,c5]at h;refine⟨Oper.apart_spec h.1.1,fun x hx hm=>?_,fun x hx hm=>?_⟩;have:=h.1.2;simp only[AB,yN,BM]at this;simp_all;have:=h.2;simp only[AB,yN,BM]at this;simp_all
structure Plan(P:Program)(ops:Array Oper)(recs:List Rec)(F0:Fr)(h0:Hp):Prop where
 len:recs.length=ops.size
 sub:∀(i:Nat)(aa:Oper)(r:Rec),ops[i]?=some aa->recs[i]?=some r->∀p∈r.ws,p.1∈r.aJ
 ZF:∀(i:Nat)(aa:Oper)(r:Rec),ops[i]?=some aa->recs[i]?=some r->BT ops (ops.toList.zip (recs.map ik)) i (aa,ik r)
structure KZ(P:Program)(ops:Array Oper)(recs:List Rec)(F0:Fr)(h0:Hp):Prop extends Plan P ops recs F0 h0 where
 zI:∀(i:Nat)(aa:Oper)(r:Rec),ops[i]?=some aa->recs[i]?=some r->Good P ops (FL ops.toList recs F0 (fun _=>true) i) (HL recs h0 (fun _=>true) i) aa r
section plan
variable(hp:Plan P ops recs F0 h0) {aQ:Nat->Bool}
include hp
def Plan.AX{i aa}(Q:ops[i]?=some aa):recs[i]?=some (recAt recs i):=by
 have:i<recs.length:=by rw[hp.len];exact(iF.1 Q).1
 simp[recAt,List.getD,aD this]
def Plan.map:(ops.toList.zip (recs.map ik)).map (·.1)=ops.toList:=by rw[BN];simp[hp.len]
def Plan.zip{i aa}(Q:ops[i]?=some aa):(ops.toList.zip (recs.map ik))[i]?=some (aa,ik (recAt recs i)):=by rw[ug];exact⟨by simp_all,by rw[bz,hp.AX Q];rfl⟩
def Plan.apart(hL:nF ops.toList aQ){i j oi oj}(lp:j<i)(Q:ops[i]?=some oi)(hj:ops[j]?=some oj)(m0:∀p∈hI oi,aQ p=true)(ip:aQ j=false):wJ ops oj oi (ik (recAt recs j)) (ik (recAt recs i))=true:=by have⟨_,c,hc,NI⟩:=hp.ZF i oi _ Q (hp.AX Q);rw[hp.map]at hc;rcases NI j _ lp (hp.zip hj)with h|h;have:=hc aQ oi hL (by simp_all) m0 j h;simp_all;exact h
def Plan.slot(hL:nF ops.toList aQ){i oi}(Q:ops[i]?=some oi)(m0:∀p∈hI oi,aQ p=true)(io:aQ i=false){t}(ht:t∈oi.looksAt ops):(FL ops.toList recs F0 aQ ops.size)[t]?=(FL ops.toList recs F0 (fun _=>true) i)[t]?:=by
 have ai:i<ops.size:=(iF.1 Q).1;have e1:(FL ops.toList recs F0 (fun j=>decide (j<i)) i)[t]?=(FL ops.toList recs F0 (fun _=>true) i)[t]?:=yX i fun j hj _=>by simp[hj]
 have e2:FL ops.toList recs F0 (fun j=>decide (j<i)) ops.size=FL ops.toList recs F0 (fun j=>decide (j<i)) i:=by have:=SP (AQ:=ops.toList) (recs:=recs) (F0:=F0) (i:=i) (ops.size-i);rwa[show i+(ops.size-i)=ops.size by omega]at this
 rw[<-e1,<-e2];refine yX ops.size fun j hj hd=>?_;have jt:=c4 hj;have C2:ops[j].dst=some t:=by simp only[kc,eF,jt]at hd;exact hd
 rcases FI j i with h|h|h;simp only[h,KH];cases hc:aQ j with|true=>rfl|false=>exact absurd ht ((zf (hp.apart hL h Q jt m0 hc)).1.1 t C2)
 simp_all;simp only[show¬j<i by omega,KI];cases hc:aQ j with|false=>rfl|true=>exact absurd ht ((zf (hp.apart hL h jt Q (hL j _ (by simp_all) hc) io)).1.2.2 t C2)
def Plan.cell(hL:nF ops.toList aQ){i oi}(Q:ops[i]?=some oi)(m0:∀p∈hI oi,aQ p=true)(io:aQ i=false){t}(ht:t∈(recAt recs i).aJ):(HL recs h0 aQ ops.size)[t]?=(HL recs h0 (fun _=>true) i)[t]?:=by
 have ai:i<ops.size:=(iF.1 Q).1;have e1:(HL recs h0 (fun j=>decide (j<i)) i)[t]?=(HL recs h0 (fun _=>true) i)[t]?:=yY i fun j hj _=>by simp[hj]
 have e2:HL recs h0 (fun j=>decide (j<i)) ops.size=HL recs h0 (fun j=>decide (j<i)) i:=by have:=SU (recs:=recs) (h0:=h0) (i:=i) (ops.size-i);rwa[show i+(ops.size-i)=ops.size by omega]at this
 rw[<-e1,<-e2];refine yY ops.size fun j hj⟨p,fD,o8⟩=>?_;have jt:=c4 hj;have dd:=ew.2 ⟨p,fD,o8⟩;rcases FI j i with h|h|h;simp only[h,KH];cases hc:aQ j with|true=>rfl|false=>exact absurd ht ((zf (hp.apart hL h Q jt m0 hc)).2.1 t dd)
 simp_all;simp only[show¬j<i by omega,KI];cases hc:aQ j with|false=>rfl|true=>exact absurd ht ((zf (hp.apart hL h jt Q (hL j _ (by simp_all) hc) io)).2.2 t dd)
def Plan.aeJ(hL:nF ops.toList aQ){i oi}(Q:ops[i]?=some oi)(io:aQ i=false):FL ops.toList recs F0 (add aQ i) ops.size=mB (FL ops.toList recs F0 aQ ops.size) oi.dst (recAt recs i).s:=by
 have ai:=(iF.1 Q).1;have e:kc ops.toList i=oi.dst:=by simp[kc,Q]
 have:=SO (ops:=ops.toList) (recs:=recs) (F0:=F0) io ops.size fun j lp hj ip d hd=>by have jt:=c4 hj;have:=(zf (hp.apart hL lp jt Q (hL j _ (by simp_all) ip) io)).1.2.1 d (by simp_all);simp only[kc,eF,jt];exact this
 simp_all
def Plan.Gb(hL:nF ops.toList aQ){i oi}(Q:ops[i]?=some oi)(io:aQ i=false):HL recs h0 (add aQ i) ops.size=bF (recAt recs i).ws (HL recs h0 aQ ops.size):=by
 have ai:=(iF.1 Q).1;have:=SS (recs:=recs) (h0:=h0) io ops.size fun j lp hj ip p fD q hqm H=>by have jt:=c4 hj;have E:=(zf (hp.apart hL lp jt Q (hL j _ (by simp_all) ip) io)).2.1 p.1 (ew.2 ⟨p,fD,rfl⟩);refine E ?_;rw[H];exact hp.sub j _ _ jt (hp.AX jt) q hqm
 simp_all
end plan
end
section
variable{P:Program} {T:aG} {ops:Array Oper} {recs:List Rec} {F0:Fr} {h0:Hp}
def iJ.apq{Ff hf}(D:iJ P ops F0 h0 ops.toList recs Ff hf)(Q:x8 ops (recs.map ik)=true):KZ P ops recs F0 h0/\Ff=FL ops.toList recs F0 (fun _=>true) ops.size/\hf=HL recs h0 (fun _=>true) ops.size:=by
 have hW:=D;obtain⟨a1,a2,a3,a4⟩:=hW.at (ops:=ops) (recs:=recs) ops.toList (fun i=>by rw[jE]) (fun i=>by rw[jE]);have hlen:recs.length=ops.size:=by rw[a1];simp
 refine⟨⟨⟨hlen,fun i aa r I qe=>(a2 i aa r (by simp_all) qe).sub,fun i aa r I qe=>?_⟩,fun i aa r I qe=>by simp_all⟩,by rw[a3];simp,by rw[a4];simp⟩;unfold x8 at Q;rw[bR]at Q;have:=Xg (ops:=ops) (ops.toList.zip (recs.map ik)) (done:=[]) (cl:=[]) rfl sM Q.2 i (aa,ik r) (cx _) (by grind);simpa using this
def anx{aa e}(H:e∈aa.after)(M:Region.binds .any e=true):e.on∈hI aa:=by unfold hI;grind
def ZQ{aa p}(h:p∈hI aa):∃e∈aa.after,Region.binds .any e=true/\e.on=p:=by unfold hI at h;simp_all
def cO(listed:Array Bool)(j:Nat):Bool:=listed.getD j false
def qt{listed i}(Q:i<listed.size):cO (listed.setIfInBounds i true)=add (cO listed) i:=by funext j;simp only[cO,add];by_cases h:i=j;simp_all;rw[getD_set_ne false h,show(j==i)=false from by simp;omega];simp
def Tm(hp:Plan P ops recs F0 h0){listed}(hs:listed.size=ops.size)(D:Region.ready .any ops listed=[]):∀i,i<ops.size->cO listed i=true:=by
 intro i;induction i using Nat.strongRecOn with
 |_ i ih=>
  intro Q;cases hc:cO listed i with
  |true=>rfl
  |false=>
   have qd:=c4 Q;have dd:i∈Region.ready .any ops listed:=by
    rw[mem_ready];refine⟨?_,_,qd,fun e H M=>?_⟩;have:cO listed i=listed.getD i true:=by simp[cO,ui,show i<listed.size by omega]
    simp_all;have ai:=(hp.ZF i _ _ qd (hp.AX qd)).1 e.on (anx H M);exact ih e.on ai G
   simp_all
def Uu(hp:KZ P ops recs F0 h0){m}{X}{w0}{b0}{K:Fr->Hp->Prop}(hK:K (FL ops.toList recs F0 (fun _=>true) ops.size) (HL recs h0 (fun _=>true) ops.size)):∀(fuel:Nat)(listed:Array Bool)(iK:List Nat)(a:Act)(w:World)(g:Sg),listed.size=ops.size->nF ops.toList (cO listed)->iK.length<=fuel->(∀i,i<ops.size->cO listed i=false->i∈iK)->a.defers=[]->Inv w X g (HL recs h0 (cO listed) ops.size)->cC w (Ex X g) g (FL ops.toList recs F0 (cO listed) ops.size) a.tmps->Step m w0 b0 w g->wpAny P .any ops (jm m X w0 b0 fun x J h=>x=.normal/\K J h) fuel listed a w:=by
 intro fuel;have done:∀listed a w g,(∀i,i<ops.size->cO listed i=true)->
  a.defers=[]->Inv w X g (HL recs h0 (cO listed) ops.size)->cC w (Ex X g) g (FL ops.toList recs F0 (cO listed) ops.size) a.tmps->Step m w0 b0 w g->
  jm m X w0 b0 (fun x J h=>x=.normal/\K J h) .normal a w:=by
  intro listed a w g dl hd O hF hS
  have e1:FL ops.toList recs F0 (cO listed) ops.size=FL ops.toList recs F0 (fun _=>true) ops.size:=by
   apply jh
   intro t
   exact yX ops.size fun j hj _=>dl j hj
  have e2:HL recs h0 (cO listed) ops.size=HL recs h0 (fun _=>true) ops.size:=by
   apply jh
   intro t
   exact yY ops.size fun j hj _=>dl j hj
  rw[e1]at hF;rw[e2]at O
  exact⟨hd,.normal,_,_,g,rfl,⟨rfl,hK⟩,O,hF,hS⟩
 induction fuel with
 |zero=>
  intro listed iK a w g hs hL Hc HP hd O hF hS;have Hc:iK=[]:=List.length_eq_zero_iff.1 (by omega);subst Hc;have dl:∀i,i<ops.size->cO listed i=true:=fun i Q=>by simp_all
  refine⟨?_,done listed a w g dl hd O hF hS⟩;rw[ad9];intro i Q;exact ab7
 |succ fuel ih=>
  intro listed iK a w g hs hL Hc HP hd O hF hS;refine⟨fun D=>done listed a w g (Tm hp.toPlan hs D) hd O hF hS,fun i Q=>?_⟩;rw[mem_ready]at Q;have⟨E,aa,I,m0⟩:=Q;have ai:=(iF.1 I).1;have io:cO listed i=false:=by simp[cO,ui,show i<listed.size by omega]at E⊢;exact E
  have zZ:∀p∈hI aa,cO listed p=true:=fun p fD=>by have⟨e,H,M,Hn⟩:=ZQ fD;rw[<-Hn];exact m0 e H M
  have zS:=hp.zI i aa _ I (hp.AX I);have Nu:∀t∈aa.looksAt ops,∀s,(FL ops.toList recs F0 (fun _=>true) i)[t]?=some s->∃v,a.tmps[t]?=some v/\af w (Ex X g) g s v:=fun t ht s DE=>by rw[<-hp.slot hL I zZ io ht]at DE;exact hF.get DE
  have d2:∀r∈(recAt recs i).aJ,(HL recs h0 (cO listed) ops.size)[r]?=(HL recs h0 (fun _=>true) i)[r]?:=fun r D=>hp.cell hL I zZ io D;have bW:(listed.setIfInBounds i true).size=ops.size:=by simp[hs]
  have CR:nF ops.toList (cO (listed.setIfInBounds i true)):=by rw[qt G];intro j oj jt ip p fD;simp only[add,uf,c6]at ip⊢;rcases ip with ip|ip;exact .inl (hL j oj jt ip p fD);simp_all
  have Nx:i∈iK:=HP i ai io;have CU:(iK.erase i).length<=fuel:=by rw[List.length_erase_of_mem Nx];omega
  have DG:∀j,j<ops.size->cO (listed.setIfInBounds i true) j=false->j∈iK.erase i:=fun j hj ip=>by rw[qt G]at ip;simp only[add,Sc,dh]at ip;simp_all
  have xO:∀v w' V,cC w' (Ex X V) V (FL ops.toList recs F0 (cO listed) ops.size) a.tmps->af w' (Ex X V) V (recAt recs i).s v->
   cC w' (Ex X V) V (FL ops.toList recs F0 (cO (listed.setIfInBounds i true)) ops.size) (a.put aa.dst v).tmps/\(a.put aa.dst v).defers=[]:=by
   exact acQ
  unfold wpOp;rw[I];simp only[];rcases zS.go w X g _ a O (by rw[uq,uq]) Nu d2 with⟨hw,iU⟩|⟨hw,NW,N8⟩;rw[au hw];refine .inl (E_ iU fun v w'⟨V,D,aE,ca,_⟩=>?_);have⟨h3,h4⟩:=xO v w' V (hF.step ca (aC _)) D;refine ih _ _ _ w' V bW CR CU DG h4 ?_ h3 (hS.trans ca.any);rw[qt G,hp.Gb hL I io];exact aE;rw[ay (by rw[hw];simp)];have⟨h3,h4⟩:=xO Go.undef w g hF (by rw[NW];exact .undef);refine ih _ _ _ w g bW CR CU DG h4 ?_ h3 hS;rw[qt G,hp.Gb hL I io,N8];exact O
def acC{ab:Prop}(k:ab:=by have⟨E,F,h3,h4,vs,h5,h6,h7⟩:=this;refine⟨E,F,h3,h4,vs,h5.same (by rw[H]),h6,fun i e aK=>⟨(h7 i e aK).1,fun j s hs=>?_⟩⟩;grind):ab:=k
def Inv.heap{w w' X g h}(O:Inv w X g h)(H:w'.heap=w.heap):Inv w' X g h:=by
 have awi:∀L τ s v,af w L τ s v->af w' L τ s v:=fun L τ s v D=>
  D.mono τ (fun u _ _=>by rw[H]) (by simp_all) (fun _ _ h=>h) (fun i e h _=>.inl h)
 refine⟨O.len,fun i b e M hee=>?_,fun i e u E F=>by rw[H];exact O.lt i e u E F,O.inj,O.cU,fun u hx=>by rw[H];exact O.df u hx⟩;have:=O.ok i b e M hee;cases b<;>cases e<;>simp only[aB]at this⊢;case fix.fix=>grind
 case row.row=>exact acC
 case prow.row=>exact acC
 case mapB.obj=>grind
 case pmap.obj=>grind
 case mit.obj=>simp_all
 case sit.obj=>simp_all
 case imap.obj=>grind
 case asn.own=>simp_all
 case tail.row=>have⟨E,F,h3,h4,vs,h5,h6,h7,h8⟩:=this;exact⟨E,F,h3,h4,vs,h5.same (by rw[H]),h6,fun i e aK=>⟨(h7 i e aK).1,fun j s hs=>by grind⟩,h8⟩
 case glob.fix=>grind
 all_goals exact this
end
def gX{b ab aZ}(M:b=true)(h:ab):(b=true->ab)/\(b=false->aZ):=⟨fun _=>h,fun hf=>by simp_all⟩
def dV{b ab aZ}(M:b=false)(h:aZ):(b=true->ab)/\(b=false->aZ):=⟨fun hf=>by simp_all,fun _=>h⟩
def arH{w L g}:b5 w L g [] []:=⟨rfl,sM⟩
def Qp{w L g s v ss vs}(h:af w L g s v)(hs:b5 w L g ss vs):b5 w L g (s::ss) (v::vs):=
 ⟨by simp[hs.1],fun i s' v' E F=>by
  cases i with
  |zero=>simp_all
  |succ i=>exact hs.2 i s' v' (by simpa using E) (by simpa using F)⟩
section
variable{P:Program} {T:aG}
structure lM(m:Nat)(J:Fr)(h:Hp)(F':Fr)(h':Hp):Prop where
 ok:∀(w:World)(X:Nat->Prop)(g:Sg)(tmps:Array Value),Inv w X g h->cC w (Ex X g) g J tmps->∃V,Inv w X V h'/\cC w (Ex X V) V F' tmps/\Step m w g w V
def lM.refl(m)(J)(h):lM m J h J h:=⟨fun _ _ g _ O hF=>⟨g,O,hF,.refl _ _ _⟩⟩
def lM.trans{m}{J F' yW}{h h' bx}(a:lM m J h F' h')(b:lM m F' h' yW bx):lM m J h yW bx:=⟨fun w X g tmps O hF=>by have⟨V,aE,cB,hS⟩:=a.ok w X g tmps O hF;have⟨j_,axS,ajX,ca⟩:=b.ok w X V tmps aE cB;exact⟨j_,axS,ajX,hS.trans ca⟩⟩
structure XG(m:Nat)(J:Fr)(h:Hp)(K:Fr->Hp->Prop):Prop where
 ok:∃F' h',lM m J h F' h'/\K F' h'
def XG.same{m}{J}{h}{K}(o:K J h):XG m J h K:=⟨J,h,.refl _ _ _,o⟩
def XG.step{m}{J F'}{h h'}{K}(hs:lM m J h F' h')(o:XG m F' h' K):XG m J h K:=by have⟨yW,bx,bW,o⟩:=o.ok;exact⟨yW,bx,hs.trans bW,o⟩
def D5(n:Nat)(sp:List (Nat×SV)):Fr:=sp.foldl (fun J p=>J.set p.1 p.2) (List.replicate n .any)
def aa2(sp:List (Nat×SV)):Fr->(Fr->Prop)->Prop:=
 List.rec (fun J k=>k J) (fun p _ ih J k=>gg J p.1 p.2 fun F'=>ih F' k) sp
def GZ(n:Nat)(sp:List (Nat×SV))(k:Fr->Prop):Prop:=vG n SV.any fun J=>aa2 sp J k
def as4{sp}:∀{J k},aa2 sp J k->k (sp.foldl (fun J p=>J.set p.1 p.2) J):=by induction sp with|nil=>intro J k h;exact h|cons p sp ih=>intro J k h;exact ih (jb h).2
def arE{α:Type}{x}:∀{n:Nat}{k:List α->Prop},vG n x k->k (List.replicate n x):=by intro n;induction n with|zero=>intro k h;exact h|succ n ih=>intro k h;exact ih (k:=fun r=>k (x::r)) h
def Mj{n}{sp}{k}(h:GZ n sp k):k (D5 n sp):=as4 (arE h)
structure y3(m:Nat)(J:Fr)(h:Hp)(n:Nat)(sp:List (Nat×SV))(h':Hp):Prop where
 ok:lM m J h (D5 n sp) h'
def S3{α:Type}(m n:Nat)(sp:α->List (Nat×SV))(hx:α->Hp)(μ:α->Nat)(x:α)(K:mN):mN:=fun e J h=>match e with|.normal=>∃x',μ x'<μ x/\y3 m J h n (sp x') (hx x')|.exit i=>XG m J h (K (.exit i))|.ret=>XG m J h (K .ret)
def eb.loop{α:Type}{m n}{c}{J}{h}{K}(sp:α->List (Nat×SV))(hx:α->Hp)(μ:α->Nat)(x0)(hs:lM m J h (D5 n (sp x0)) (hx x0)) (body:∀x,eb P m c (D5 n (sp x)) (hx x) (S3 m n sp hx μ x K)):eb P m (.loop c) J h K:=by
 intro w X g tmps O hF;have⟨b0,kh,hF0,Hb⟩:=hs.ok w X g tmps O hF;refine wp_loop_ghost (fun k a w'=>∃x V,μ x=k/\a.defers=[]/\Inv w' X V (hx x)/\cC w' (Ex X V) V (D5 n (sp x)) a.tmps/\Step m w g w' V) (μ x0) ⟨x0,b0,rfl,rfl,kh,hF0,Hb⟩ ?_;rintro k ⟨Q1,zA⟩ w' ⟨x,V,o,hd,aE,cB,ca⟩;have hd:=hd;subst hd;refine j8 (body x w' X V Q1 aE cB) fun e a' m5 hq=>?_;have⟨li,y,F2,F,c8,ix,hp,be,lW,b_⟩:=hq;cases e<;>cases ix;case normal=>have⟨x',ai,aky⟩:=hp;have⟨FO,p1,CQ,lX⟩:=aky.ok.ok m5 X c8 a'.tmps be lW;exact⟨μ x',G,x',FO,rfl,li,p1,CQ,(ca.trans b_).trans lX⟩
 case exit i=>have⟨KO,h3,qg,hp⟩:=XG.ok hp;have⟨FO,p1,CQ,lX⟩:=qg.ok m5 X c8 a'.tmps be lW;exact⟨li,.exit i,KO,h3,FO,rfl,hp,p1,CQ,(ca.trans b_).trans lX⟩
 case ret=>have⟨KO,h3,qg,hp⟩:=XG.ok hp;have⟨FO,p1,CQ,lX⟩:=qg.ok m5 X c8 a'.tmps be lW;exact⟨li,.ret,KO,h3,FO,rfl,hp,p1,CQ,(ca.trans b_).trans lX⟩
abbrev eV:=List (Option Nat)
def vE(A:eV)(b' b:Nat)(k:Prop):Prop:=av A b' fun r=>match r with|some j=>bd j b k|none=>False
def PD(A:eV)(b':Nat)(k:Prop):Prop:=av A b' fun r=>match r with|some _=>False|none=>k
def Ba(A:eV)(s s':SV)(k:Prop):Prop:=
 match s' with
 |.any=>k
 |.undef=>match s with|.undef=>k|_=>False
 |.int q n'=>match s with|.int p n=>if p=q then n=n'/\k else False|_=>False
 |.bool b'=>match s with|.bool b=>b=b'/\k|.tt=>true=b'/\k|.ff=>false=b'/\k|_=>False
 |.tt=>match s with|.tt=>k|.bool b=>b=true/\k|_=>False
 |.ff=>match s with|.ff=>k|.bool b=>b=false/\k|_=>False
 |.str t=>s=.str t/\k
 |.nilp=>match s with|.nilp=>k|_=>False
 |.nils=>match s with|.nils=>k|_=>False
 |.ptr b' o'=>match s with|.ptr b aa=>vE A b' b (bd aa o' k)|_=>False
 |.sl b'=>match s with|.sl b=>vE A b' b k|.nils=>PD A b' k|_=>False
 |.rs z' aS=>match s with|.rs z es=>bd z z' (es=aS/\k)|.nils=>aS=[]/\k|_=>False
 |.agg bU=>s=.agg bU/\qB bU k
 |.fn f cs=>s=.fn f cs/\qB cs k
 |.mp b'=>match s with|.mp b=>vE A b' b k|_=>False
 |.nilm=>match s with|.nilm=>k|_=>False
 |.nili=>match s with|.nili=>k|_=>False
 |.z0=>match s with|.z0=>k|.nils=>k|_=>False
 |.it b'=>match s with|.it b=>vE A b' b k|_=>False
 |.ss b' l' n'=>match s with|.ss b l n=>vE A b' b (l=l'/\n=n'/\k)|_=>False
 |.ra g' o'=>match s with|.ra u aa=>u=g'/\aa=o'/\k|_=>False
 |.rl g' n' c'=>match s with|.rl u n c=>u=g'/\n=n'/\c=c'/\k|_=>False
 |.tl b' m'=>match s with|.tl b m=>vE A b' b (m=m'/\k)|.nils=>PD A b' (m'=0/\k)|_=>False
 |_=>False
def QM(A:eV)(l:List SV):List SV->Prop->Prop:=
 List.rec (fun l' k=>List.rec k (fun _ _ _=>False) l')
  (fun s _ ih l' k=>List.rec False (fun s' t' _=>Ba A s s' (ih t' k)) l') l
def EU(A:eV)(s s':SV)(k:Prop):Prop:=
 match s' with
 |.ifc T' y=>(match s with
  |.ifc T x=>bd T T' (match y with|.agg bU=>(match x with|.agg cs=>QM A cs bU k|_=>False)|y=>Ba A x y k)
  |_=>False)
 |.fn f' bU=>(match s with|.fn f cs=>bd f f' (QM A cs bU k)|_=>False)
 |s'=>Ba A s s' k
def EW(A:eV)(l:List SV):List SV->Prop->Prop:=
 List.rec (fun l' k=>List.rec k (fun _ _ _=>False) l')
  (fun s _ ih l' k=>List.rec False (fun s' t' _=>EU A s s' (ih t' k)) l') l
def abc(A:eV)(l:List (List SV)):List (List SV)->Prop->Prop:=
 List.rec (fun l' k=>List.rec k (fun _ _ _=>False) l')
  (fun s _ ih l' k=>List.rec False (fun s' t' _=>EW A s s' (ih t' k)) l') l
def abb(A:eV)(l:List (SV×SV×Nat)):List (SV×SV×Nat)->Prop->Prop:=
 List.rec (fun l' k=>List.rec k (fun _ _ _=>False) l')
  (fun s _ ih l' k=>List.rec False (fun s' t' _=>EU A s.1 s'.1 (EU A s.2.1 s'.2.1 (s.2.2=s'.2.2/\ih t' k))) l') l
def nL(A:eV)(h:Hp)(r:eV):Hp->Prop->Prop:=
 List.rec (fun h' k=>List.rec k (fun _ _ _=>False) h')
  (fun x _ ih h' k=>List.rec False (fun b' t' _=>match b',x with
   |.dead,_=>ih t' k
   |.row _ _ aS,none=>aS=[]/\ih t' k
   |.row t z aS,some j=>av h j fun b=>match b with
    |.row t0 z0 es=>bd t0 t (bd z0 z (es=aS/\ih t' k))
    |_=>False
   |.fix t bU,some j=>av h j fun b=>match b with
    |.fix t0 cs=>bd t0 t (EW A cs bU (ih t' k))
    |_=>False
   |.prow _ _ aS,none=>aS=[]/\ih t' k
   |.prow t z aS,some j=>av h j fun b=>match b with
    |.prow t0 z0 es=>bd t0 t (bd z0 z (abc A es aS (ih t' k)))
    |_=>False
   |.mapB aS c',some j=>av h j fun b=>match b with
    |.mapB es c=>es=aS/\c=c'/\ih t' k
    |_=>False
   |.pmap aS c',some j=>av h j fun b=>match b with
    |.pmap es c=>abb A es aS (c=c'/\ih t' k)
    |_=>False
   |.imap aS c',some j=>av h j fun b=>match b with
    |.imap es c=>es=aS/\c=c'/\ih t' k
    |_=>False
   |.asn A',some j=>av h j fun b=>match b with
    |.asn ab=>ab=A'/\ih t' k
    |_=>False
   |.mit m' a' l' c',some j=>av h j fun b=>match b with
    |.mit m a l c=>(match m' with
     |some b'=>(match m with|some fb=>vE A b' fb (a=a'/\l=l'/\c=c'/\ih t' k)|none=>False)
     |none=>False)
    |_=>False
   |_,_=>False) h') r
def mw(m:Nat)(A:eV):Bool:=
 (List.range m).all (fun i=>A[i]?==some (some i))&&(List.range A.length).all fun i=>(List.range A.length).all fun j=>i==j||A[i]?==some none|| !(A[i]?==A[j]?)
def QC(A:eV)(J:Fr)(h:Hp)(F':Fr)(h':Hp):Prop:=EW A J F' (nL A h A h' True)
def pW(g:Sg):Option Nat->bK->ba|_,.dead=>.dead|some j,_=>g.getD j .dead|none,_=>.rownil
def tU(g:Sg)(A:eV)(h':Hp):Sg:=List.zipWith (pW g) A h'
def yr{A}{b' b}{k}(h:vE A b' b k):A[b']?=some (some b)/\k:=by have⟨r,D,h⟩:=bg h;cases r with|none=>cases h|some j=>have⟨e,F⟩:=b2 h;simp_all
def YR{A}{b'}{k}(h:PD A b' k):A[b']?=some none/\k:=by have⟨r,D,h⟩:=bg h;grind
structure qT(g V:Sg)(A:eV):Prop where
 ref:∀(b j:Nat)(e:ba),A[b]?=some (some j)->g[j]?=some e->¬e.loose->V[b]?=some e\/V[b]?=some ba.dead
 nil:∀(b:Nat),A[b]?=some none->V[b]?=some ba.rownil\/V[b]?=some ba.dead
def JG{A}{s s'}{k}(h:Ba A s s' k):k/\∀w L E' g V v,qT g V A->(∀u,E' u->L u)->af w L g s v->af w E' V s' v:=by
 have same:eK s->∀w L E' g V v,qT g V A->(∀u,E' u->L u)->af w L g s v->af w E' V s v:=fun hf w L E' g V v _ hE D=>(hf w L g [] v D).mono V (fun _ _ _=>rfl) (aC _) (fun u _ hn h=>hn (hE u h)) sM;unfold Ba at h;split at h;case h_1=>exact⟨h,fun _ _ _ _ _ _ _ _ _=>.any⟩
 case h_2=>split at h<;>first|cases h|exact⟨h,fun _ _ _ _ _ _ _ _ D=>by cases D;exact .undef⟩
 case h_3=>split at h;split at h;rename_i hp;subst hp;obtain⟨e,h⟩:=h;subst e;exact⟨h,fun _ _ _ _ _ _ _ _ D=>by cases D;exact .int⟩;cases h;cases h
 case h_4=>split at h<;>first|exact h.elim|(obtain⟨e,h⟩:=h;subst e;exact⟨h,fun _ _ _ _ _ _ _ _ D=>by cases D;exact .bool⟩)
 case h_5=>split at h;exact⟨h,fun _ _ _ _ _ _ _ _ D=>by cases D;exact .tt⟩;obtain⟨e,h⟩:=h;subst e;exact⟨h,fun _ _ _ _ _ _ _ _ D=>by cases D;exact .tt⟩;cases h
 case h_6=>split at h;exact⟨h,fun _ _ _ _ _ _ _ _ D=>by cases D;exact .ff⟩;obtain⟨e,h⟩:=h;subst e;exact⟨h,fun _ _ _ _ _ _ _ _ D=>by cases D;exact .ff⟩;cases h
 case h_7=>obtain⟨e,h⟩:=h;subst e;exact⟨h,fun _ _ _ _ _ _ _ _ D=>by cases D;exact .str⟩
 case h_8=>split at h<;>first|cases h|exact⟨h,fun _ _ _ _ _ _ _ _ D=>by cases D;exact .nilp⟩
 case h_9=>split at h<;>first|cases h|exact⟨h,fun _ _ _ _ _ _ _ _ D=>by cases D;exact .nils⟩
 case h_10=>
  split at h;have⟨M,h⟩:=yr h;have⟨e,F⟩:=b2 h;subst e;refine⟨F,fun w L E' g V v ht _ D=>?_⟩;cases D with|ptr U=>exact(ht.ref _ _ _ M U sM).elim (fun h=>.ptr h) (fun h=>.eD h)|eD U=>exact(ht.ref _ _ _ M U sM).elim (fun h=>.eD h) (fun h=>.eD h)
  cases h
 case h_11=>
  split at h;have⟨M,h⟩:=yr h;refine⟨h,fun w L E' g V v ht _ D=>?_⟩;cases D with|sl U=>exact(ht.ref _ _ _ M U sM).elim (fun h=>.sl h) (fun h=>.c9 h)|dE U=>exact(ht.ref _ _ _ M U sM).elim (fun h=>.dE h) (fun h=>.c9 h)|c9 U=>exact(ht.ref _ _ _ M U sM).elim (fun h=>.c9 h) (fun h=>.c9 h)
  have⟨M,h⟩:=YR h;refine⟨h,fun w L E' g V v ht _ D=>?_⟩;cases D;exact(ht.nil _ M).elim (fun h=>.dE h) (fun h=>.c9 h);cases h
 case h_12=>split at h;have⟨e,e',F⟩:=b2 h;subst e;subst e';refine⟨F,same fun w L g V v D=>?_⟩;cases D<;>constructor<;>assumption;exact adp;cases h
 case h_13=>obtain⟨e,h⟩:=h;subst e;have⟨h,hf⟩:=Tk h;grind
 case h_14=>obtain⟨e,h⟩:=h;subst e;have⟨h,hf⟩:=Ez h;refine⟨h,same fun w L g V v D=>?_⟩;cases D with|fn hl hc=>exact .fn hl fun i s v hs hv=>hf s (bN hs) w L g V v (hc i s v hs hv)
 case h_15=>
  split at h;have⟨M,h⟩:=yr h;refine⟨h,fun w L E' g V v ht _ D=>?_⟩;cases D with|mp U=>exact(ht.ref _ _ _ M U sM).elim (fun h=>.mp h) (fun h=>.gN h)|gN U=>exact(ht.ref _ _ _ M U sM).elim (fun h=>.gN h) (fun h=>.gN h)
  cases h
 case h_16=>split at h<;>first|cases h|exact⟨h,fun _ _ _ _ _ _ _ _ D=>by cases D;exact .nilm⟩
 case h_17=>split at h<;>first|cases h|exact⟨h,fun _ _ _ _ _ _ _ _ D=>by cases D;exact .nili⟩
 case h_18=>split at h<;>first|cases h|exact⟨h,fun _ _ _ _ _ _ _ _ D=>by cases D;exact .z0⟩
 case h_19=>
  split at h;have⟨M,h⟩:=yr h;refine⟨h,fun w L E' g V v ht _ D=>?_⟩;cases D with|it U=>exact(ht.ref _ _ _ M U sM).elim (fun h=>.it h) (fun h=>.ho h)|ho U=>exact(ht.ref _ _ _ M U sM).elim (fun h=>.ho h) (fun h=>.ho h)
  cases h
 case h_20=>
  split at h;have⟨M,e1,e2,F⟩:=yr h;subst e1;subst e2;refine⟨F,fun w L E' g V v ht _ D=>?_⟩;cases D with|ss U hl I=>exact(ht.ref _ _ _ M U sM).elim (fun h=>.ss h hl I) (fun h=>.ej h)|eS U=>exact(ht.ref _ _ _ M U sM).elim (fun h=>.eS h) (fun h=>.ej h)|ej U=>exact(ht.ref _ _ _ M U sM).elim (fun h=>.ej h) (fun h=>.ej h)
  cases h
 case h_21=>split at h;obtain⟨e1,e2,h⟩:=h;subst e1;subst e2;exact⟨h,fun _ _ _ _ _ _ _ _ D=>by cases D;exact .ra⟩;cases h
 case h_22=>split at h;obtain⟨e1,e2,e3,h⟩:=h;subst e1;subst e2;subst e3;exact⟨h,fun _ _ _ _ _ _ _ _ D=>by cases D;exact .rl⟩;cases h
 case h_23=>
  split at h;have⟨M,e1,F⟩:=yr h;subst e1;refine⟨F,fun w L E' g V v ht _ D=>?_⟩;cases D with|tl U hl I=>exact(ht.ref _ _ _ M U (by simp)).elim (fun h=>.tl h hl I) (fun h=>.eY h)|fM U=>exact(ht.ref _ _ _ M U (by simp)).elim (fun h=>.fM h) (fun h=>.eY h)|eY U=>exact(ht.ref _ _ _ M U sM).elim (fun h=>.eY h) (fun h=>.eY h)
  have⟨M,e1,F⟩:=YR h;subst e1;refine⟨F,fun w L E' g V v ht _ D=>?_⟩;cases D;exact(ht.nil _ M).elim (fun h=>.fM h) (fun h=>.eY h);cases h
 simp_all
def BW(A:eV)(s s':SV):Prop:=∀w L E' g V v,qT g V A->(∀u,E' u->L u)->af w L g s v->af w E' V s' v
def QL{A}{f:SV->SV->Prop->Prop}(hf:∀{s s' k},f s s' k->k/\BW A s s')(l):∀{l' k},List.rec (fun l' k=>List.rec k (fun _ _ _=>False) l') (fun s _ ih l' k=>List.rec False (fun s' t' _=>f s s' (ih t' k)) l') l l' k->k/\l.length=l'.length/\∀(i:Nat)(s s':SV),l[i]?=some s->l'[i]?=some s'->BW A s s':=by induction l with|nil=>intro l' k h;cases l'<;>simp_all|cons s l ih=>intro l' k h;cases l'<;>grind
def EV{A}{s s'}{k}(h:EU A s s' k):k/\∀w L E' g V v,qT g V A->(∀u,E' u->L u)->af w L g s v->af w E' V s' v:=by
 cases s' with
 |ifc T' y=>
  cases s with
  |ifc T x=>
   have⟨e,hz⟩:=b2 h;subst e;clear h;have key:(∃cs bU,x=.agg cs/\y=.agg bU/\QM A cs bU k)\/Ba A x y k:=by
    cases y<;>first|exact .inr hz|skip
    cases x<;>first|simp_all|cases hz
   rcases key with⟨cs,bU,rfl,rfl,h⟩|h;obtain⟨h,hl,hc⟩:=QL JG cs h;refine⟨h,fun w L E' g V v ht hE D=>?_⟩;cases D with|ifc D=>cases D with|agg hlen I co=>refine .ifc (.agg (hl▸hlen) I fun i s v hs hv=>?_);exact adL
   have⟨h,Q⟩:=JG h;refine⟨h,fun w L E' g V v ht hE D=>?_⟩;cases D with|ifc D=>exact .ifc (Q w L E' g V _ ht hE D)
  |_=>cases h
 |fn f' bU=>
  cases s with
  |fn f cs=>have⟨e,hz⟩:=b2 h;subst e;have⟨hz,hl,hc⟩:=QL JG cs hz;refine⟨hz,fun w L E' g V v ht hE D=>?_⟩;cases D with|fn hlen co=>refine .fn (hl▸hlen) fun i s v hs hv=>?_;exact adL
  |_=>cases h
 |_=>exact JG h
def atk{A}(l):∀{l' k},abc A l l' k->k/\l.length=l'.length/\∀(i:Nat)(e e':List SV),l[i]?=some e->l'[i]?=some e'->e.length=e'.length/\∀(j:Nat)(s s':SV),e[j]?=some s->e'[j]?=some s'->BW A s s':=by induction l with|nil=>intro l' k h;exact acn|cons s l ih=>intro l' k h;cases l' with|nil=>cases h|cons s' l'=>have⟨h,E⟩:=QL EV s h;obtain⟨h,hl,F⟩:=ih h;refine⟨h,by simp[hl],fun i a a' ha g6=>?_⟩;grind
def atj{A}(l:List (SV×SV×Nat)):∀{l' k},abb A l l' k->k/\l.length=l'.length/\∀(i:Nat)(e e':SV×SV×Nat),l[i]?=some e->l'[i]?=some e'->BW A e.1 e'.1/\BW A e.2.1 e'.2.1/\e.2.2=e'.2.2:=by induction l with|nil=>intro l' k h;exact acn|cons s l ih=>intro l' k h;cases l' with|nil=>cases h|cons s' l'=>have⟨h,E⟩:=EV h;have⟨⟨h0,h⟩,F⟩:=EV h;have⟨h,hl,h3⟩:=ih h;refine⟨h,by simp[hl],fun i a a' ha g6=>?_⟩;cases i with|zero=>simp at ha g6;subst ha;subst g6;exact⟨E,F,h0⟩|succ i=>grind
def JI{A}(l):∀{l' k},EW A l l' k->k/\l.length=l'.length/\∀w L E' g V,qT g V A->(∀u,E' u->L u)->∀(i:Nat)(s s':SV)(v:Value),l[i]?=some s->l'[i]?=some s'->af w L g s v->af w E' V s' v:=by induction l with|nil=>intro l' k h;exact acn|cons s l ih=>intro l' k h;cases l' with|nil=>cases h|cons s' l'=>have⟨h,E⟩:=EV h;have⟨h,hl,F⟩:=ih h;grind
end
section
variable{P:Program} {T:aG}
def af.le{w}{L E'}{s}{v}(h:af w L [] s v)(hE:∀u,E' u->L u)(V):af w E' V s v:=
 h.mono V (fun _ _ _=>rfl) (aC _) (fun u _ hn h=>hn (hE u h)) sM
def SM(A:eV)(h:Hp)(r:Option Nat)(b':bK):Prop:=
 ∀w L E' g V,g.length=h.length->qT g V A->(∀u,E' u->L u)->(∀(i:Nat)(b:bK)(e:ba),h[i]?=some b->g[i]?=some e->aB w L g b e)->aB w E' V b' (pW g r b')
def SL(h:Hp)(r:Option Nat)(b':bK):Prop:=(∃j b,r=some j/\h[j]?=some b/\b≠ .fresh)\/b'=.dead\/(r=none/\b'≠ .fresh)
def afW{A}{h}(r):∀{h' k},nL A h r h' k->k/\r.length=h'.length/\∀(i:Nat)(x:Option Nat)(b':bK),r[i]?=some x->h'[i]?=some b'->SM A h x b'/\SL h x b':=by
 induction r with
 |nil=>intro h' k o;cases h' with|nil=>exact⟨o,rfl,sM⟩|cons b t=>cases o
 |cons x r ih=>
  intro h' k o;cases h' with
  |nil=>cases o
  |cons b' t=>
   have key:nL A h r t k/\SM A h x b'/\SL h x b':=by
    cases b' with
    |dead=>exact⟨o,fun _ _ _ _ _ _ _ _ _=>by cases x<;>trivial,.inr (.inl rfl)⟩
    |fresh=>exact False.elim (by cases x<;>exact o)
    |row t0 z aS=>
     cases x with
     |none=>have⟨e,o⟩:=o;exact⟨o,fun _ _ _ _ _ _ _ _ _=>e,.inr (.inr ⟨rfl,sM⟩)⟩
     |some j=>
      have⟨b,M,o⟩:=bg o;cases b with
      |row t1 z1 es=>
       have⟨e1,o⟩:=b2 o;have⟨e2,e3,aU⟩:=b2 o;subst e1;subst e2;subst e3;refine⟨aU,fun w L E' g V hl ht hE dl=>?_,.inl ⟨j,_,rfl,M,sM⟩⟩;have ai:j<g.length:=by rw[hl];exact(ao.1 M).1
       have H:g[j]?=some (g.getD j .dead):=by simp[List.getD,aD ai]
       have:=dl j _ _ M H;show aB w E' V _ (g.getD j .dead);revert this;generalize g.getD j .dead=e;intro this;cases e<;>simp only[aB]at this⊢;case row u sz n cap=>have⟨E,F,h3,h4,vs,h5,h6,h7⟩:=this;exact RZ
       omega
      |_=>cases o
    |fix t0 bU=>
     cases x with
     |none=>cases o
     |some j=>
      have⟨b,M,o⟩:=bg o;cases b with
      |fix t1 cs=>
       have⟨e1,o⟩:=b2 o;have⟨aU,hlen,hs⟩:=JI cs o;subst e1;refine⟨aU,fun w L E' g V hl ht hE dl=>?_,.inl ⟨j,_,rfl,M,sM⟩⟩;have ai:j<g.length:=by rw[hl];exact(ao.1 M).1
       have H:g[j]?=some (g.getD j .dead):=by simp[List.getD,aD ai]
       have:=dl j _ _ M H;show aB w E' V _ (g.getD j .dead);revert this;generalize g.getD j .dead=e;intro this;cases e<;>simp only[aB]at this⊢;case fix u=>
        have⟨vs,E,F,h3⟩:=this;refine⟨vs,E,by omega,fun i s v bW hv=>?_⟩;have Q:i<cs.length:=by rw[hlen];exact(ao.1 bW).1
        have⟨a,b⟩:=h3 i _ v (aD Q) hv;exact⟨hs w L E' g V ht hE i _ s v (aD Q) bW a,b⟩
      |_=>cases o
    |prow t0 z aS=>
     cases x with
     |none=>have⟨e,o⟩:=o;exact⟨o,fun _ _ _ _ _ _ _ _ _=>e,.inr (.inr ⟨rfl,sM⟩)⟩
     |some j=>
      have⟨b,M,o⟩:=bg o;cases b with
      |prow t1 z1 es=>
       have⟨e1,o⟩:=b2 o;have⟨e2,o⟩:=b2 o;have⟨aU,hlen,hs⟩:=atk es o;subst e1;subst e2;refine⟨aU,fun w L E' g V hl ht hE dl=>?_,.inl ⟨j,_,rfl,M,sM⟩⟩;have ai:j<g.length:=by rw[hl];exact(ao.1 M).1
       have H:g[j]?=some (g.getD j .dead):=by simp[List.getD,aD ai]
       have:=dl j _ _ M H;show aB w E' V _ (g.getD j .dead);revert this;generalize g.getD j .dead=e;intro this;cases e<;>simp only[aB]at this⊢;case row u sz n cap=>
        have⟨E,F,h3,h4,vs,h5,h6,h7⟩:=this;refine⟨E,F.trans hlen,h3,h4,vs,h5,h6,fun i e H=>?_⟩;have Q:i<es.length:=by rw[hlen];exact(ao.1 H).1
        have⟨q1,q2⟩:=hs i _ e (aD Q) H;have⟨q3,q4⟩:=h7 i _ (aD Q);refine⟨q1▸q3,fun l s bW=>?_⟩;have hj:l<es[i].length:=by rw[q1];exact(ao.1 bW).1
        have⟨v,a,b,c⟩:=q4 l _ (aD hj);exact⟨v,a,q2 l _ s (aD hj) bW w L E' g V v ht hE b,c⟩
       grind
      |_=>cases o
    |mapB aS c'=>
     cases x with
     |none=>cases o
     |some j=>
      have⟨b,M,o⟩:=bg o;cases b with
      |mapB es c=>
       have⟨e1,e2,aU⟩:=o;subst e1;subst e2;refine⟨aU,fun w L E' g V hl ht hE dl=>?_,.inl ⟨j,_,rfl,M,sM⟩⟩;have ai:j<g.length:=by rw[hl];exact(ao.1 M).1
       have H:g[j]?=some (g.getD j .dead):=by simp[List.getD,aD ai]
       have:=dl j _ _ M H;show aB w E' V _ (g.getD j .dead);revert this;generalize g.getD j .dead=e;intro this;cases e<;>simp only[aB]at this⊢;have⟨ms,E,F,h3⟩:=this;exact J2
      |_=>cases o
    |imap aS c'=>
     cases x with
     |none=>cases o
     |some j=>
      have⟨b,M,o⟩:=bg o;cases b with
      |imap es c=>
       have⟨e1,e2,aU⟩:=o;subst e1;subst e2;refine⟨aU,fun w L E' g V hl ht hE dl=>?_,.inl ⟨j,_,rfl,M,sM⟩⟩;have ai:j<g.length:=by rw[hl];exact(ao.1 M).1
       have H:g[j]?=some (g.getD j .dead):=by simp[List.getD,aD ai]
       have:=dl j _ _ M H;show aB w E' V _ (g.getD j .dead);revert this;generalize g.getD j .dead=e;intro this;cases e<;>simp only[aB]at this⊢;have⟨iX,ms,E,F,h3⟩:=this;exact Rv
      |_=>cases o
    |asn A'=>
     cases x with
     |none=>cases o
     |some j=>
      have⟨b,M,o⟩:=bg o;cases b with
      |asn ab=>
       have⟨e1,aU⟩:=o;subst e1;refine⟨aU,fun w L E' g V hl ht hE dl=>?_,.inl ⟨j,_,rfl,M,sM⟩⟩;have ai:j<g.length:=by rw[hl];exact(ao.1 M).1
       have H:g[j]?=some (g.getD j .dead):=by simp[List.getD,aD ai]
       have:=dl j _ _ M H;show aB w E' V _ (g.getD j .dead);revert this;generalize g.getD j .dead=e;intro this;cases e<;>simp only[aB]at this⊢ <;>grind
      |_=>cases o
    |mit m' a' l' c'=>
     cases x with
     |none=>cases o
     |some j=>
      have⟨b,M,o⟩:=bg o;cases b with
      |mit m a l c=>
       cases m' with
       |none=>exact o.elim
       |some b'=>
        cases m with
        |none=>exact o.elim
        |some fb=>
         have⟨aF,e1,e2,e3,aU⟩:=yr o;subst e1;subst e2;subst e3;refine⟨aU,fun w L E' g V hl ht hE dl=>?_,.inl ⟨j,_,rfl,M,sM⟩⟩;have ai:j<g.length:=by rw[hl];exact(ao.1 M).1
         have H:g[j]?=some (g.getD j .dead):=by simp[List.getD,aD ai]
         have:=dl j _ _ M H;show aB w E' V _ (g.getD j .dead);revert this;generalize g.getD j .dead=e;intro this;cases e<;>simp only[aB]at this⊢;have⟨q,E,F⟩:=this;refine⟨q,E,?_⟩;rcases F with⟨g',F,h3⟩|F;exact(ht.ref _ _ _ aF F sM).elim (fun h=>.inl ⟨g',h,h3⟩) .inr;exact .inr ((ht.ref _ _ _ aF F sM).elim id id)
      |_=>cases o
    |pmap aS c'=>
     cases x with
     |none=>cases o
     |some j=>
      have⟨b,M,o⟩:=bg o;cases b with
      |pmap es c=>
       have⟨⟨e2,aU⟩,hlen,hs⟩:=atj es o;subst e2;refine⟨aU,fun w L E' g V hl ht hE dl=>?_,.inl ⟨j,_,rfl,M,sM⟩⟩;have ai:j<g.length:=by rw[hl];exact(ao.1 M).1
       have H:g[j]?=some (g.getD j .dead):=by simp[List.getD,aD ai]
       have:=dl j _ _ M H;show aB w E' V _ (g.getD j .dead);revert this;generalize g.getD j .dead=e;intro this;cases e<;>simp only[aB]at this⊢;have⟨ms,E,F,h3⟩:=this;refine⟨ms,E,hlen▸F,fun i e m H hm=>?_⟩;have Q:i<es.length:=by rw[hlen];exact(ao.1 H).1
       have⟨q1,q2,q3⟩:=hs i _ e (aD Q) H;have⟨q4,q5,q6⟩:=h3 i _ m (aD Q) hm;exact⟨q1 w L E' g V _ ht hE q4,q2 w L E' g V _ ht hE q5,q6.trans q3⟩
      |_=>cases o
    |_=>exact False.elim (by cases x<;>exact o)
   grind
def arO{m}{A}(h:mw m A=true):(∀i,i<m->A[i]?=some (some i))/\∀(i j k:Nat),A[i]?=some (some k)->A[j]?=some (some k)->i=j:=by simp only[mw,bR,ir,pG,c6,uf,c5,dh]at h;grind
def A_{m}{h h'}(A)(aF:mw m A=true)(o:nL A h A h' True){w}{X}{g}(O:Inv w X g h):∃V,Inv w X V h'/\Step m w g w V/\qT g V A/\(∀u,Ex X V u->Ex X g u)/\∀(i:Nat)(e:ba)(u:Nat),V[i]?=some e->e.owns u->∃j:Nat,A[i]?=some (some j)/\g[j]?=some e:=by
 have⟨_,gJ,aka⟩:=afW A o;have⟨hm,Nn⟩:=arO aF;have tg:(tU g A h').length=h'.length:=by simp[tU,gJ]
 have bc:∀(i:Nat)(x:Option Nat)(b':bK),A[i]?=some x->h'[i]?=some b'->(tU g A h')[i]?=some (pW g x b'):=by intro i x b' hx M;simp[tU,List.getElem?_zipWith,hx,M]
 have hinv:∀(i:Nat)(e:ba),(tU g A h')[i]?=some e->∃x b',A[i]?=some x/\h'[i]?=some b'/\e=pW g x b':=by
  intro i e H;have Q:i<h'.length:=by rw[<-tg];exact(ao.1 H).1
  have f_:i<A.length:=by rw[gJ];exact Q
  have:=bc i _ _ (aD f_) (aD Q);rw[this]at H;exact⟨_,_,aD f_,aD Q,(mJ H).symm⟩
 have rC:∀x b' u,(pW g x b').owns u->∃j,x=some j/\g[j]?=some (pW g x b'):=by
  intro x b' u U;cases x with
  |none=>cases b'<;>simp[pW,ba.owns]at U
  |some j=>
   refine⟨j,rfl,?_⟩;have e1:pW g (some j) b'=g.getD j .dead:=by cases b'<;>first|rfl|(simp[pW,ba.owns]at U)
   rw[e1]at U⊢;cases hj:g[j]? with|none=>simp[List.getD,hj,ba.owns]at U|some e=>grind
 have qj:qT g (tU g A h') A:=by
  refine⟨fun b j e M H hf=>?_,fun b M=>?_⟩;have Q:b<h'.length:=by rw[<-gJ];exact(ao.1 M).1
  have:=bc b _ _ M (aD Q);rw[this];cases h'[b]<;>simp[pW,List.getD,H];have Q:b<h'.length:=by rw[<-gJ];exact(ao.1 M).1
  have:=bc b _ _ M (aD Q);rw[this];cases h'[b]<;>simp[pW]
 have br:∀u,bM (tU g A h') u->bM g u:=by rintro u ⟨i,e,H,U⟩;obtain⟨x,b',_,_,rfl⟩:=hinv i e H;have⟨j,_,hj⟩:=rC x b' u U;exact⟨j,_,hj,U⟩
 have hE:∀u,Ex X (tU g A h') u->Ex X g u:=fun u h=>h.elim .inl fun h=>.inr (br u h)
 refine⟨tU g A h',⟨tg,fun i b e M H=>?_,fun i e u H U=>?_,fun i j e e' u Q hj U bP=>?_,fun u hx I=>O.cU u hx (br u I),O.df⟩,
  ⟨rfl,rfl,rfl,aC _,fun _ _ _=>rfl,fun u I _=>br u I,fun i e Q H hf=>?_⟩,qj,hE,fun i e u H U=>by
   grind⟩
 obtain⟨x,b',hx,aP,rfl⟩:=hinv i e H;rw[M]at aP;simp at aP;subst aP;exact(aka i x b hx M).1 w _ _ g _ O.len qj hE O.ok;obtain⟨x,b',_,_,rfl⟩:=hinv i e H;have⟨j,_,hj⟩:=rC x b' u U;exact O.lt j _ u hj U;obtain⟨x,b',hx,_,rfl⟩:=hinv i e Q;obtain⟨y,c',hy,_,rfl⟩:=hinv j e' hj;obtain⟨k,rfl,o⟩:=rC x b' u U;obtain⟨l,rfl,hl⟩:=rC y c' u bP;have:=O.inj k l _ _ u o hl U bP;grind;exact qj.ref i i e (hm i Q) H hf
def aa3{m}{h h'}(A)(aF:mw m A=true)(o:nL A h A h' True){w}{X}{g}(O:Inv w X g h):∃V,Inv w X V h'/\Step m w g w V/\qT g V A/\∀u,Ex X V u->Ex X g u:=by have⟨V,E,F,h3,h4,_⟩:=A_ A aF o O;grind
def lM.of{m}{J F'}{h h'}(A)(aF:mw m A=true)(o:QC A J h F' h'):lM m J h F' h':=by have⟨o,hlen,WU⟩:=JI J o;refine⟨fun w X g tmps O hF=>?_⟩;have⟨V,aE,hS,qj,hE⟩:=aa3 A aF o O;refine⟨V,aE,⟨hlen▸hF.1,fun i s v hs hv=>?_⟩,hS⟩;exact Bu
def y3.of{m n}{J}{h}{sp}{h'}(A)(aF:mw m A=true)(o:GZ n sp fun F'=>QC A J h F' h'):y3 m J h n sp h':=
 ⟨.of A aF (Mj o)⟩
def yd(b:Nat)(s:SV)(J:Fr):(Fr->Prop)->Prop:=
 List.rec (fun k=>k []) (fun x _ ih k=>match x with
  |.sl b'=>match Nat.beq b' b with
   |true=>ih fun r=>k (s::r)
   |false=>ih fun r=>k (.sl b'::r)
  |x=>ih fun r=>k (x::r)) J
def O7{b}{s}(J):∀{k},yd b s J k->∃F',k F'/\F'.length=J.length/\∀(i:Nat)(x y:SV),J[i]?=some x->F'[i]?=some y->(x=.sl b/\y=s)\/x=y:=by
 induction J with
 |nil=>intro k h;exact⟨[],h,rfl,sM⟩
 |cons x J ih=>
  intro k h;have key:∃y,yd b s J (fun r=>k (y::r))/\((x=.sl b/\y=s)\/x=y):=by
   cases x with
   |sl b'=>have h:(match Nat.beq b' b with|true=>yd b s J fun r=>k (s::r)|false=>yd b s J fun r=>k (.sl b'::r)):=h;cases M:Nat.beq b' b with|true=>rw[M]at h;exact⟨s,h,.inl ⟨by simp_all,rfl⟩⟩|false=>grind
   |_=>exact⟨_,h,.inr rfl⟩
  grind
end
