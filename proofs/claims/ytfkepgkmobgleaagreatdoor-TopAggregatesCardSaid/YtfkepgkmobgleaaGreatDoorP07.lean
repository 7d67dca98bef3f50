/- Lemmas for TopZ; tactic blocks in binders fill in some arguments. -/
import Derived.LoopN
import Derived.ProofKit
import Derived.OpenShut
import Derived.ChangeOld
import Derived.Test.YtfkepgkmobgleaaGreatDoorP06
set_option linter.all false
noncomputable section
namespace Go.Sx
open  Go.ChangeShapes Go.WideShapes Go.ChangeAt
abbrev wy:=SX->FW->HW->List Nat->Prop
abbrev qR:=SV->HW->List Nat->Prop
abbrev kH:=Bool->Nat->Nat->Code->FW->HW->List Nat->wy->Prop
abbrev wx:=List SV->(SV->Prop)->Prop
abbrev uu:=List SV->HW->qR->Prop
def nJ{β:Type}(f:Nat)(l:List (Nat×β)):Option β:=List.rec none (fun p _ ih=>Bool.rec ih (some p.2) (Nat.beq p.1 f)) l
structure Env where
 T:aG
 FT:List (List Func)
 MT:List (TypeId×String×FuncId)
 ps:List (FuncId×wx)
 hs:List (FuncId×uu)
 it:List (TypeId×TypeId×Bool)
 c:Bool
section
variable{P:Program} {aH:Env}
def oG(P:Program)(f:FuncId)(l:List SV)(h:Hp)(s:SV)(h':Hp):Prop:=aq P f l h fun s1 E=>s1=s/\E=h'
structure ji(P:Program)(f:FuncId)(l:List SV)(ad:HW)(K:qR):Prop where
 ok:∃s H' wr,K s H' wr/\oH ad.view H'.view wr/\ad.view.length<=H'.view.length/\oG P f l ad.view s H'.view
def U3(FT:List (List Func))(f:Nat):Option Func:=tX (ig FT (Nat.div f 16)) fun l=>ig l (Nat.mod f 16)
def CJ(FT:List (List Func))(f:Nat)(k:Func->Prop):Prop:=Option.rec False k (U3 FT f)
def SQ(P:Program)(FT:List (List Func)):Prop:=∀f l fn,FT[Nat.div f 16]?=some l->l[Nat.mod f 16]?=some fn->P.funcs[f]?=some fn/\(fn.name== "runtime.NumGoroutine")=false
def Gk(aa:Option Code)(k:Code->Prop):Prop:=match aa with|some c=>k c|none=>False
def aaB(T:aG)(fn:Func)(m:Nat)(ad:HW)(K:qR):wy:=fun x F' H' wr=>match x with|.exit _=>False|_=>vI H' fn.ntmps F' T fn.results.toList fun rl=>sn rl fun s=>G1 m ad H' wr s fun s' fz=>K s' fz wr
def oP(P:Program)(aH:Env)(rec:kH)(f:FuncId)(l:List SV)(ad:HW)(K:qR):Prop:=
 Option.rec (Option.rec (CJ aH.FT f fun fn=>Gk fn.body fun cd=>JK l fn.ntmps fun J=>As ad fun m=>rec false m fn.ntmps cd J ad [] (aaB aH.T fn m ad K))
  (fun sp=>sp l ad K) (nJ f aH.hs)) (fun sp=>sp l fun s=>K s ad []) (nJ f aH.ps)
def Pq(MT:List (TypeId×String×FuncId))(t:TypeId)(name:String)(k:FuncId->Prop):Prop:=
 List.rec False (fun e _ ih=>dy (Nat.beq e.1 t) (dy (decide (e.2.1=name)) (k e.2.2) ih) ih) MT
def S6(P:Program)(MT:List (TypeId×String×FuncId)):Prop:=∀e∈MT,∀w v,(method (P.types.size+Made.depth) e.1 v e.2.1).run P w=.ok (e.2.2,v) w
def YA{MT}{t:TypeId}{name}{k}(h:Pq MT t name k):∃f,(t,name,f)∈MT/\k f:=by induction MT with|nil=>cases h|cons e MT ih=>rcases gk h with⟨M,h⟩|⟨_,h⟩;rcases gk h with⟨d1,h⟩|⟨_,h⟩;have M:=gS M;grind;have⟨f,E,F⟩:=ih h;grind;have⟨f,E,F⟩:=ih h;grind
def Es(aH:Env)(m n:Nat)(J:FW)(ad:HW)(wr:List Nat)(op:Op)(K:qR):Prop:=
 Bool.rec (vu aH.T aH.c (ia n J) (eZ ad) 0 op fun s ws _=>Bj ws ad fun fz=>DY m ws wr fun bt=>K s fz bt)
  (mn ad .fresh fun ae H'=>vu aH.T aH.c (ia n J) (eZ H') ae op fun s ws _=>Bj ws H' fun fz=>DY m ws wr fun bt=>K s fz bt) (jX aH.T op)
def Xv(IT:List (TypeId×TypeId×Bool))(t ag:Nat)(k:Bool->Prop):Prop:=
 List.rec False (fun e _ ih=>dy (Nat.beq e.1 t) (dy (Nat.beq e.2.1 ag) (k e.2.2) ih) ih) IT
def Oi(T:aG)(t:Nat):Bool:=Option.rec false (fun te=>match te.ti with|.iface=>true|_=>false) (vO T t)
def Lm(aH:Env)(n:Nat)(J:FW)(t:TypeId)(x:Operand)(K:SV->Prop):Prop:=ia n J x fun s=>match s with|.ifc ag s0=>Xv aH.it t ag fun b=>Bool.rec (k6 aH.T t fun z=>K (.tup [z,.ff])) (K (.tup [.ifc ag s0,.tt])) b|_=>False
def S1(P:Program)(IT:List (TypeId×TypeId×Bool)):Prop:=∀e∈IT,∃ms i,P.underlying e.1=some (.interface ms)/\P.info? e.2.1=some i/\(Instr.missingMethod ms i.methods).isNone=e.2.2
def amf{IT}{t ag}{k}(h:Xv IT t ag k):∃b,(t,ag,b)∈IT/\k b:=by induction IT with|nil=>cases h|cons e IT ih=>rcases gk h with⟨M,h⟩|⟨_,h⟩;rcases gk h with⟨d1,h⟩|⟨_,h⟩;have M:=gS M;have d1:=gS d1;grind;have⟨b,E,F⟩:=ih h;grind;have⟨b,E,F⟩:=ih h;grind
abbrev aep:=Program->Env->kH->Nat->Nat->FW->HW->List Nat->qR->Prop
def aoG(op:Op):lI aep:=
 match op with
 |.call ⟨.value x,xs,_⟩=>⟨fun P aH rec m n J ad wr K=>ia n J x fun x=>(match x with
  |.fn f cs=>ll (ia n J) xs.toList fun l=>fA l cs fun l=>oP P aH rec f l ad fun s H' wc=>D6 m wc wr fun bt=>K s H' bt
  |.eh f cs=>ll (ia n J) xs.toList fun l=>fA cs l fun l=>oP P aH rec f l ad fun s H' wc=>D6 m wc wr fun bt=>K s H' bt
  |_=>False)⟩
 |.call ⟨.invoke r name,xs,_⟩=>⟨fun P aH rec m n J ad wr K=>ia n J r fun x=>(match x with
  |.ifc t s=>Pq aH.MT t name fun f=>ll (ia n J) xs.toList fun l=>oP P aH rec f (s::l) ad fun s H' wc=>D6 m wc wr fun bt=>K s H' bt
  |_=>False)⟩
 |.typeAssert x xt t true=>⟨fun _ aH _ m n J ad wr K=>Bool.rec (Es aH m n J ad wr (.typeAssert x xt t true) K) (Lm aH n J t x fun s=>K s ad wr) (Oi aH.T t)⟩
 |op=>⟨fun _ aH _ m n J ad wr K=>Es aH m n J ad wr op K⟩
def PM(P:Program)(aH:Env)(rec:kH)(m n:Nat)(J:FW)(ad:HW)(wr:List Nat)(op:Op)(K:qR):Prop:=(aoG op).run fun f=>f P aH rec m n J ad wr K
abbrev aer:=Program->Env->kH->Nat->Nat->FW->HW->List Nat->(FW->HW->List Nat->Prop)->Prop
def aoM(all:List Oper)(l:List Oper):lI aer:=
 List.rec ⟨fun _ _ _ _ _ J ad wr K=>K J ad wr⟩
  (fun aa _ ih=>⟨fun P aH rec m n J ad wr K=>Bm all n J aa.guard
   (PM P aH rec m n J ad wr aa.op fun s H' bt=>tL n J aa.dst s fun F'=>ih.run fun f=>f P aH rec m n F' H' bt K)
   (tL n J aa.dst .undef fun F'=>ih.run fun f=>f P aH rec m n F' ad wr K)⟩) l
def opsV(P:Program)(aH:Env)(rec:kH)(m n:Nat)(all:List Oper)(l:List Oper)(J:FW)(ad:HW)(wr:List Nat)(K:FW->HW->List Nat->Prop):Prop:=(aoM all l).run fun f=>f P aH rec m n J ad wr K
def EB(n:Nat):HW->(HW->Prop)->Prop:=
 Nat.rec (fun ad k=>k ad) (fun _ ih ad k=>mn ad .fresh fun _ H'=>ih H' k) n
abbrev aet:=aG->HW->(List Nat->HW->Prop)->Prop
def arI(l:List Oper):lI aet:=
 List.rec ⟨fun _ ad k=>k [] ad⟩
  (fun aa _ ih=>match aa.op with
   |.call ⟨.value _,_,_⟩=>⟨fun T ad k=>mn ad .fresh fun n H'=>EB 15 H' fun H'=>ih.run fun f=>f T H' fun ns fz=>k (n::ns) fz⟩
   |.call ⟨.invoke _ _,_,_⟩=>⟨fun T ad k=>mn ad .fresh fun n H'=>EB 15 H' fun H'=>ih.run fun f=>f T H' fun ns fz=>k (n::ns) fz⟩
   |op=>⟨fun T ad k=>Bool.rec (ih.run fun f=>f T ad fun ns fz=>k (0::ns) fz) (mn ad .fresh fun n H'=>ih.run fun f=>f T H' fun ns fz=>k (n::ns) fz) (jX T op)⟩) l
def EI(T:aG)(l:List Oper)(ad:HW)(k:List Nat->HW->Prop):Prop:=(arI l).run fun f=>f T ad k
def rh:aO (aO (aO bK)):=aO.cK (aO.cK (aO.cK .dead))
def QD(U:dm)(acc:List Nat):HW->(HW->Prop)->Prop:=
 List.rec (fun bY k=>k bY) (fun b _ ih bY k=>U b fun x=>yx bY b x fun D'=>ih D' k) acc
def Iz(ad:HW)(acc:List Nat)(k:HW->Prop):Prop:=As ad fun n=>QD (eZ ad) acc ⟨n,rh⟩ k
def Mi(U:dm)(ok:Nat->Bool)(aA:List (Nat×Nat))(k:List Nat->Prop):Prop:=
 List.rec (fun k=>k []) (fun p _ ih k=>U p.2 fun b=>match b with|.fresh=>dy (ok p.2) False (ih fun l=>k (p.2::l))|_=>False) aA k
def Rq(m:Nat)(ok:Nat->Bool)(aA:List (Nat×Nat))(bP:dm)(wr:List Nat):(Ws->Prop)->Prop:=
 List.rec (fun k=>k []) (fun i _ ih k=>dy (Nat.ble m i) False (bo (ok i) (bP i fun b=>vK m ok aA b fun b'=>ih fun r=>k ((i,b')::r)))) wr
def Rp(m:Nat)(ok:Nat->Bool)(aA:List (Nat×Nat))(bP:dm)(l:List (Nat×Nat)):(Ws->Prop)->Prop:=
 List.rec (fun k=>k []) (fun p _ ih k=>bP p.1 fun b=>vK m ok aA b fun b'=>ih fun r=>k ((p.2,b')::r)) l
def EN(m:Nat)(ok:Nat->Bool)(bP:dm)(wr:List Nat)(acc:List Nat)(k:Prop):Prop:=
 List.rec k (fun i _ ih=>Bool.rec (motive:=fun _=>Prop) (bP i fun b=>vK m ok [] b fun _=>ih) ih (jy i wr)) acc
def tailD(m ae:Nat)(ad:HW)(ok:Nat->Bool)(aJ:List Nat)(K:bC)(s:SV)(H':HW)(wr:List Nat):Prop:=
 JZ (eZ H') wr [] fun todo=>vl (eZ H') m 4096 (qC 3 s todo) 0 [] fun new _=>IV m new ae [] fun aA=>Mi (eZ ad) ok aA fun tn=>oq m ok aA 3 s fun s'=>
  EN m ok (eZ H') wr aJ (Rq m ok aA (eZ H') wr fun w1=>Rp m ok aA (eZ H') aA fun w2=>fA w1 w2 fun ws=>fA tn aJ fun Qh=>K s' ws Qh)
def Qt(T:aG)(fn:Func)(m ae:Nat)(ad:HW)(ok:Nat->Bool)(aJ:List Nat)(K:bC):wy:=fun x F' H' wr=>match x with|.exit _=>False|_=>vI H' fn.ntmps F' T fn.results.toList fun rl=>sn rl fun s=>tailD m ae ad ok aJ K s H' wr
def B_(P:Program)(aH:Env)(rec:kH)(f:FuncId)(l:List SV)(ad:HW)(ae:Nat)(K:bC):Prop:=
 Option.rec (Option.rec (vl (eZ ad) 0 4096 (sc (qC 3) l []) 0 [] fun acc mk=>
  Iz ad acc fun bY=>CJ aH.FT f fun fn=>Gk fn.body fun cd=>JK l fn.ntmps fun J=>As ad fun m=>
   rec false m fn.ntmps cd J bY [] (Qt aH.T fn m ae ad (mG mk) acc K))
  (fun sp=>vl (eZ ad) 0 4096 (0::sc (qC 3) l []) 0 [] fun acc mk=>Iz ad acc fun bY=>As ad fun m=>sp l bY fun s H' wr=>tailD m ae ad (mG mk) acc K s H' wr) (nJ f aH.hs)) (fun sp=>sp l fun s=>K s [] []) (nJ f aH.ps)
abbrev aef:=Program->Env->kH->Nat->FW->HW->Nat->bC->Prop
def ai2(op:Op):lI aef:=
 match op with
 |.call ⟨.value x,xs,_⟩=>⟨fun P aH rec n J ad ae K=>ia n J x fun x=>(match x with
  |.fn f cs=>ll (ia n J) xs.toList fun l=>fA l cs fun l=>B_ P aH rec f l ad ae K
  |.eh f cs=>ll (ia n J) xs.toList fun l=>fA cs l fun l=>B_ P aH rec f l ad ae K
  |_=>False)⟩
 |.call ⟨.invoke r name,xs,_⟩=>⟨fun P aH rec n J ad ae K=>ia n J r fun x=>(match x with
  |.ifc t s=>Pq aH.MT t name fun f=>ll (ia n J) xs.toList fun l=>B_ P aH rec f (s::l) ad ae K
  |_=>False)⟩
 |op=>⟨fun _ aH _ n J ad ae K=>Bool.rec (vu aH.T aH.c (ia n J) (eZ ad) 0 op K) (eZ ad ae fun b=>match b with|.fresh=>vu aH.T aH.c (ia n J) (eZ ad) ae op K|_=>False) (jX aH.T op)⟩
def Mb(P:Program)(aH:Env)(rec:kH)(n:Nat)(J:FW)(ad:HW)(ae:Nat)(op:Op)(K:bC):Prop:=(ai2 op).run fun f=>f P aH rec n J ad ae K
abbrev aed:=Program->Env->kH->Nat->List Nat->FW->HW->(List Rec->FW->HW->Prop)->Prop
def ah3(all l:List Oper):lI aed:=
 List.rec ⟨fun _ _ _ _ _ J ad K=>K [] J ad⟩
  (fun aa _ ih=>⟨fun P aH rec n ids J ad K=>List.rec False (fun ae DM _=>
   Bm all n J aa.guard
    (Mb P aH rec n J ad ae aa.op fun s ws aJ=>tL n J aa.dst s fun F'=>Bj ws ad fun H'=>ih.run fun f=>f P aH rec n DM F' H' fun rs=>K (⟨s,ws,aJ⟩::rs))
    (tL n J aa.dst .undef fun F'=>ih.run fun f=>f P aH rec n DM F' ad fun rs=>K (⟨.undef,[],[]⟩::rs))) ids⟩) l
def GD(P:Program)(aH:Env)(rec:kH)(n:Nat)(all l:List Oper)(ids:List Nat)(J:FW)(ad:HW)(K:List Rec->FW->HW->Prop):Prop:=(ah3 all l).run fun f=>f P aH rec n ids J ad K
def X3(m:Nat)(rs:List Rec):List Nat->(List Nat->Prop)->Prop:=
 List.rec (fun wr k=>k wr) (fun r _ ih wr k=>DY m r.ws wr fun bt=>ih bt k) rs
def PZ(ops:Array Oper)(k:List Nat->Prop):Prop:=Option.rec False k (I3 ops)
def Us(P:Program)(aH:Env)(rec:kH)(m n:Nat)(ops:Array Oper)(J:FW)(ad:HW)(wr:List Nat)(K:FW->HW->List Nat->Prop):Prop:=
 PZ ops fun cs=>EI aH.T ops.toList ad fun ids H'=>GD P aH rec n ops.toList ops.toList ids J H' fun rs F' fz=>tY rs cs 0 [] (X3 m rs wr fun bt=>K F' fz bt)
abbrev aec:=Program->Env->kH->Nat->Nat->FW->HW->List Nat->wy->Prop
def ag7(c:Code):lI aec:=
 Code.rec
  ⟨fun _ _ _ _ _ J ad wr K=>K .normal J ad wr⟩
  (fun _ ops draw=>Bool.rec
   ⟨fun P aH rec m n J ad wr K=>opsV P aH rec m n ops.toList ops.toList J ad wr fun J ad wr=>K .normal J ad wr⟩
   ⟨fun P aH rec m n J ad wr K=>Us P aH rec m n ops J ad wr fun J ad wr=>K .normal J ad wr⟩ draw)
  (fun _ _ jV jW=>⟨fun P aH rec m n J ad wr K=>jV.run fun f=>f P aH rec m n J ad wr fun x J ad wr=>match x with
   |.normal=>jW.run fun f=>f P aH rec m n J ad wr K
   |.exit i=>K (.exit i) J ad wr
   |.ret=>K .ret J ad wr⟩)
  (fun c _ _ jV jW=>⟨fun P aH rec m n J ad wr K=>ia n J c fun s=>match s with
   |.tt=>jV.run fun f=>f P aH rec m n J ad wr K
   |.ff=>jW.run fun f=>f P aH rec m n J ad wr K
   |_=>False⟩)
  (fun id _ ih=>⟨fun P aH rec m n J ad wr K=>ih.run fun f=>f P aH rec m n J ad wr fun x J ad wr=>match x with
   |.normal=>K .normal J ad wr
   |.exit i=>match Nat.beq i id with
    |true=>K .normal J ad wr
    |false=>K (.exit i) J ad wr
   |.ret=>K .ret J ad wr⟩)
  (fun c _=>⟨fun _ _ rec m n J ad wr K=>rec true m n c J ad wr K⟩)
  (fun _ _ _ _ _ _=>⟨fun _ _ _ _ _ _ _ _ _=>False⟩)
  (fun id=>⟨fun _ _ _ _ _ J ad wr K=>K (.exit id) J ad wr⟩)
  (fun _ ih=>⟨fun P aH rec m n J ad wr K=>ih.run fun f=>f P aH rec m n J ad wr K⟩)
  (fun _=>⟨fun _ _ _ _ _ J ad wr K=>K .normal J ad wr⟩)
  (fun _=>⟨fun _ _ _ _ _ _ _ _ _=>False⟩)
  ⟨fun _ _ _ _ _ J ad wr K=>K .ret J ad wr⟩
  (fun _=>⟨fun _ _ _ _ _ _ _ _ _=>False⟩) c
def Uc(P:Program)(aH:Env)(rec:kH)(m n:Nat)(c:Code)(J:FW)(ad:HW)(wr:List Nat)(K:wy):Prop:=(ag7 c).run fun f=>f P aH rec m n J ad wr K
def ar9(rec:kH)(m n:Nat)(c:Code)(K:wy):wy:=fun x J ad wr=>match x with|.normal=>rec true m n c J ad wr K|.exit i=>K (.exit i) J ad wr|.ret=>K .ret J ad wr
def EL(P:Program)(aH:Env)(fuel:Nat):kH:=
 Nat.rec (fun _ _ _ _ _ _ _ _=>False) (fun _ rec b m n c J ad wr K=>Uc P aH rec m n c J ad wr (Bool.rec K (ar9 rec m n c K) b)) fuel
end
section
variable{P:Program} {aH:Env}
structure oI(m:Nat)(h:Hp)(wr:List Nat)(h':Hp)(bt:List Nat):Prop where
 sub:∀i,i∈wr->i∈bt
 same:∀i,i<m->i∉bt->h'[i]?=h[i]?
 le:h.length<=h'.length
def oI.refl{m}{h}{wr}:oI m h wr h wr:=⟨fun _ h=>h,fun _ _ _=>rfl,aC _⟩
def oI.trans{m}{h h' bx}{wr bt abT}(a:oI m h wr h' bt)(b:oI m h' bt bx abT):oI m h wr bx abT:=
 ⟨fun i Q=>b.sub i (a.sub i Q),fun i Q hn=>(b.same i Q hn).trans (a.same i Q fun h=>hn (b.sub i h)),dF a.le b.le⟩
def wq(x:SX)(J:Fr)(h:Hp):mN:=fun x1 F1 E=>x1=x/\F1=J/\E=h
def COK(P:Program)(b:Bool)(m:Nat)(c:Code)(J:Fr)(h:Hp)(K:mN):Prop:=match b with|false=>eb P m c J h K|true=>∃n,∀w X g tmps,Inv w X g h->cC w (Ex X g) g J tmps->Code.rounds P c (jm m X w g K) n ⟨tmps,[]⟩ w
def sH(P:Program)(rec:kH):Prop:=∀b m n c J ad wr K,m<=ad.view.length->rec b m n c J ad wr K->
 ∃x F' H' bt,K x F' H' bt/\COK P b m c (eT n J) ad.view (wq x (eT n F') H'.view)/\oI m ad.view wr H'.view bt
structure ka(P:Program)(aH:Env):Prop where
 tab:bl P aH.T
 ft:SQ P aH.FT
 mt:S6 P aH.MT
 mixed:P.follows .mixedOrders=true
 it:S1 P aH.it
 ps:∀(f:FuncId)(sp:wx),nJ f aH.ps=some sp->∀(l:List SV)(k:SV->Prop),sp l k->∃s,k s/\aY P f l (· =s)
 hs:∀(f:FuncId)(sp:uu),nJ f aH.hs=some sp->∀(l:List SV)(ad:HW)(K:qR),sp l ad K->ji P f l ad K
def U4(hV:ka P aH){f}{k}(h:CJ aH.FT f k):∃fn,P.funcs[f]?=some fn/\(fn.name== "runtime.NumGoroutine")=false/\k fn:=by unfold CJ at h;cases hd:U3 aH.FT f with|none=>simp_all|some fn=>rw[hd]at h;have⟨l,hl,C9⟩:=E2 hd;rw[Au]at hl C9;have⟨E,F⟩:=hV.ft f l fn hl C9;simp_all
def TL{aa}{k}(h:Gk aa k):∃c,aa=some c/\k c:=by cases aa with|none=>cases h|some c=>exact⟨c,rfl,h⟩
def Uq{f}{fn}{c}(hf:P.funcs[f]?=some fn)(hn:(fn.name== "runtime.NumGoroutine")=false)(M:fn.body=some c) {x}{J F'}{h h'}{args}{ss}{m} (hs:∀w L g vs,b5 w L g args vs->cC w L g J (vs.toArray++Array.replicate (fn.ntmps-vs.toArray.size) Go.undef)) (hc:eb P m c J h (wq x F' h'))(hx:∀i,x≠ .exit i) (gK:∀w X g tmps,Inv w X g h'->cC w (Ex X g) g F' tmps->∃vs:List Value,(fn.results.toList.mapM fun|.tmp t=>pure (tmps.getD t Go.undef)|.cell a t=>do loadVar t (<-asAddr (tmps.getD a Go.undef)):Sem (List Value)).run P w=.ok vs w/\b5 w (Ex X g) g ss vs) {s}(bQ:∀w L g vs,b5 w L g ss vs.toList->af w L g s (if h:vs.size=1 then vs[0]else .tuple vs)) {w}{X}{g}{vs}(O:Inv w X g h)(D:b5 w (Ex X g) g args vs):bO P (callFunc f vs.toArray) w fun v w'=>∃V,af w' (Ex X V) V s v/\Inv w' X V h'/\Step m w g w' V:=by
 have ro:(callFunc f vs.toArray).run P w=.ok (.enter f vs.toArray) w:=by exact ad1
 unfold bO;rw[ro];refine calls_of_wp hf M (j8 (hc w X g _ O (hs w _ g vs D)) fun e a w' hq=>?_);have⟨hd,x1,F1,E,V,d7,⟨e1,e2,e3⟩,aE,cB,hS⟩:=hq;subst e1;subst e2;subst e3;have fin:a.defers=[]/\∃v,(results fn a.tmps).run P w'=.ok v w'/\∃v',Ending.returned v=.returned v'/\∃V,af w' (Ex X V) V s v'/\Inv w' X V E/\Step m w g w' V:=by
  have⟨cP,a7,gJ⟩:=gK w' X V a.tmps aE cB;have qf:(results fn a.tmps).run P w'=.ok (if h:cP.toArray.size=1 then cP.toArray[0]else .tuple cP.toArray) w':=by unfold results;rw[Array.mapM_eq_mapM_toList];simp only[bJ,Sem.run_map,da];erw[a7];rfl
  exact⟨hd,_,qf,_,rfl,V,bQ w' _ V cP.toArray (by simpa using gJ),aE,hS⟩
 cases e<;>cases d7;case normal=>exact fin
 case ret=>exact fin
 simp_all
def Gq(hV:ka P aH){rec}(fE:sH P rec){f}{l}{ad}{K}(o:oP P aH rec f l ad K):∃s H' wc,K s H' wc/\oH ad.view H'.view wc/\ad.view.length<=H'.view.length/\oG P f l ad.view s H'.view:=by
 unfold oP at o;cases hp:nJ f aH.ps with
 |some sp=>rw[hp]at o;obtain⟨s,o,hs⟩:=hV.ps f sp hp l _ o;exact⟨s,ad,[],o,.refl _ _,aC _,hs.call fun s' e=>⟨e,rfl⟩⟩
 |none=>
 rw[hp]at o;cases hh:nJ f aH.hs with
 |some sp=>rw[hh]at o;exact(hV.hs f sp hh l ad K o).ok
 |none=>
  rw[hh]at o;obtain⟨fn,hf,hn,o⟩:=U4 hV o;obtain⟨c,M,o⟩:=TL o;obtain⟨J,o,hs⟩:=abh o;have o:=Is (k:=fun m=>rec false m fn.ntmps c J ad [] (aaB aH.T fn m ad K)) o;obtain⟨x,F',H',bt,o,hc,hM⟩:=fE false ad.view.length fn.ntmps c J ad [] _ (aC _) o;have hc:=hc;have key:(∀i,x≠ .exit i)/\vI H' fn.ntmps F' aH.T fn.results.toList fun rl=>sn rl fun s=>G1 ad.view.length ad H' bt s fun s' fz=>K s' fz bt:=by cases x with|normal=>exact⟨sM,o⟩|ret=>exact⟨sM,o⟩|exit i=>cases o
  obtain⟨hx,o⟩:=key;rw[aaA]at o;obtain⟨ss,o,gK⟩:=Qr hV.tab _ o;obtain⟨s,o,bQ⟩:=Q2 o;obtain⟨s',fz,bx,hv,o,sZ,hle,M3⟩:=ajA rfl rfl rfl o hM.same;subst hv;refine⟨s',fz,bt,o,sZ,hle,⟨fun w X g vs O D=>?_⟩⟩;refine(Uq hf hn M hs hc hx gK bQ O D).mono fun v w'⟨V,bb,aE,hS⟩=>?_;rw[<-O.len]at hS;grind
def y7(P:Program)(J:Fr)(h:Hp)(op:Op)(s:SV)(h':Hp):Prop:=
 ∀(w:World)(X:Nat->Prop)(g:Sg)(a:Act)(d:Option Tmp)(ty:TypeId)(pos:String)(after:Array Edge)(guard:Option (Nat×Bool)),Inv w X g h->cC w (Ex X g) g J a.tmps->
  bO P (execOp a.eval ⟨d,op,ty,pos,after,guard⟩) w fun v w'=>∃V,af w' (Ex X V) V s v/\Inv w' X V h'/\Step g.length w g w' V
def ea.done{m}{w}{X}{g}{F}{s}{ws}(h:ea P m w X g F s ws):bO P m w fun v w'=>∃V,af w' (Ex X V) V s v/\Inv w' X V (bF ws F)/\Step g.length w g w' V:=
 bO.mono h fun _ _⟨V,E,F,h3,_⟩=>⟨V,E,F,h3⟩
def PN{T}{c}{n}{J}{ad}{ae}{op}{K}(h:vu T c (ia n J) (eZ ad) ae op K):de T c (eT n J) ad.view ae op K:=by rw[GN,mV]at h;exact h
def I1(hV:ka P aH){m n}{J}{ad}{wr}{op}{K}(hm:m<=ad.view.length)(o:Es aH m n J ad wr op K):∃s H' bt,K s H' bt/\y7 P (eT n J) ad.view op s H'.view/\oI m ad.view wr H'.view bt:=by
 unfold Es at o;cases hn:jX aH.T op with
 |false=>
  rw[hn]at o;obtain⟨s,ws,aJ,o,aw,_⟩:=yk hV.tab (fun h'=>by simp_all) (PN o);obtain⟨H',o,hv⟩:=Re o;obtain⟨bt,o,E,F⟩:=OQ ws o;refine⟨s,H',bt,o,fun w X g a d ty pos after guard O hF=>?_,E,fun i Q hn=>?_,by rw[hv,pB];omega⟩;·rw[hv];exact(aw w X g _ a.eval d ty pos after guard O (fun x _=>hF.iA x) (fun _ _=>rfl)).done
  rw[hv];exact oB ws fun p hp H=>hn (by grind)
 |true=>
  rw[hn]at o;obtain⟨H1,o,lv⟩:=vC o;have o:=PN o;rw[lv]at o;obtain⟨s,ws,aJ,o,aw,_⟩:=yk hV.tab (fun _=>by simp) o;obtain⟨H',o,hv⟩:=Re o;rw[lv]at hv;obtain⟨bt,o,E,F⟩:=OQ ws o;refine⟨s,H',bt,o,fun w X g a d ty pos after guard O hF=>?_,E,fun i Q hn=>?_,by rw[hv,pB];simp⟩;·obtain⟨aE,ca⟩:=O.fresh;have cB:=hF.step ca (aC _);rw[hv];exact((aw w X _ _ a.eval d ty pos after guard aE (fun x _=>cB.iA x) (fun _ _=>rfl)).done).mono fun v w'⟨V,a1,a2,a3⟩=>⟨V,a1,a2,ca.trans a3.any⟩
  rw[hv,oB ws fun p hp H=>hn (by grind),eU G]
def Gr{a:Act}{x}{xs}{kB}{f}{vs}(aF:a.eval x=.func (.func f) #[] vs){d}{ty:TypeId}{pos}{after}{guard}:execOp a.eval ⟨d,.call ⟨.value x,xs,kB⟩,ty,pos,after,guard⟩=callFunc f ((xs.toList.map a.eval++vs.toList).toArray):=by
 have e1:(xs.toList.map a.eval++vs.toList).toArray=xs.map a.eval++vs:=by apply BL;simp
 rw[e1];simp[execOp,resolve,aF,Deferred.ofValue,invoke]
def bO.congr{m m'}{w}{R}(h:bO P m w R)(e:m'.run P w=m.run P w):bO P m' w R:=by unfold bO at*;rw[e];exact h
def Xo(hV:ka P aH){t:TypeId}{name}{f}(xI:(t,name,f)∈aH.MT){a:Act}{r}{xs}{kB}{v}(aF:a.eval r=.iface t v){d}{ty:TypeId}{pos}{after}{guard}(w):(execOp a.eval ⟨d,.call ⟨.invoke r name,xs,kB⟩,ty,pos,after,guard⟩).run P w=(callFunc f ((v::xs.toList.map a.eval).toArray)).run P w:=by
 have hm:=hV.mt _ xI w v;have e1:(v::xs.toList.map a.eval).toArray= #[v]++xs.map a.eval:=by apply BL;simp
 have e2:(#[Value.iface t v]++xs.map a.eval).extract 1 (#[Value.iface t v]++xs.map a.eval).size=xs.map a.eval:=by apply BL;simp[j9]
 rw[e1];simp only[execOp,resolve,aF,bJ,da,cb,invoke];rw[show(#[Value.iface t v]++Array.map a.eval xs)[0]?=some (Value.iface t v) by rw[Ku sM];rfl];simp only[e2,callMethod,bJ];simp_all
def agk{J}{h h'}{x}{xs}{kB}{f}{cs l}{s} (hx:∀w L g A,bA w L g J A x->af w L g (.fn f cs) (A x)) (hl:∀w L g A,(∀y∈xs.toList,bA w L g J A y)->b5 w L g l (xs.toList.map A)) (hc:oG P f (l++cs) h s h'):y7 P J h (.call ⟨.value x,xs,kB⟩) s h':=by intro w X g a d ty pos after guard O hF;have D:=hx w _ g a.eval (hF.iA x);have fP:=hl w _ g a.eval fun y _=>hF.iA y;generalize aF:a.eval x=vx at D;cases D with| @fn _ _ _ vs hlen co=>rw[Gr aF];refine(hc.ok w X g _ O ⟨by rw[c_,c_,fP.1,hlen];simp,fun i s v hs hv=>?_⟩).mono fun v w'⟨s1,E,V,⟨e1,e2⟩,a1,a2,a3⟩=>?_;exact acL;grind
def Gp{a:Act}{x}{xs}{kB}{f}{vs}(aF:a.eval x=.func (.func f) vs #[]){d}{ty:TypeId}{pos}{after}{guard}:execOp a.eval ⟨d,.call ⟨.value x,xs,kB⟩,ty,pos,after,guard⟩=callFunc f ((vs.toList++xs.toList.map a.eval).toArray):=by
 have e1:(vs.toList++xs.toList.map a.eval).toArray=vs++xs.map a.eval:=by apply BL;simp
 rw[e1];simp[execOp,resolve,aF,Deferred.ofValue,invoke]
def agj{J}{h h'}{x}{xs}{kB}{f}{cs l}{s} (hx:∀w L g A,bA w L g J A x->af w L g (.eh f cs) (A x)) (hl:∀w L g A,(∀y∈xs.toList,bA w L g J A y)->b5 w L g l (xs.toList.map A)) (hc:oG P f (cs++l) h s h'):y7 P J h (.call ⟨.value x,xs,kB⟩) s h':=by intro w X g a d ty pos after guard O hF;have D:=hx w _ g a.eval (hF.iA x);have fP:=hl w _ g a.eval fun y _=>hF.iA y;generalize aF:a.eval x=vx at D;cases D with| @eh _ _ _ vs hlen co=>rw[Gp aF];refine(hc.ok w X g _ O ⟨by rw[c_,c_,fP.1,hlen];simp,fun i s v hs hv=>?_⟩).mono fun v w'⟨s1,E,V,⟨e1,e2⟩,a1,a2,a3⟩=>?_;rw[gr]at hs hv;rw[show vs.toList.length=cs.length by simp[hlen]]at hv;split at hs;grind;rename_i ai;rw[ay ai]at hv;exact fP.2 _ s v hs hv;grind
def amb(hV:ka P aH){J}{h h'}{r}{name}{xs}{kB}{f}{t:TypeId}{s0}{l}{s}(xI:(t,name,f)∈aH.MT) (hx:∀w L g A,bA w L g J A r->af w L g (.ifc t s0) (A r)) (hl:∀w L g A,(∀y∈xs.toList,bA w L g J A y)->b5 w L g l (xs.toList.map A)) (hc:oG P f (s0::l) h s h'):y7 P J h (.call ⟨.invoke r name,xs,kB⟩) s h':=by
 intro w X g a d ty pos after guard O hF;have D:=hx w _ g a.eval (hF.iA r);have fP:=hl w _ g a.eval fun y _=>hF.iA y;generalize aF:a.eval r=vx at D;cases D with
 | @ifc _ _ _ v jS=>
  refine bO.congr ?_ (Xo hV xI aF w);refine(hc.ok w X g _ O ⟨by simp[fP.1],fun i s v' hs hv=>?_⟩).mono fun v w'⟨s1,E,V,⟨e1,e2⟩,a1,a2,a3⟩=>?_;cases i with|zero=>simp_all|succ i=>exact fP.2 i s v' (by simpa using hs) (by simpa using hv)
  grind
def zG{n}{J}{l}{k}(h:ll (ia n J) l k):∃ss,k ss/\∀w L g A,(∀x∈l,bA w L g (eT n J) A x)->b5 w L g ss (l.map A):=by rw[GN]at h;exact nN h
def zE{n}{J}{x}{k}(h:ia n J x k):∃s,k s/\∀w L g A,bA w L g (eT n J) A x->af w L g s (A x):=by rw[GN]at h;exact bS h
def afs(hV:ka P aH){n}{J}{t:TypeId}{x}{xt:TypeId}{h}{K}(o:Lm aH n J t x K):∃s,K s/\y7 P (eT n J) h (.typeAssert x xt t true) s h:=by
 have⟨sx,o,hx⟩:=zE o;cases sx with
 |ifc ag s0=>
  have⟨b,hm,o⟩:=amf o;have⟨ms,i,hu,Q,xH⟩:=hV.it _ hm;simp only at hu Q xH;cases b with
  |true=>
   refine⟨_,o,fun w X g a d ty pos after guard O hF=>?_⟩;have D:=hx w _ g a.eval (hF.iA x);generalize aF:a.eval x=vx at D;cases D with
   | @ifc _ _ _ v jS=>
    unfold bO;have a7:(Instr.typeAssert (.iface ag v) xt t true).run P w=.ok (.tuple #[.iface ag v,.bool true]) w:=by exact acm
    have:(execOp a.eval ⟨d,.typeAssert x xt t true,ty,pos,after,guard⟩).run P w=.ok (.value (.tuple #[.iface ag v,.bool true])) w:=by exact acb
    rw[this];exact⟨g,oo (.ifc jS) .tt,O,.refl _ _ _⟩
  |false=>
   have⟨z,yG,o,hz,l8⟩:=Br hV.tab o;refine⟨_,o,fun w X g a d ty pos after guard O hF=>?_⟩;have D:=hx w _ g a.eval (hF.iA x);generalize aF:a.eval x=vx at D;cases D with
   | @ifc _ _ _ v jS=>
    unfold bO;have a7:(Instr.typeAssert (.iface ag v) xt t true).run P w=.ok (.tuple #[yG,.bool false]) w:=by exact RC
    have:(execOp a.eval ⟨d,.typeAssert x xt t true,ty,pos,after,guard⟩).run P w=.ok (.value (.tuple #[yG,.bool false])) w:=by exact acb
    rw[this];exact⟨g,oo (l8 _ _ _) .ff,O,.refl _ _ _⟩
 |_=>cases o
def aoH(hV:ka P aH){rec}(fE:sH P rec){m n}{J}{ad}{wr}{op}{K}(hm:m<=ad.view.length)(o:PM P aH rec m n J ad wr op K):∃s H' bt,K s H' bt/\y7 P (eT n J) ad.view op s H'.view/\oI m ad.view wr H'.view bt:=by
 cases op with
 |call c=>
  have⟨callee,xs,kB⟩:=c;cases callee with
  |value x=>have⟨sx,o,hx⟩:=zE o;cases sx with|fn f cs=>have⟨l,o,hl⟩:=zG o;have o:=iL o;have⟨s,H',wc,o,sZ,hle,hc⟩:=Gq hV fE o;have⟨bt,o,E,F⟩:=Po wc o;exact⟨s,H',bt,o,agk hx hl hc,E,fun i Q hn=>sZ i G fun hw=>hn (F i hw Q),hle⟩|eh f cs=>have⟨l,o,hl⟩:=zG o;have o:=iL o;have⟨s,H',wc,o,sZ,hle,hc⟩:=Gq hV fE o;have⟨bt,o,E,F⟩:=Po wc o;exact⟨s,H',bt,o,agj hx hl hc,E,fun i Q hn=>sZ i G fun hw=>hn (F i hw Q),hle⟩|_=>cases o
  |invoke r name=>have⟨sx,o,hx⟩:=zE o;cases sx with|ifc t s0=>have⟨f,xI,o⟩:=YA o;have⟨l,o,hl⟩:=zG o;have⟨s,H',wc,o,sZ,hle,hc⟩:=Gq hV fE o;have⟨bt,o,E,F⟩:=Po wc o;exact⟨s,H',bt,o,amb hV xI hx hl hc,E,fun i Q hn=>sZ i G fun hw=>hn (F i hw Q),hle⟩|_=>cases o
  |builtin b=>exact I1 hV hm o
 |typeAssert x xt t ok=>cases ok with|false=>exact I1 hV hm o|true=>have o:Bool.rec (motive:=fun _=>Prop) (Es aH m n J ad wr (.typeAssert x xt t true) K) (Lm aH n J t x fun s=>K s ad wr) (Oi aH.T t):=o;cases M:Oi aH.T t with|false=>rw[M]at o;exact I1 hV hm o|true=>rw[M]at o;have⟨s,o,E⟩:=afs hV (xt:=xt) (h:=ad.view) o;exact⟨s,ad,wr,o,E,.refl⟩
 |_=>exact I1 hV hm o
def cC.kr{w}{L}{g}{J}{a:Act}{d}{s}{v}(h:cC w L g J a.tmps)(D:af w L g s v):cC w L g (mB J d s) (a.put d v).tmps:=by cases d with|none=>exact h|some d=>exact h.set D
def aoN(hV:ka P aH){rec}(fE:sH P rec){m n}{ops}(l):∀{J ad wr K},m<=ad.view.length->opsV P aH rec m n ops.toList l J ad wr K->∃F' H' bt,K F' H' bt/\oI m ad.view wr H'.view bt/\∀w X g tmps,Inv w X g ad.view->cC w (Ex X g) g (eT n J) tmps->wpList P ops (jm m X w g (wq .normal (eT n F') H'.view)) l ⟨tmps,[]⟩ w:=by
 induction l with
 |nil=>intro J ad wr K _ o;exact⟨J,ad,wr,o,.refl,fun w X g tmps O hF=>⟨rfl,.normal,_,_,g,rfl,⟨rfl,rfl,rfl⟩,O,hF,.refl _ _ _⟩⟩
 |cons aa l ih=>
  intro J ad wr K hm o;have cF:Bm ops.toList n J aa.guard (PM P aH rec m n J ad wr aa.op fun s H' bt=>tL n J aa.dst s fun F'=>opsV P aH rec m n ops.toList l F' H' bt K)
   (tL n J aa.dst .undef fun F'=>opsV P aH rec m n ops.toList l F' ad wr K):=o
  rw[abO]at cF;obtain⟨b,o,hw⟩:=Ri cF;cases b with
  |true=>obtain⟨s,H1,m6,o,cX,hM⟩:=aoH hV fE hm o;obtain⟨F1,o,hp⟩:=I8 o;obtain⟨F',H',bt,o,MB,Dx⟩:=ih (dF hm hM.le) o;refine⟨F',H',bt,o,hM.trans MB,fun w X g tmps O hF=>?_⟩;unfold wpList;rw[au (hw w (Ex X g) g ⟨tmps,[]⟩ fun t _ s hs=>hF.get hs)];refine .inl ?_;obtain⟨d,op,ty,pos,after,guard⟩:=aa;refine E_ (cX w X g ⟨tmps,[]⟩ d ty pos after guard O hF) fun v w'⟨V,D,aE,hS⟩=>?_;have cB:=cC.kr (a:=⟨tmps,[]⟩) (d:=d) (hF.step hS (aC _)) D;rw[<-hp]at cB;have:=Dx w' X V ((Act.put ⟨tmps,[]⟩ d v).tmps) aE cB;exact acr
  |false=>
   simp only[dI,ek]at o;have⟨F1,o,hp⟩:=I8 o;have⟨F',H',bt,o,MB,Dx⟩:=ih hm o;refine⟨F',H',bt,o,MB,fun w X g tmps O hF=>?_⟩;unfold wpList;rw[ay (by rw[hw w (Ex X g) g ⟨tmps,[]⟩ fun t _ s hs=>hF.get hs];simp)];have cB:=cC.kr (a:=⟨tmps,[]⟩) (d:=aa.dst) (v:=Go.undef) hF .undef;rw[<-hp]at cB;have:=Dx w X g ((Act.put ⟨tmps,[]⟩ aa.dst Go.undef).tmps) O cB;have e:Act.put ⟨tmps,[]⟩ aa.dst Go.undef=⟨(Act.put ⟨tmps,[]⟩ aa.dst Go.undef).tmps,[]⟩:=by cases aa.dst<;>rfl
   grind
end
section
variable{P:Program} {T:aG}
def EG(x:SV)(kt:Nat->Nat->Prop)(kf:Prop):Prop:=match x with|.ra u aa=>kt u aa|_=>kf
def Jk{x kt kf}(h:EG x kt kf):(∃u aa,x=.ra u aa/\kt u aa)\/kf:=by cases x<;>first|exact .inl ⟨_,_,rfl,h⟩|exact .inr h
structure cc(P:Program)(t:TypeId)(u aa:Nat)(h:Hp)(K:bC):Prop where
 ok:∃s ws aJ,K s ws aJ/\(∀p∈ws,p.1∈aJ)/\∀(w:World)(X:Nat->Prop)(g:Sg)(F:Hp)(A:Operand->Value)(x:Operand)(d:Option Tmp)(ty:TypeId)(pos:String)(after:Array Edge)(guard:Option (Nat×Bool)),
  A x=.pointer (some ⟨u,aa,none⟩)->Inv w X g F->(∀i∈aJ,F[i]?=h[i]?)->ea P (execOp A ⟨d,.load t x,ty,pos,after,guard⟩) w X g F s ws
structure gV(P:Program)(t:TypeId)(u aa:Nat)(v:SV)(h:Hp)(K:bC):Prop where
 ok:∃s ws aJ,K s ws aJ/\(∀p∈ws,p.1∈aJ)/\∀(w:World)(X:Nat->Prop)(g:Sg)(F:Hp)(A:Operand->Value)(x y:Operand)(d:Option Tmp)(ty:TypeId)(pos:String)(after:Array Edge)(guard:Option (Nat×Bool)),
  A x=.pointer (some ⟨u,aa,none⟩)->af w (Ex X g) g v (A y)->Inv w X g F->(∀i∈aJ,F[i]?=h[i]?)->ea P (execOp A ⟨d,.store t x y,ty,pos,after,guard⟩) w X g F s ws
def YS(T:aG)(op:BinOp)(t:TypeId)(K:bC):Prop:=aX T t fun te=>match te.ti,op with|.ptr _,.eql=>K .ff [] []|.ptr _,.neq=>K .tt [] []|_,_=>False
def PE(T:aG)(h:Hp)(op:BinOp)(t:TypeId)(b:Nat)(K:bC)(kv:Prop):Prop:=match op with|.eql=>aX T t fun te=>(match te.ti with|.slice _=>av h b fun aT=>(match aT with|.row _ _ es=>K (.qb (es=[])) [] [b]|_=>False)|_=>kv)|_=>kv
def ag1(x y:SV)(amx:Prop)(ks:Nat->Prop)(kv kf:Prop):Prop:=match y with
 |.nilp=>(match x with|.ra _ _=>amx|_=>kf)
 |.nilm=>kv|.nili=>kv|.ifc _ _=>kv
 |.nils=>(match x with|.nils=>kv|.sl b=>ks b|.ss _ _ _=>kv|_=>kf)
 |_=>kf
def rlK(T:aG)(t:TypeId)(u n:Nat)(i:SV)(K:bC):Prop:=aX T t fun te=>match te.ti with|.slice e=>eQ T e fun q _=>(match i with|.int _ m=>(0<=m/\m<(n:Int))/\K (.ra u (m.toNat*q)) [] []|_=>False)|_=>False
def ixQ(x:SV)(u8:Nat->Nat->Prop)(kv kf:Prop):Prop:=match x with|.rl u n _=>u8 u n|.ss _ _ _=>kv|.tl _ _=>kv|_=>kf
def EY(x:SV)(kv kf:Prop):Prop:=match x with|.ss _ _ _=>kv|.tl _ _=>kv|.z0=>kv|_=>kf
def slQ(x:SV)(kv kf:Prop):Prop:=match x with|.sl _=>kv|.ss _ _ _=>kv|.z0=>kv|.nils=>kv|_=>kf
def XO(x:SV)(u8:Nat->Prop)(kv kf:Prop):Prop:=match x with|.rl _ n _=>u8 n|.ss _ _ _=>kv|.nilm=>kv|.z0=>kv|_=>kf
def al6(T:aG)(t:TypeId)(kt kf:Prop):Prop:=aX T t fun te=>match te.ti with|.map k _=>aX T k fun QY=>(match QY.ti with|.int _=>kt|_=>kf)|_=>False
structure aee(es:List IE)(seen:List Nat)(yes:Int->SV->Prop):Prop where
 ok:∃k v s,(k,v,s)∈es/\seen.getLast?=some s/\yes k v
def UB(h:Hp)(x:SV)(K:bC)(kf:Prop):Prop:=match x with
 |.it b=>av h b fun bw=>match bw with|.mit (some m) _ seen st=>av h m fun wp=>(match wp with|.imap es ck=>ck=st/\aee es seen fun k v=>K (.tup [.int .i64 k,v]) [] [b,m]|_=>kf)|_=>kf
 |_=>kf
def ain{J h x s K kf}(hx:∀w L g A,bA w L g J A x->af w L g s (A x))(o:UB h s K kf):aN P J h (.entry x) K\/kf:=by
 cases s with
 |it b=>
  obtain⟨bw,M,o⟩:=bg o;cases bw with
  |mit mb since seen st=>
   cases mb with
   |none=>exact .inr o
   |some mm=>
    obtain⟨wp,ki,o⟩:=bg o;cases wp with
    |imap es ck=>
     obtain⟨Hk,⟨k,v,m4,dd,oZ,o⟩⟩:=o;refine .inl ⟨_,_,_,o,fun w X g F A d ty ps after guard O I ap=>?_,sM⟩;obtain⟨u,ak,r,U,D⟩:=vt O ((ap b sM).trans M) (.inr ⟨_,_,_,_,rfl⟩);have VS:=(ap mm sM).trans ki;have o5:mm<g.length:=by rw[O.len];exact(ao.1 VS).1
     have u7:=aD o5;have aw:=O.ok mm _ _ VS u7;generalize g[mm]=Cw at u7 aw;cases Cw<;>simp only[aB]at aw;rename_i g5;obtain⟨iX,ms,p6,hlen,hM⟩:=aw;have o_:r=some g5:=by exact adn
     subst o_;have hv:A x=.pointer (some ⟨u,0,none⟩):=by have E:=hx w _ g A (I x rO);generalize aF:A x=vx at E;cases E with|it h'=>simp_all|ho h'=>simp_all
     obtain⟨i,g9⟩:=fx.1 dd;have cj:i<ms.size:=by rw[<-hlen];exact(ao.1 g9).1
     obtain⟨r1,r2,EE⟩:=hM i _ ms[i] g9 (c4 cj);have hf:ms.find? (fun m=>m.born==m4)=some ms[i]:=by
      rw[<-Array.find?_toList];have hex:(ms.toList.find? fun m=>m.born==m4).isSome=true:=by rw[List.find?_isSome];exact⟨ms[i],sM,by rw[EE];simp⟩
      obtain⟨m',bq⟩:=FE.1 hex;rw[bq];have hq:=List.find?_some bq;obtain⟨j,hj⟩:=fx.1 (Su bq);have dq:j<es.length:=by rw[hlen];simpa using(ao.1 hj).1
      have oY:=aD dq;obtain⟨_,_,q3⟩:=hM j _ m' oY (by grind);have e1:(es.map (·.2.2))[j]?=some m4:=by rw[bz,oY];simp only[nC];rw[<-q3];simpa using hq
      have e2:(es.map (·.2.2))[i]?=some m4:=by rw[bz,g9];rfl
      have:=(ue (by simpa using dq) iX.2.1).1 (e1.trans e2.symm);subst this;rw[eF,c4 cj]at hj;exact hj.symm
     have rL:af w (Ex X g) g (.int .i64 k) ms[i].key:=by rw[r1];exact .int
     refine dD (m:=Instr.entry (A x)) rfl (v:=.tuple #[ms[i].key,ms[i].val]) (w':=w) ?_ ⟨g,oo rL (r2.mono g (fun _ _ _=>rfl) (aC _) (fun _ _ h=>h) sM),O,.refl _ _ _,rfl⟩;exact ab1
    |_=>exact .inr o
  |_=>exact .inr o
 |_=>exact .inr o
def yD(x:SV)(kt:Nat->Nat->Prop)(kf:Prop):Prop:=match x with|.tl b m=>kt b m|_=>kf
def JQ{x kt kf}(h:yD x kt kf):(∃b m,x=.tl b m/\kt b m)\/kf:=by cases x<;>first|exact .inl ⟨_,_,rfl,h⟩|exact .inr h
def P6(x:SV)(kv kf:Prop):Prop:=match x with|.ptr _ _=>kv|_=>kf
def apX{x kv kf}(h:P6 x kv kf):kv\/kf:=by cases x<;>first|exact .inl h|exact .inr h
def P4(h:Hp)(x:SV)(kv kf:Prop):Prop:=match x with|.sl b=>av h b fun bw=>(match bw with|.prow _ _ _=>kv|_=>kf)|_=>kf
def apK{h x kv kf}(o:P4 h x kv kf):kv\/kf:=by cases x with|sl b=>obtain⟨bw,_,o⟩:=bg o;grind|_=>exact .inr o
def Ei(P:Program)(T:aG)(J:Fr)(h:Hp)(ae:Nat)(op:Op)(K:bC):Prop:=
 match op with
 |.nilCheck x=>az J x fun s=>EG s (fun u aa=>K (.ra u aa) [] []) (cH T J h ae (.nilCheck x) K)
 |.fieldAddr t x f=>az J x fun s=>EG s (fun u aa=>aX T t fun te=>match te.ti with
  |.struct fs=>av fs f fun p=>vm p.2.2 (K (.ra u (aa+p.1)) [] [])
  |_=>False) (cH T J h ae (.fieldAddr t x f) K)
 |.load t x=>az J x fun s=>EG s (fun u aa=>cc P t u aa h K) (de T false J h ae (.load t x) K)
 |.store t x v=>az J x fun s=>EG s (fun u aa=>az J v fun v=>gV P t u aa v h K) (cH T J h ae (.store t x v) K)
 |.indexAddr t x i=>az J x fun s=>yD s (fun b m=>aby T J h t b m i K) (ixQ s (fun u n=>az J i fun i=>rlK T t u n i K) (de T false J h ae (.indexAddr t x i) K) (de T false J h ae (.indexAddr t x i) K))
 |.slice t x lo Q mx=>az J x fun s=>yD s (fun b m=>abx T J h t b m lo Q mx K) (aaC s (fun u c=>arP T J t u c lo Q mx K) (slQ s (de T false J h ae (.slice t x lo Q mx) K) (cH T J h ae (.slice t x lo Q mx) K)))
 |.buildSlice t n ps=>(match ps.toList with|[p]=>az J p.2 fun s=>P6 s (de T false J h ae (.buildSlice t n ps) K) (cH T J h ae (.buildSlice t n ps) K)|_=>cH T J h ae (.buildSlice t n ps) K)
 |.binOp op t x y ag=>az J x fun s=>az J y fun s'=>ag1 s s' (YS T op t K) (fun b=>PE T h op t b K (de T false J h ae (.binOp op t x y ag) K)) (de T false J h ae (.binOp op t x y ag) K) (cH T J h ae (.binOp op t x y ag) K)
 |.makeMap t r=>(match r with|none=>al6 T t (K (.mp ae) [(ae,.imap [] 0)] [ae]) (de T false J h ae (.makeMap t none) K)|some _=>False)
 |.lookup t x y ok=>az J x fun m=>ob h m (fun b es _=>az J y fun key=>X4 T t b es key ok K) (de T false J h ae (.lookup t x y ok) K)
 |.mapUpdate t x y z=>az J x fun m=>ob h m (fun b es ck=>az J y fun key=>az J z fun v=>YC T t b es ck key v K) (de T false J h ae (.mapUpdate t x y z) K)
 |.range t x=>az J x fun m=>ob h m (fun b _ ck=>aai T ae t b ck K) (de T false J h ae (.range t x) K)
 |.build t ps=>aX T t fun te=>(match te.ti with|.array _ _=>de T false J h ae (.build t ps) K|_=>cH T J h ae (.build t ps) K)
 |.call ⟨.builtin .len,xs,kB⟩=>(match xs.toList,kB.toList with
  |[x],[t]=>az J x fun m=>yD m (fun b k=>QZ T h t b k K) (ob h m (fun b es _=>OL T t b es K) (XO m (fun n=>aX T t fun te=>match te.ti with|.slice _=>K (.int .i64 (n:Int)) [] []|_=>False)
   (de T false J h ae (.call ⟨.builtin .len,xs,kB⟩) K) (cH T J h ae (.call ⟨.builtin .len,xs,kB⟩) K)))
  |_,_=>False)
 |.call ⟨.builtin .append,xs,kB⟩=>(match xs.toList with
  |[x,y]=>az J x fun s=>az J y fun s'=>yD s (fun b m=>match kB.toList with|[t,ag]=>JP T h ae t ag b m s' K|_=>False) (P4 h s' (de T false J h ae (.call ⟨.builtin .append,xs,kB⟩) K) (EY s (de T false J h ae (.call ⟨.builtin .append,xs,kB⟩) K) (EY s' (de T false J h ae (.call ⟨.builtin .append,xs,kB⟩) K) (match kB.toList with|[t,ag]=>zg T false true (av h) ae t ag s s' K|_=>False))))
  |_=>False)
 |.call ⟨.builtin .delete,xs,kB⟩=>(match xs.toList,kB.toList with
  |[x,y],t::_=>az J x fun m=>ob h m (fun b es ck=>az J y fun key=>LV T t b es ck key K) (de T false J h ae (.call ⟨.builtin .delete,xs,kB⟩) K)
  |_,_=>False)
 |.call ⟨.builtin .clear,xs,kB⟩=>(match xs.toList,kB.toList with
  |[x],t::_=>az J x fun m=>ob h m (fun b _ ck=>LL T t b ck K) (de T false J h ae (.call ⟨.builtin .clear,xs,kB⟩) K)
  |_,_=>False)
 |.call ⟨.builtin .min,xs,kB⟩=>cH T J h ae (.call ⟨.builtin .min,xs,kB⟩) K
 |.call ⟨.builtin .max,xs,kB⟩=>cH T J h ae (.call ⟨.builtin .max,xs,kB⟩) K
 |.makeInterface t x=>de T false J h ae (.makeInterface t x) K
 |.typeAssert x ag t ok=>de T false J h ae (.typeAssert x ag t ok) K
 |.next x s=>de T false J h ae (.next x s) K
 |.entry x=>az J x fun s=>UB h s K (de T false J h ae (.entry x) K)
 |.mapEntry t x y=>az J x fun m=>ob h m (fun b es ck=>az J y fun key=>Yp T t b es ck key K) (de T false J h ae (.mapEntry t x y) K)
 |.entryStore t x y z=>az J x fun m=>ob h m (fun b es ck=>az J y fun st=>az J z fun v=>UM b es ck st v K) (de T false J h ae (.entryStore t x y z) K)
 |.makeFunc fn a b=>de T false J h ae (.makeFunc fn a b) K
 |.call c=>de T false J h ae (.call c) K
 |op=>cH T J h ae op K
def an7{T op}(h:qX T op=true):jX T op=true:=by unfold jX;grind
def acf{ab:Prop}(k:ab:=by generalize aF:A x=vx at D;cases D;rfl):ab:=k
def IW(hT:bl P T){J h ae op K}(hf:jX T op=true->h[ae]?=some .fresh)(o:Ei P T J h ae op K):aN P J h op K:=by
 have kk:cH T J h ae op K->aN P J h op K:=fun h'=>lz hT (fun bx=>hf (an7 bx)) h';have vv:de T false J h ae op K->aN P J h op K:=fun h'=>yk hT hf h';have x5:∀{x kt},(az J x fun m=>ob h m kt (de T false J h ae op K))->
  (∀b es ck,h[b]?=some (.imap es ck)->(∀w L g A,bA w L g J A x->af w L g (.mp b) (A x))->(∀k':SV->Prop,k' (.mp b)->az J x k')->kt b es ck->aN P J h op K)->aN P J h op K:=by
  intro x kt o p7
  obtain⟨m,o,hm,bq⟩:=eB o
  rcases Xb o with⟨b,es,ck,e,M,hq⟩|hq
  ·grind
  ·exact vv hq
 cases op with
 |nilCheck x=>
  obtain⟨s,o,hx,_⟩:=eB (show az J x _ from o);rcases Jk o with⟨u,aa,e,hq⟩|hq;subst e;exact ed hq fun w L g A d ty pos after guard I=>by have D:=hx w L g A (I x (by simp[Op.operands]));refine⟨A x,?_,D⟩;generalize aF:A x=vx at D;cases D;simp[execOp,aF]
  exact kk hq
 |fieldAddr t x f=>
  obtain⟨s,o,hx,_⟩:=eB (show az J x _ from o);rcases Jk o with⟨u,aa,e,hq⟩|hq;subst e;replace hq:=b4 hT hq;generalize ax:(bk P t).ti=ti at hq;cases ti with
  |struct fs=>
   obtain⟨fields,hu,jP,Di⟩:=vV (bm ax (by simp)).1;obtain⟨q,n2,hq⟩:=bg (show av fs f _ from hq);obtain⟨cW,hq⟩:=D9 hq;exact ed hq fun w L g A d ty pos after guard I=>by
    have D:=hx w L g A (I x (by simp[Op.operands]));have ha:A x=.pointer (some ⟨u,aa,none⟩):=by exact acf
    have hfa:(Instr.fieldAt t (A x) f).run P w=.ok (.pointer (some ((⟨u,aa,none⟩:Addr).add q.1))) w:=by subst jP;rw[bz,eF]at n2;cases xy:fields[f]? with|none=>simp_all|some CC=>rw[xy]at n2;simp at n2;subst n2;have am:=Di CC (by grind);obtain⟨i,Q⟩:=FE.1 am;exact J7
    refine⟨_,cu hfa,?_⟩;have:(⟨u,aa,none⟩:Addr).add q.1=⟨u,aa+q.1,none⟩:=by unfold Addr.add;split;simp_all;rfl
    rw[this];exact .ra
  |_=>exact hq.elim
  exact kk hq
 |load t x=>
  obtain⟨s,o,hx,_⟩:=eB (show az J x _ from o);rcases Jk o with⟨u,aa,e,hq⟩|hq;subst e;obtain⟨s,ws,aJ,hK,e4,p7⟩:=hq.ok;refine⟨s,ws,aJ,hK,fun w X g F A d ty pos after guard O I ap=>?_,e4⟩;have D:=hx w _ g A (I x (by simp[Op.operands]));have hv:A x=.pointer (some ⟨u,aa,none⟩):=by exact acf
  simp_all;exact vv hq
 |store t x y=>
  obtain⟨s,o,hx,_⟩:=eB (show az J x _ from o);rcases Jk o with⟨u,aa,e,hq⟩|hq;subst e;obtain⟨sy,hq,hy,_⟩:=eB (show az J y _ from hq);obtain⟨s,ws,aJ,hK,e4,p7⟩:=hq.ok;refine⟨s,ws,aJ,hK,fun w X g F A d ty pos after guard O I ap=>?_,e4⟩;have D:=hx w _ g A (I x (by simp[Op.operands]));have hv:A x=.pointer (some ⟨u,aa,none⟩):=by exact acf
  exact p7 w X g F A x y d ty pos after guard hv (hy w _ g A (I y (by simp[Op.operands]))) O ap;exact kk hq
 |indexAddr t x i=>
  obtain⟨s,o,hx,_⟩:=eB (show az J x _ from o);rcases JQ o with⟨b,m,e,hq⟩|o;subst e;exact at7 hT hx hq;have key:(∃u n c,s=.rl u n c/\az J i fun i=>rlK T t u n i K)\/de T false J h ae (.indexAddr t x i) K\/de T false J h ae (.indexAddr t x i) K:=by cases s<;>first|exact .inl ⟨_,_,_,rfl,o⟩|exact .inr (.inl o)|exact .inr (.inr o)
  rcases key with⟨u,n,c,e,hq⟩|hq|hq;subst e;obtain⟨si,hq,Q,_⟩:=eB hq;replace hq:=b4 hT hq;generalize ax:(bk P t).ti=ti at hq;cases ti with
  |slice e=>
   have hu:=fi (bm ax (by simp)).1;obtain⟨sz,h1,hq,_,hn⟩:=kY hT hq;cases si with
   |int q m=>
    obtain⟨⟨rY,m1⟩,hq⟩:=hq;exact ed hq fun w L g A d ty pos after guard I=>by
     have D:=hx w L g A (I x (by simp[Op.operands]));have dB:=Q w L g A (I i (by simp[Op.operands]));have hv:A x=.slice (some ⟨u,0,none⟩) n c:=by exact acf
     have n4:A i=.int q m:=by generalize aF:A i=vx at dB;cases dB;rfl
     refine⟨.pointer (some ⟨u,m.toNat*sz,none⟩),cu ?_,.ra⟩;rw[hv,n4];simp[Instr.indexAt,asIntOf,bB hu,hn w,rY,m1,lf]
   |_=>exact hq.elim
  |_=>exact hq.elim
  exact vv hq;exact vv hq
 |buildSlice t n ps=>have o:(match ps.toList with|[p]=>az J p.2 fun s=>P6 s (de T false J h ae (.buildSlice t n ps) K) (cH T J h ae (.buildSlice t n ps) K)|_=>cH T J h ae (.buildSlice t n ps) K):=o;match xN:ps.toList with|[p]=>rw[xN]at o;obtain⟨s,o,_,_⟩:=eB (show az J p.2 _ from o);exact(apX o).elim vv kk|[]=>simp_all|_::_::_=>simp_all
 |slice t x lo Q mx=>
  obtain⟨s,o,hx,_⟩:=eB (show az J x _ from o);rcases JQ o with⟨b,m,e,hq⟩|o;subst e;exact at6 hT hx hq;rcases arV o with⟨u,n,c,e,hq⟩|o;subst e;cases lo with
  |some _=>exact hq.elim
  |none=>
   cases Q with
   |none=>exact hq.elim
   |some y=>
    cases mx with
    |some _=>exact hq.elim
    |none=>
     obtain⟨sl,hq,hl⟩:=bS (show az J y _ from hq);cases sl with
     |int q k=>
      replace hq:=b4 hT (show aX T t _ from hq);generalize ax:(bk P t).ti=ti at hq;cases ti with
      |slice e=>
       have hu:=fi (bm ax (by simp)).1;obtain⟨sz,h1,hq,_,hn⟩:=kY hT (show eQ T e _ from hq);obtain⟨⟨h0,E⟩,hq⟩:=hq;exact ed hq fun w L g A d ty pos after guard I=>by
        have D:=hx w L g A (I x (by simp[Op.operands]));have dB:=hl w L g A (I y (by simp[Op.operands]));have hv:A x=.slice (some ⟨u,0,none⟩) n c:=by exact acf
        have n4:A y=.int q k:=by generalize aF:A y=vy at dB;cases dB;rfl
        have a7:=LO (P:=P) (w:=w) hu (hn w) (A:=A) (lo:=none) (Q:=some y) (a:=some ⟨u,0,none⟩) (m:=n) (c:=c) (.inl ⟨rfl,rfl⟩) (.inr ⟨y,rfl,q,n4⟩) (gF 0) h0 E;rw[<-hv]at a7;refine⟨_,cu (m:=Instr.sliceAt t (A x) ((none:Option Operand).map A) ((some y).map A) none) a7,?_⟩;have:(⟨u,0,none⟩:Addr).add (0*sz)=⟨u,0,none⟩:=by simp[Addr.add]
        simp only[nC,Int.toNat_zero,wh,this,ite_self];exact .rl
      |_=>exact hq.elim
     |_=>exact hq.elim
  have key:de T false J h ae (.slice t x lo Q mx) K\/cH T J h ae (.slice t x lo Q mx) K:=by cases s<;>first|exact .inl o|exact .inr o
  grind
 |binOp op t x y ag=>
  obtain⟨s,o,hx,_⟩:=eB (show az J x _ from o);obtain⟨s',o,hy,_⟩:=eB o;have key:(∃b,s=.sl b/\s'=.nils/\PE T h op t b K (de T false J h ae (.binOp op t x y ag) K))\/(∃u aa,s=.ra u aa/\s'=.nilp/\YS T op t K)\/de T false J h ae (.binOp op t x y ag) K\/cH T J h ae (.binOp op t x y ag) K:=by cases s'<;>first|exact .inr (.inr (.inl o))|exact .inr (.inr (.inr o))|(cases s<;>first|exact .inr (.inl ⟨_,_,rfl,rfl,o⟩)|exact .inl ⟨_,rfl,rfl,o⟩|exact .inr (.inr (.inl o))|exact .inr (.inr (.inr o)))
  rcases key with⟨b,e,e',hq⟩|⟨u,aa,e,e',hq⟩|hq|hq
  ·subst e;subst e';unfold PE at hq;split at hq;case h_2=>exact vv hq
   replace hq:=b4 hT hq;generalize ax:(bk P t).ti=ti at hq;cases ti with
   |slice e=>
    have hu:=fi (bm ax (by simp)).1;obtain⟨aT,M,hq⟩:=bg (show av h b _ from hq);cases aT with
    |row tt z es=>
     refine⟨_,_,_,hq,fun w X g F A d ty pos after guard O I ap=>?_,by simp⟩;have ra:=hx w _ g A (I x (by simp[Op.operands]));have rb:=hy w _ g A (I y (by simp[Op.operands]));have d1:=(ap b (by simp)).trans M;have fin:∀a n c,A x=.slice a n c->(a=none->es=[])->ea P (execOp A ⟨d,.binOp .eql t x y ag,ty,pos,after,guard⟩) w X g F (.qb (es=[])) []:=fun a n c Ae ha=>by
      have hyv:A y=.slice none 0 0:=by generalize A y=vy at rb;cases rb;rfl
      obtain⟨v,hv,D⟩:=L1 (L:=Ex X g) (g:=g) (op:=.eql) (w:=true) (.inl ⟨rfl,rfl⟩) (t:=t) (a:=A x) (b:=A y) (ox:=x) (oy:=y) (r:=a.isNone) (wd:=w) (by rw[Ae];simp) (GK (by rw[Ae];simp))
       (by rw[Ae,hyv];exact run_equal_slice_nil w t e a n c hu)
      refine dD rfl hv ⟨g,?_,O,.refl _ _ _,rfl⟩;cases a with|none=>cases D;exact .qb fun _=>ha rfl|some _=>cases D;exact .qb fun h=>by simp at h
     generalize Ae:A x=vx at ra;cases ra with|sl h'=>exact fin _ _ _ Ae (by simp)|dE h'=>have:=O.ok b _ _ d1 h';exact fin _ _ _ Ae fun _=>this|c9 h'=>have:=O.ok b _ _ d1 h';exact this.elim
    |_=>exact hq.elim
   |_=>exact vv hq
  subst e;subst e';obtain⟨te,hq,d5⟩:=gq T t _ (show aX T t _ from hq);have fin:∀s0,(s0=.ff\/s0=.tt)->K s0 [] []->q8 T op t (.ptr 0 aa) .nilp (· =s0)->aN P J h (.binOp op t x y ag) K:=fun s0 h0 hK dn=>by
   obtain⟨s1,e1,M⟩:=Lv hT dn;clear dn;subst e1;exact ed hK fun w L g A d ty pos after guard I=>by
    have D:=hx w L g A (I x (by simp[Op.operands]));have dB:=hy w L g A (I y (by simp[Op.operands]));have r1:af w L [.fix u] (.ptr 0 aa) (A x):=by generalize A x=vx at D;cases D;exact .ptr rfl
    have r2:af w L [.fix u] .nilp (A y):=by generalize A y=vx at dB;cases dB;exact .nilp
    obtain⟨v,hv,jS⟩:=M w L [.fix u] _ _ x y r1 r2;refine⟨v,cu hv,?_⟩;rcases h0 with rfl|rfl<;>cases jS<;>constructor
  generalize ax:te.ti=ti at hq;cases ti<;>try exact hq.elim
  cases op<;>first|exact hq.elim|exact fin _ (.inl rfl) hq (d5 _ (by simp only[ax]))|exact fin _ (.inr rfl) hq (d5 _ (by simp only[ax]))
  exact vv hq;exact kk hq
 |makeMap t r=>
  cases r with
  |some _=>exact o.elim
  |none=>
   obtain⟨te,o,_⟩:=gq T t _ (show aX T t _ from o);cases ax:te.ti<;>rw[ax]at o<;>try exact o.elim
   rename_i ma e0;obtain⟨QY,o,_⟩:=gq T ma _ (show aX T ma _ from o);have key:K (.mp ae) [(ae,.imap [] 0)] [ae]\/de T false J h ae (.makeMap t none) K:=by generalize QY.ti=ti at o;cases ti<;>first|exact .inl o|exact .inr o
   rcases key with hq|hq;have hf:=hf rfl;refine⟨_,_,_,hq,jH.conv (by simp) fun w X g F O ap=>⟨F,O,?_⟩⟩;have cE:F[ae]?=some .fresh:=(ap ae (by simp)).trans hf;refine Yh cE ?_;intro w' V ag hS bb be;refine⟨bb,?_⟩;have be:Inv w' X V (F.set ae (.mapB (([]:List IE).map eu) 0)):=be;exact tq cE (gW.nil 0) be;exact vv hq
 |lookup t x y ok=>refine x5 o fun b es ck M hm _ hq=>?_;obtain⟨key,hq,hy,_⟩:=eB hq;exact am8 hT M hm hy hq
 |mapUpdate t x y z=>refine x5 o fun b es ck M hm _ hq=>?_;obtain⟨key,hq,hy,_⟩:=eB hq;obtain⟨v,hq,hz,_⟩:=eB hq;exact anT hT M hm hy hz hq
 |range t x=>exact x5 o fun b es ck M _ bq hq=>are hT (hf rfl) M bq hq
 |build t ps=>
  obtain⟨te,o,_⟩:=gq T t _ (show aX T t _ from o);have key:de T false J h ae (.build t ps) K\/cH T J h ae (.build t ps) K:=by generalize te.ti=ti at o;cases ti<;>first|exact .inl o|exact .inr o
  exact key.elim vv kk
 |makeInterface t x=>exact vv o
 |typeAssert x ag t ok=>exact vv o
 |next x s=>exact vv o
 |entry x=>obtain⟨s,o,hx,_⟩:=eB (show az J x _ from o);rcases ain hx o with E|E;exact E;exact vv E
 |mapEntry t x y=>refine x5 o fun b es ck M hm _ hq=>?_;obtain⟨key,hq,hy,_⟩:=eB hq;exact anA hT M hm hy hq
 |entryStore t x y z=>refine x5 o fun b es ck M hm _ hq=>?_;obtain⟨st,hq,hy,_⟩:=eB hq;obtain⟨v,hq,hz,_⟩:=eB hq;exact ais M hm hy hz hq
 |makeFunc fn a b=>exact vv o
 |call c=>
  obtain⟨callee,xs,kB⟩:=c;cases callee with
  |builtin b=>
   cases b with
   |len=>
    have o:(match xs.toList,kB.toList with
     |[x],[t]=>az J x fun m=>yD m (fun b k=>QZ T h t b k K) (ob h m (fun b es _=>OL T t b es K) (XO m (fun n=>aX T t fun te=>match te.ti with|.slice _=>K (.int .i64 (n:Int)) [] []|_=>False)
      (de T false J h ae (.call ⟨.builtin .len,xs,kB⟩) K) (cH T J h ae (.call ⟨.builtin .len,xs,kB⟩) K)))
     |_,_=>False):=o
    match bv:xs.toList,bD:kB.toList with
    |[x],[t]=>
     rw[bv,bD]at o;obtain⟨m,o,hm,bq⟩:=eB (show az J x _ from o);rcases JQ o with⟨b,k,e,hq⟩|o;subst e;exact at8 hT bD bv hm hq;rcases Xb o with⟨b,es,ck,e,M,hq⟩|hq;subst e;exact amJ hT (t:=t) (by rw[bD];rfl) bv M bq hq;have key:(∃u n c,m=.rl u n c/\aX T t fun te=>match te.ti with|.slice _=>K (.int .i64 (n:Int)) [] []|_=>False)\/de T false J h ae (.call ⟨.builtin .len,xs,kB⟩) K\/cH T J h ae (.call ⟨.builtin .len,xs,kB⟩) K:=by cases m<;>first|exact .inl ⟨_,_,_,rfl,hq⟩|exact .inr (.inl hq)|exact .inr (.inr hq)
     rcases key with⟨u,n,c,e,hq⟩|hq|hq;subst e;replace hq:=b4 hT hq;generalize ax:(bk P t).ti=ti at hq;cases ti with
     |slice e=>
      have hu:=fi (bm ax (by simp)).1;have aj4:kB= #[t]:=by rw[<-yR (xs:=kB),bD]
      subst aj4;exact ed hq fun w L g A d ty pos after guard I=>by
       have D:=hm w L g A (I x (by simp[Op.operands,Call.operands];rw[<-qN,bv];simp));have hv:A x=.slice (some ⟨u,0,none⟩) n c:=by exact acf
       refine⟨.int .i64 (n:Int),?_,.int⟩;rw[sU,vk (l:=[A x]) (by rw[bv];rfl),BigFrame.builtin_len];exact cu (by simp[Builtin.len_,bB hu,goInt,hv])
     |_=>exact hq.elim
     exact vv hq;exact kk hq
    |[],_=>rw[bv]at o;exact o.elim
    |_::_::_,_=>rw[bv]at o;exact o.elim
    |[_],[]=>rw[bv,bD]at o;exact o.elim
    |[_],_::_::_=>rw[bv,bD]at o;exact o.elim
   |append=>
    have o:(match xs.toList with|[x,y]=>az J x fun s=>az J y fun s'=>yD s (fun b m=>match kB.toList with|[t,ag]=>JP T h ae t ag b m s' K|_=>False) (P4 h s' (de T false J h ae (.call ⟨.builtin .append,xs,kB⟩) K) (EY s (de T false J h ae (.call ⟨.builtin .append,xs,kB⟩) K) (EY s' (de T false J h ae (.call ⟨.builtin .append,xs,kB⟩) K) (match kB.toList with|[t,ag]=>zg T false true (av h) ae t ag s s' K|_=>False))))|_=>False):=o;match bv:xs.toList with
    |[x,y]=>
     rw[bv]at o;obtain⟨s,o,hx,_⟩:=eB (show az J x _ from o);obtain⟨s',o,hy,_⟩:=eB o;rcases JQ o with⟨b,m,e,hq⟩|o;subst e;match bD:kB.toList with|[t,ag]=>rw[bD]at hq;exact at5 hT (hf rfl) bv bD hx hy hq|[]=>rw[bD]at hq;exact hq.elim|[_]=>rw[bD]at hq;exact hq.elim|_::_::_::_=>rw[bD]at hq;exact hq.elim
     rcases apK o with o|o;exact vv o;have q:∀{s a b},EY s a b->a\/b:=fun{s a b}h=>by cases s<;>first|exact .inl h|exact .inr h
     rcases q o with hq|hq;exact vv hq;rcases q hq with hq|hq;exact vv hq;match bD:kB.toList with|[t,ag]=>rw[bD]at hq;exact Lg hT (hf rfl) bv bD hx hy hq|[]=>rw[bD]at hq;exact hq.elim|[_]=>rw[bD]at hq;exact hq.elim|_::_::_::_=>rw[bD]at hq;exact hq.elim
    |[]=>rw[bv]at o;exact o.elim
    |[_]=>rw[bv]at o;exact o.elim
    |_::_::_::_=>rw[bv]at o;exact o.elim
   |delete=>have o:(match xs.toList,kB.toList with|[x,y],t::_=>az J x fun m=>ob h m (fun b es ck=>az J y fun key=>LV T t b es ck key K) (de T false J h ae (.call ⟨.builtin .delete,xs,kB⟩) K)|_,_=>False):=o;match bv:xs.toList,bD:kB.toList with|[x,y],t::l=>rw[bv,bD]at o;refine x5 o fun b es ck M _ bq hq=>?_;obtain⟨key,hq,_,DH⟩:=eB hq;exact ahw hT (t:=t) (by rw[bD];rfl) bv M bq DH hq|[],_=>rw[bv]at o;exact o.elim|[_],_=>rw[bv]at o;exact o.elim|_::_::_::_,_=>rw[bv]at o;exact o.elim|[_,_],[]=>rw[bv,bD]at o;exact o.elim
   |clear=>have o:(match xs.toList,kB.toList with|[x],t::_=>az J x fun m=>ob h m (fun b _ ck=>LL T t b ck K) (de T false J h ae (.call ⟨.builtin .clear,xs,kB⟩) K)|_,_=>False):=o;match bv:xs.toList,bD:kB.toList with|[x],t::l=>rw[bv,bD]at o;exact x5 o fun b es ck M _ bq hq=>agZ hT (t:=t) (by rw[bD];rfl) bv M bq hq|[],_=>rw[bv]at o;exact o.elim|_::_::_,_=>rw[bv]at o;exact o.elim|[_],[]=>rw[bv,bD]at o;exact o.elim
   |min=>exact kk o
   |max=>exact kk o
   |_=>exact vv o
  |value x=>exact vv o
  |invoke r m=>exact vv o
 |_=>exact kk o
end
section
variable{P:Program} {T:aG}
def JX{α:Type}(l:List (Nat×α)):∀{h:List α}{r:Nat},(∀p∈l,p.1≠r)->(l.foldl (fun h p=>h.set p.1 p.2) h)[r]?=h[r]?:=by induction l with|nil=>intro h r _;rfl|cons p l ih=>intro h r D;rw[FA,ih fun q hq=>D q (by simp[hq]),bu,ay (D p sM)]
def Rf{α:Type}(l:List (Nat×α)):∀{h:List α},(l.map (·.1)).Nodup->∀p∈l,p.1<h.length->(l.foldl (fun h p=>h.set p.1 p.2) h)[p.1]?=some p.2:=by induction l with|nil=>simp_all|cons q l ih=>intro h hn p hp ai;rw[mI,SG]at hn;rw[FA];rcases gE.1 hp with rfl|hp;rw[JX l fun r D H=>hn.1 (by grind),bu,au rfl,au ai];grind
def abJ{α:Type}(l:List (Nat×α)):∀{h:List α},(l.foldl (fun h p=>h.set p.1 p.2) h).length=h.length:=by induction l<;>simp_all
def eL.run{f}{args bH}{am}{R}(hs:eL P f args am R){A}{h}(hn:A.Nodup)(ha:wK A args bH True)(hh:DP h A am True) {w}{X}{g}{F}{vs}(O:Inv w X g F)(dz:∀j∈A,F[j]?=h[j]?)(D:b5 w (Ex X g) g bH vs):bO P (callFunc f vs.toArray) w fun v w'=>∃s I V,R s I/\eK s/\af w' (Ex X V) V s v/\Inv w' X V (back A I F)/\Step g.length w g w' V:=by
 obtain⟨_,hlen,oX⟩:=Xl A hh;have We:∀i j b,A[i]?=some j->am[i]?=some b->F[j]?=some b:=fun i j b Q M=>by rw[dz j (bN Q)];exact oX i j b Q M
 have ai:∀j∈A,j<g.length:=by
  intro j hj;obtain⟨i,Q⟩:=fx.1 hj;have cj:i<am.length:=by rw[<-hlen];exact(ao.1 Q).1
  rw[O.len];exact(ao.1 (We i j _ Q (aD cj))).1
 have nZ:∀(i:Nat)(e:ba),(k4 g A)[i]?=some e->∃j,A[i]?=some j/\g[j]?=some e:=by intro i e H;simp only[k4,bz]at H;cases hj:A[i]? with|none=>simp_all|some j=>grind
 have M5:∀(i j:Nat)(e:ba),A[i]?=some j->g[j]?=some e->(k4 g A)[i]?=some e:=by intro i j e Q H;simp[k4,Q,List.getD,H]
 have u3:∀u,bM (k4 g A) u->bM g u:=fun u⟨i,e,H,U⟩=>by obtain⟨j,_,hj⟩:=nZ i e H;exact⟨j,e,hj,U⟩
 let X0:Nat->Prop:=fun u=>Ex X g u/\¬bM (k4 g A) u;have lc:∀u,Ex X0 (k4 g A) u↔Ex X g u:=fun u=>by constructor;rintro(⟨E,_⟩|E);exact E;exact .inr (u3 u E);intro E;by_cases F:bM (k4 g A) u;exact .inr F;exact .inl ⟨E,F⟩
 have Nv:∀u,Ex X g u->u<w.heap.size:=fun u hx=>hx.elim (O.df u) fun⟨i,e,H,U⟩=>O.lt i e u H U;have avT:∀(i i' j:Nat),A[i]?=some j->A[i']?=some j->i=i':=by intro i i' j Q f_;exact(ue (ao.1 Q).1 hn).1 (Q.trans f_.symm)
 have kh:Inv w X0 (k4 g A) am:=by refine⟨by simp[k4,hlen],fun i b e M H=>?_,fun i e u H U=>?_,fun i i' e e' u H aK U bP=>?_,fun u hx=>hx.2,fun u hx=>Nv u hx.1⟩;obtain⟨j,hj,H⟩:=nZ i e H;exact(O.ok j b e (We i j b hj M) H).free (hs.fin b (bN M)) fun u hx=>(lc u).1 hx;obtain⟨j,_,H⟩:=nZ i e H;exact O.lt j e u H U;obtain⟨j,hj,H⟩:=nZ i e H;obtain⟨j',p9,aK⟩:=nZ i' e' aK;have:=O.inj j j' e e' u H aK U bP;grind
 have hW:=(afl args ha).2 w (Ex X g) (Ex X0 (k4 g A)) g vs (fun u hx=>(lc u).1 hx) ai D;refine(hs.ok w X0 (k4 g A) vs kh hW).mono fun v w'⟨s,I,b0,hR,HG,jP,zP,bb,ct,hS⟩=>?_;have W6:b0.length=A.length:=by rw[ct.len,HG,hlen]
 have awf:(A.zip b0).map (·.1)=A:=by rw[BN];omega
 have awe:(A.zip I).map (·.1)=A:=by rw[BN];omega
 let V:Sg:=(A.zip b0).foldl (fun h p=>h.set p.1 p.2) g;have dg:V.length=g.length:=abJ _;have awo:∀i,i∉A->V[i]?=g[i]?:=fun i Q=>JX _ fun p hp H=>Q (by grind);have akX:∀i,i∉A->(back A I F)[i]?=F[i]?:=fun i Q=>oB _ fun p hp H=>Q (by grind);have zT:∀i j e,A[i]?=some j->b0[i]?=some e->V[j]?=some e:=fun i j e Q H=>by have hm:(j,e)∈A.zip b0:=bN (i:=i) (by rw[ug];exact⟨Q,H⟩);exact Rf _ (by grind) (j,e) hm (ai j (bN Q))
 have Nk:∀i j b,A[i]?=some j->I[i]?=some b->(back A I F)[j]?=some b:=fun i j b Q M=>by have hm:(j,b)∈A.zip I:=bN (i:=i) (by rw[ug];exact⟨Q,M⟩);exact abH _ (by grind) (j,b) hm (by grind)
 have rP:∀i e,V[i]?=some e->(i∉A/\g[i]?=some e)\/(∃k:Nat,A[k]?=some i/\b0[k]?=some e):=by
  intro i e H;by_cases Q:i∈A;have⟨k,o⟩:=fx.1 Q;have km:k<b0.length:=by rw[W6];exact(ao.1 o).1
  grind;grind
 have Af:∀i e u,i∉A->g[i]?=some e->e.owns u->X0 u:=by intro i e u Q H U;refine⟨.inr ⟨i,e,H,U⟩,fun⟨k,e',aK,bP⟩=>?_⟩;have⟨j,hj,aK⟩:=nZ k e' aK;have:=O.inj i j e e' u H aK U bP;subst this;exact Q (bN hj)
 have CO:∀u,Ex X V u->Ex X0 b0 u:=by exact J3
 have ca:Step g.length w g w' V:=by
  refine⟨hS.os,hS.tape,hS.output,hS.size,fun u U I=>hS.frame u U fun h=>I (u3 u h),fun u⟨i,e,H,U⟩qa=>?_,fun i e Q H hf=>?_⟩;exact RK;by_cases f_:i∈A;have⟨k,o⟩:=fx.1 f_;have km:k<am.length:=by rw[<-hlen];exact(ao.1 o).1
  exact(hS.g_ k e km (M5 k i e o H) hf).imp (zT k i _ o) (zT k i _ o);grind
 refine⟨s,I,V,hR,jP,bb.le CO V,⟨by rw[dg,O.len];exact(pB _).symm,fun i b e M H=>?_,fun i e u H U=>?_,fun i j e e' u Q hj U bP=>?_,fun u hx br=>?_,fun u hx=>fj (O.df u hx) hS.size⟩,ca⟩;rcases rP i e H with⟨Q,H⟩|⟨k,o,H⟩;rw[akX i Q]at M;refine(O.ok i b e M H).step ca (aC _) fun u U=>hS.frame u (O.lt i e u H U) fun br=>(Af i e u Q H U).2 br
 have km:k<I.length:=by rw[HG,<-hlen];exact(ao.1 o).1
 rw[Nk k i _ o (aD km)]at M;simp at M;subst M;exact(ct.ok k _ e (aD km) H).free (zP _ (Kq km)) CO;exact acS;exact adE;have⟨i,e,H,U⟩:=br;exact RE
def eL.call{f}{args bH}{am}{R}(hs:eL P f args am R)(A)(hn:A.Nodup){h}{K} (ha:wK A args bH True)(hh:DP h A am True)(o:∀s I,R s I->Tz A I h (K s)):aq P f bH h K:=
 ⟨fun _ _ _ _ O D=>(hs.run hn ha hh O (fun _ _=>rfl) D).mono fun _ _⟨s,I,V,hR,_,bb,aE,hS⟩=>⟨s,_,V,afF A (o s I hR),bb,aE,hS⟩⟩
def eL.cA{f}{args bH}{am}{s}{I}(hs:eL P f args am fun s' bf=>s'=s/\bf=I)(A)(hn:A.Nodup){h}{ae}{K} (hl:I.length=A.length)(ha:wK A args bH True)(hh:DP h A am True)(o:K s (A.zip I) A):oF P f bH h ae K:=
 ⟨s,A.zip I,A,o,⟨fun _ _ _ _ _ O D dz=>(hs.run hn ha hh O dz D).mono fun _ _⟨s',bf,V,⟨e1,e2⟩,_,bb,aE,hS⟩=>by
  subst e1;subst e2
  exact⟨V,bb,aE,hS,by rw[aE.len,O.len];exact pB _⟩,fun p hp=>(List.of_mem_zip hp).1⟩⟩
def eL.len{f}{args}{am}{R}(hs:eL P f args am R):eL P f args am fun s I=>R s I/\I.length=am.length:=
 ⟨hs.fin,fun w X g vs O DB=>(hs.ok w X g vs O DB).mono fun _ _⟨s,I,V,E,F,h3⟩=>⟨s,I,V,⟨E,F⟩,F,h3⟩⟩
def apZ{l}{k k'}(o:k->k'):qB l k->qB l k':=by induction l with|nil=>exact o|cons x l ih=>intro h;have h:=h;show I7 x (qB l k');cases x<;>first|cases h|exact ih h
def eL.pure{f}{args}{R}(hs:eL P f args [] R)(ha:xb args True):aY P f args fun s=>R s []:=by
 have VO:∀l,xb l True->wK [] l l True:=by intro l;induction l with|nil=>intro _;trivial|cons x l ih=>intro h;have h:=h;show Lh [] x x (wK [] l l True);cases x<;>first|cases h|exact⟨rfl,ih h⟩|exact⟨rfl,apZ ih h⟩
 refine⟨fun h K o=>hs.len.call [] sM (VO args ha) trivial fun s I hR=>?_⟩;have⟨hR,hl⟩:=hR;have:I=[]:=List.length_eq_zero_iff.1 hl;subst this;exact o s hR
end
open Go.ChangeShapes Go.WideShapes Go.ChangeAt
section
variable{ad:Type} {enc:TypeId×Value->ad} {P:Program} {W:World} {base:Nat} {spare:Nat->Bool} {held:Bool}
def afX{w:World}{a}{v}(h:w.cell? a=some v):a.block<w.heap.size:=by unfold World.cell? at h;grind
def rowOf(k:IntKind)(ls:List Int):List (List SV):=ls.map fun z=>[.int k z]
def arF{w}{k}{x}{len cap}{zs:List Int}(hl:len<=cap)(hm:cap<=maxLen)(hz:len<=zs.length)(d2:∀i,i<zs.length->w.cell? (x.add i)=some (.int k (zs.getD i 0))):af w (fun _=>False) [] (.rs 1 (rowOf k (zs.take len))) (.slice (some x) len cap):=by
 have gJ:(rowOf k (zs.take len)).length=len:=by simp[rowOf,Kx hz]
 cases hlen:len with
 |zero=>
  have:rowOf k (zs.take 0)=[]:=by simp[rowOf]
  rw[this];exact .hJ hm
 |succ n=>
  have h0:=d2 0 G;have ai:=afX h0;rw[ze]at ai;have bc:∀i e,(rowOf k (zs.take len))[i]?=some e->i<zs.length/\e=[.int k (zs.getD i 0)]:=by
   intro i e H;have Q:i<len:=by rw[<-gJ];exact(ao.1 H).1
   have Wf:i<zs.length:=G;simp only[rowOf,bz,je,au Q,aD Wf,nC,BH]at H;exact⟨Wf,by simp_all⟩
  have key:af w (fun _=>False) [] (.rs 1 (rowOf k (zs.take len))) (.slice (some x) (rowOf k (zs.take len)).length cap):=by
   refine .rs (val:=fun i _=>.int k (zs.getD i 0)) (by omega) hm (fun h=>h) ai (fun i e H=>by grind) (fun i e j s H hs=>?_) (fun i e j s H hs=>rfl) (fun i e j s H hs=>?_);all_goals obtain⟨Q,rfl⟩:=bc i e H
   all_goals
    have hj:j=0:=by
     have:=(ao.1 hs).1
     simpa using this
    subst hj
   simp_all;simp at hs;subst hs;exact .int
  simp_all
def afk{t e:TypeId}{k}{b}{v}{d}{p}(ht:P.underlying t=some (.slice e))(H:P.underlying e=some (.int k))(hc:P.cellsOf e=1) (hv:Value.okWide P W .any b t v)(h:DataW.Trod enc P W base spare held t v d p):∃ls:List Int,(∀z∈ls,(Lit.int k z).wf=true)/\af W (fun _=>False) [] (.rs 1 (rowOf k ls)) v:=by obtain⟨a0,amI,Ca,rfl⟩:=okWide_slice ht hv;have⟨fuel,hf⟩:=h;rcases open_ints ht H hc hf with⟨co,_⟩|⟨x,l,c,zs,co,_,hl,hm,hz,_,d2,m3⟩;simp[Value.cells]at co;obtain⟨rfl,rfl,rfl⟩:=co;exact⟨[],sM,.hJ (cx _)⟩;simp[Value.cells]at co;obtain⟨rfl,rfl,rfl⟩:=co;exact⟨zs.take amI,fun z hz=>m3 z (Sm hz),arF hl hm (by grind) d2⟩
end
section
variable{P:Program} {T:aG}
def BU(s:SV):Prop:=∀w L E' g V v,af w L g s v->af w E' V s v
def Jy(s:SV)(k:Prop):Prop:=match s with|.int _ _=>k|.tt=>k|.ff=>k|.bool _=>k|.str _=>k|.nilp=>k|.nils=>k|_=>False
def aaT(l:List SV)(k:Prop):Prop:=List.rec k (fun x _ ih=>Jy x ih) l
def Qy(s:SV)(k:Prop):Prop:=match s with|.agg cs=>aaT cs k|s=>Jy s k
def aaS(l:List SV)(k:Prop):Prop:=List.rec k (fun x _ ih=>Qy x ih) l
def Qz(s:SV)(k:Prop):Prop:=match s with|.tup vs=>aaS vs k|s=>Qy s k
def aaP{s}{k}(h:Jy s k):k/\BU s:=by cases s<;>simp only[Jy]at h<;>first|cases h|(refine⟨h,fun w L E' g V v D=>?_⟩;cases D;constructor)
def asI{l}{k}(h:aaT l k):k/\∀s∈l,BU s:=by induction l with|nil=>exact⟨h,sM⟩|cons x l ih=>have⟨E,F⟩:=aaP h;have⟨h3,h4⟩:=ih E;simp_all
def aaQ{s}{k}(h:Qy s k):k/\BU s:=by
 cases s with
 |agg cs=>have⟨E,F⟩:=asI h;refine⟨E,fun w L E' g V v D=>?_⟩;cases D with|agg hl I hc=>exact .agg hl I fun i s v hs hv=>F s (bN hs) w L E' g V v (hc i s v hs hv)
 |_=>exact aaP h
def asH{l}{k}(h:aaS l k):k/\∀s∈l,BU s:=by induction l with|nil=>exact⟨h,sM⟩|cons x l ih=>have⟨E,F⟩:=aaQ h;have⟨h3,h4⟩:=ih E;simp_all
def aaR{s}{k}(h:Qz s k):k/\BU s:=by
 cases s with
 |tup cs=>have⟨E,F⟩:=asH h;refine⟨E,fun w L E' g V v D=>?_⟩;cases D with|tup hl hc=>exact .tup hl fun i s v hs hv=>F s (bN hs) w L E' g V v (hc i s v hs hv)
 |_=>exact aaQ h
def amQ(h:Hp)(s s':SV)(k:Prop):Prop:=
 match s' with
 |.sl b=>match s with
  |.rs z es=>av h b fun aT=>match aT with|.row _ z' aS=>bd z' z (aS=es/\k)|_=>False
  |_=>False
 |s'=>s'=s/\mU s k
def yc(h:Hp)(l:List SV):List SV->Prop->Prop:=
 List.rec (fun l' k=>List.rec k (fun _ _ _=>False) l')
  (fun s _ ih l' k=>List.rec False (fun s' t' _=>amQ h s s' (ih t' k)) l') l
def XT(l:List SV):(List Nat->Prop)->Prop:=
 List.rec (fun k=>k []) (fun s _ ih k=>match s with|.sl b=>ih fun r=>k (b::r)|_=>ih k) l
def tw(l:List SV):List Nat:=l.filterMap fun s=>match s with|.sl b=>some b|_=>none
def amW{l}:∀{k},XT l k->k (tw l):=by induction l with|nil=>intro k h;exact h|cons s l ih=>intro k h;cases s with|sl b=>exact ih (k:=fun r=>k (b::r)) h|_=>exact ih (k:=k) h
def amR{h}(l):∀{l' k},yc h l l' k->k/\∀w X g F vs,Inv w X g F->(∀b∈tw l',F[b]?=h[b]?)->b5 w (Ex X g) g l' vs->b5 w (fun _=>False) [] l vs:=by
 induction l with
 |nil=>intro l' k o;cases l' with|nil=>exact⟨o,fun w X g F vs _ _ D=>⟨D.1,sM⟩⟩|cons x t=>cases o
 |cons s l ih=>
  intro l' k o;cases l' with
  |nil=>cases o
  |cons s' l'=>
   have key:yc h l l' k/\∀w X g F v,Inv w X g F->(∀b∈tw [s'],F[b]?=h[b]?)->af w (Ex X g) g s' v->af w (fun _=>False) [] s v:=by
    have same:(s'=s/\mU s (yc h l l' k))->yc h l l' k/\∀w X g F v,Inv w X g F->(∀b∈tw [s'],F[b]?=h[b]?)->af w (Ex X g) g s' v->af w (fun _=>False) [] s v:=by rintro⟨e,o⟩;subst e;have⟨o,hf⟩:=xa o;exact⟨o,fun w X g F v _ _ D=>(hf w _ g [] v D).le (fun _ h=>h.elim) []⟩
    cases s' with
    |sl b=>
     cases s with
     |rs z es=>
      have⟨aT,M,o⟩:=bg o;cases aT with
      |row t z' aS=>
       have⟨e1,e2,aU⟩:=b2 o;subst e1;subst e2;refine⟨aU,fun w X g F v O dz D=>?_⟩;have d1:F[b]?=some (.row t z' aS):=by rw[dz b (by simp[tw])];exact M
       have ai:b<g.length:=by rw[O.len];exact(ao.1 d1).1
       have cS:=aD ai;exact Jv cS (O.ok b _ _ d1 cS) (fun _ h=>h.elim) (fun _ _ h=>h) (fun u U=>O.lt b _ u cS U) D
      |_=>cases o
     |_=>cases o
    |_=>exact same o
   have⟨o,E⟩:=key;have⟨o,F⟩:=ih o;refine⟨o,fun w X g hh vs O dz D=>?_⟩;cases vs with|nil=>exact absurd D.1 sM|cons v vs=>refine Qp (E w X g hh v O (fun b M=>dz b ?_) (D.2 0 _ _ rfl rfl)) (F w X g hh vs O (fun b M=>dz b ?_) ⟨by simpa using D.1,fun i a c ha hc=>D.2 (i+1) a c (by simpa using ha) (by simpa using hc)⟩);simp only[tw,FJ,gE]at M⊢;grind;simp only[tw,FJ,gE]at M⊢;grind
def aY.XQ{f}{args bH}{R}(hs:aY P f args R){h}(ha:yc h args bH True){w}{X}{g}{F}{vs} (O:Inv w X g F)(dz:∀b∈tw bH,F[b]?=h[b]?)(D:b5 w (Ex X g) g bH vs):bO P (callFunc f vs.toArray) w fun v w'=>∃s,R s/\(∃L V,af w' L V s v)/\Inv w' X g F/\Step g.length w g w' g:=by have kh:Inv w (fun _=>False) [] []:=⟨rfl,sM,sM,sM,fun u h=>h.elim,fun u h=>h.elim⟩;have hW:=(amR args ha).2 w X g F vs O dz D;have l7:b5 w (Ex (fun _=>False) []) [] args vs:=⟨hW.1,fun i s v hs hv=>(hW.2 i s v hs hv).mono [] (fun _ _ _=>rfl) (aC _) (fun u _ _ h=>L4.1 h) sM⟩;refine((hs.ok [] (fun s _=>R s) fun s h=>h).ok w (fun _=>False) [] vs kh l7).mono fun v w'⟨s,h',V,hR,bb,_,hS⟩=>?_;have⟨be,b_⟩:=O.same hS;grind
def aY.amP{f}{args bH}{R}(hs:aY P f args R){h}{K}(ha:yc h args bH True)(o:∀s,R s->Qz s (K s h)):aq P f bH h K:=
 ⟨fun _ _ _ _ O D=>(hs.XQ ha O (fun _ _=>rfl) D).mono fun _ _⟨s,hR,⟨_,_,bb⟩,aE,hS⟩=>by
  have⟨o,NU⟩:=aaR (o s hR)
  exact⟨s,h,_,o,NU _ _ _ _ _ _ bb,aE,hS⟩⟩
def aY.XR{f}{args bH}{s}(hs:aY P f args (· =s)){h}{ae}{K}(ha:yc h args bH True)(o:Qz s (XT bH (K s []))):oF P f bH h ae K:=by obtain⟨o,NU⟩:=aaR o;exact⟨s,[],tw bH,amW o,⟨fun _ _ g _ _ O D dz=>(hs.XQ ha O dz D).mono fun _ _⟨s',e,⟨_,_,bb⟩,aE,hS⟩=>by subst e;exact⟨g,NU _ _ _ _ _ _ bb,aE,hS,rfl⟩,sM⟩⟩
end
