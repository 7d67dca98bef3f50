/- Lemmas for TopZ; tactic blocks in binders fill in some arguments. -/
import Derived.Lib.SliceRun
import Derived.Great.FillDense
import Derived.Great.BuildSlice
import Derived.Lib.Strings
import Derived.Laws.IdiomStrings
import Derived.Laws.Cover1
import Derived.Test.YtfkepgkmobgleaaGreatDoorP00
set_option linter.all false
noncomputable section
namespace Go.Sx
section
variable{P:Program} {T:aG}
def tG(hT:bl P T){cs off}{t:TypeId}{k}(h:r7 T cs off t k):∃s n b,k s/\(∀w,(isAgg t).run P w=.ok b w)/\(∀w,(sizeOf t).run P w=.ok n w)/\(b=true->s=.agg ((cs.drop off).take n)/\off+n<=cs.length)/\(b=false->cs[off]?=some s):=by unfold r7 at h;have⟨n,b,h,M,hn⟩:=kY hT h;cases b with|true=>have⟨E,h⟩:=Ct h;have⟨F,h⟩:=yB h;exact⟨_,n,true,h,M,hn,fun _=>⟨rfl,by simp at F;omega⟩,fun h=>by simp at h⟩|false=>have⟨s,E,h⟩:=bg h;simp_all
def Av{w}{L}{g}{cs:List SV}{off}{t:TypeId}{s}{n}{b}{a}(val:Nat->Value) (M:(isAgg t).run P w=.ok b w)(hn:(sizeOf t).run P w=.ok n w)(E:b=true->s=.agg ((cs.drop off).take n)/\off+n<=cs.length)(F:b=false->cs[off]?=some s) (hc:∀j s,cs[off+j]?=some s->w.cell? (a.add j)=some (val j)/\af w L g s (val j)/\(val j).oneCell'=true):∃v,(loadVar t a).run P w=.ok v w/\af w L g s v:=by
 unfold loadVar;cases b with
 |true=>obtain⟨rfl,hlen⟩:=E rfl;have bc:∀j,j<n->∃s,cs[off+j]?=some s:=fun j hj=>⟨cs[off+j]'(by omega),aD (by omega)⟩;have hl:=run_loadCells_list (P:=P) (w:=w) a ((List.range n).map val) (fun j v hv=>by grind);simp only[bh,Ft]at hl;refine⟨.agg ((List.range n).map val).toArray,by simp[M,hn,hl],.agg ?_ ?_ ?_⟩;simp;omega;grind;grind
 |false=>
  have hs:=F rfl;have:=hc 0 s (by simpa using hs);have ha:a.add 0=a:=by simp[Addr.add]
  simp_all
def PV{w}{L}{g}{cs:List SV}{vs}{off}{t:TypeId}{s}{n}{b} (M:(isAgg t).run P w=.ok b w)(hn:(sizeOf t).run P w=.ok n w)(E:b=true->s=.agg ((cs.drop off).take n)/\off+n<=cs.length)(F:b=false->cs[off]?=some s) (hl:cs.length=vs.size)(cX:∀(i:Nat)(v:Value),vs[i]?=some v->v.oneCell'=true)(hc:∀(i:Nat)(s:SV)(v:Value),cs[i]?=some s->vs[i]?=some v->af w L g s v):∃v,(part t vs off).run P w=.ok v w/\af w L g s v:=by
 unfold part;cases b with
 |true=>obtain⟨rfl,hlen⟩:=E rfl;refine⟨.agg (vs.extract off (off+n)),by simp[M,hn],.agg ?_ ?_ ?_⟩;simp;omega;intro i v hv;rw[Array.getElem?_extract]at hv;grind;grind
 |false=>
  have hs:=F rfl;have ai:off<vs.size:=by rw[<-hl];exact(ao.1 hs).1
  have hv:=c4 ai;exact⟨vs[off]'ai,by simp[M,hv],hc off s _ hs hv⟩
def GK{op}{t:TypeId}{x y a b w}(h:(∀cs,a≠ .agg cs)/\a≠ .nilIface):(eqGuard op t x y a b).run P w=.ok () w:=by cases op<;>(try rfl)<;>(cases a<;>first|rfl|simp_all|simp_all)
def UF(hT:bl P T):∀n{t x y k},Cx T n t x y k->∃r,k r/\∀w L g vx vy d,n<=d->af w L g x vx->af w L g y vy->(Op.equalIn d t vx vy).run P w=.ok r w:=by
 intro n;induction n with
 |zero=>intro t x y k h;cases h
 |succ n ih=>
  intro t x y k h;replace h:=b4 hT h;generalize ax:(bk P t).ti=ti at h;cases ti with
  |int q0=>
   have hu:=so (bm ax sM).1;cases x<;>cases y<;>simp only[]at h<;>try cases h
   rename_i q a q' b;split at h;rename_i hq;subst hq;refine⟨_,h,fun w L g vx vy d hd hx hy=>?_⟩;obtain⟨d,rfl⟩:∃d',d=d'+1:=⟨d-1,G⟩;cases hx;cases hy;rw[Sz w d t q q0 a b hu];rfl;cases h
  |bool=>
   have hu:=JW (bm ax sM).1;replace h:oO x fun a=>oO y fun b=>k (a==b):=by cases x<;>cases y<;>simpa using h
   have⟨a,h,ha⟩:=uC h;have⟨b,h,M⟩:=uC h;refine⟨_,h,fun w L g vx vy d hd hx hy=>?_⟩;obtain⟨d,rfl⟩:∃d',d=d'+1:=⟨d-1,G⟩;rw[ha _ _ _ _ hx,M _ _ _ _ hy,run_equalIn_bool' w d t a b hu]
  |str=>
   have hu:=qG (bm ax sM).1;cases x<;>cases y<;>simp only[]at h<;>try cases h
   refine⟨_,h,fun w L g vx vy d hd hx hy=>?_⟩;obtain⟨d,rfl⟩:∃d',d=d'+1:=⟨d-1,G⟩;cases hx;cases hy;rw[run_equalIn_string w d t _ _ hu,ByteArray.toList_mk,ByteArray.toList_mk];grind
  |struct fs=>
   have⟨xU,i,_,_,_,_,g8⟩:=bm ax sM;have⟨fields,hu,jP,_⟩:=vV xU;cases x<;>cases y<;>simp only[]at h<;>try cases h
   rename_i xs ys;rw[g8]at h;cases p5:w9 P t with
   |false=>simp_all
   |true=>
    rw[p5]at h;unfold w9 at p5;rw[hu]at p5;simp only[bR,c5,ir]at p5;obtain⟨⟨bQ,akU⟩,_⟩:=p5;have hf:P.fieldsOf t=fields:=by simp[Program.fieldsOf,hu]
    have key:∀(l:List Field)(k:Bool->Prop),(∀f∈l,(f.name != "_")=true)->
     List.rec (motive:=fun _=>(Bool->Prop)->Prop) (fun k=>k true)
      (fun(f:Nat×TypeId×Nat)_ Ok k=>r7 T xs f.1 f.2.1 fun a=>r7 T ys f.1 f.2.1 fun b=>Cx T n f.2.1 a b fun r=>Ok fun r'=>k (r&&r'))
      (l.map fun f=>(f.offset,f.type,P.cellsOf f.type)) k->
     ∃r,k r/\∀(w:World)(L:Nat->Prop)(g:Sg)(vx vy:Array Value)(d:Nat),n<=d->af w L g (.agg xs) (.agg vx)->af w L g (.agg ys) (.agg vy)->(Op.eqFields d vx vy l).run P w=.ok r w:=by
     intro l
     induction l with
     |nil=>intro k _ h;exact⟨true,h,fun w L g vx vy d _ _ _=>rfl⟩
     |cons f l ihl=>
      intro k hn h
      have⟨sa,aw1,afE,h,a1,a2,a3,a4⟩:=tG hT h
      have⟨arm,aw2,iM,h,b1,c0,i6,qY⟩:=tG hT h
      have⟨r,h,D⟩:=ih h
      have⟨r',h,ds⟩:=ihl _ (fun u U=>hn u (by simp[U])) h
      refine⟨r&&r',h,fun w L g vx vy d hd hx hy=>?_⟩
      have uX:(f.name≠ "_"):=by have:=hn f sM;simpa using this
      cases hx with
      |agg rc em jN=>
       cases hy with
       |agg d3 o7 g7=>
        have⟨va,ra,rpa⟩:=PV (P:=P) (w:=w) (a1 w) (a2 w) a3 a4 rc em jN
        have⟨vW,rb,rpb⟩:=PV (P:=P) (w:=w) (b1 w) (c0 w) i6 qY d3 o7 g7
        have e1:=D w L g va vW d hd rpa rpb
        have e2:=ds w L g vx vy d hd (.agg rc em jN) (.agg d3 o7 g7)
        simp only[Op.eqFields,au uX,bJ,ra,rb,e1,cb]
        cases r
        ·simp
        ·simpa using e2
    have⟨r,h,D⟩:=key fields.toList k akU (by rw[<-jP];exact h);refine⟨r,h,fun w L g vx vy d hd hx hy=>?_⟩;obtain⟨d,rfl⟩:∃d',d=d'+1:=⟨d-1,G⟩;cases hx with|agg rc em jN=>cases hy with|agg d3 o7 g7=>rw[run_equalIn_struct w d t _ _ (by rw[hf];exact hu) bQ,hf];exact D w L g _ _ d G (.agg rc em jN) (.agg d3 o7 g7)
  |array _ _=>cases h
  |slice _=>cases h
  |ptr _=>cases h
  |map _ _=>cases h
  |iface=>cases h
  |other=>cases h
  |none=>cases h
def al5{op q a b k}(h:Ao op q a b k):∃s,k s/\op≠ .shl/\op≠ .shr/\∀w L g t,∃v,(binOp op t (.int q a) (.int q b)).run P w=.ok v w/\af w L g s v:=by
 cases op<;>simp only[Ao]at h;case quo=>exact⟨_,h.2,sM,sM,fun w L g t=>⟨_,by simp[binOp,Op.intDiv,h.1],.int⟩⟩
 case rem=>exact⟨_,h.2,sM,sM,fun w L g t=>⟨_,by simp[binOp,Op.intDiv,h.1],.int⟩⟩
 case eql=>exact⟨_,h,sM,sM,fun w L g t=>⟨.bool (decide (a=b)),by simp[binOp,Op.intCmp];rfl,.bool⟩⟩
 case neq=>exact⟨_,h,sM,sM,fun w L g t=>⟨.bool (decide (¬a=b)),by simp[binOp,Op.intCmp,bne];rfl,.bool⟩⟩
 case add=>exact⟨_,h,sM,sM,fun w L g t=>⟨_,by simp[binOp,Op.intArith],.int⟩⟩
 case sub=>exact⟨_,h,sM,sM,fun w L g t=>⟨_,by simp[binOp,Op.intArith],.int⟩⟩
 case mul=>exact⟨_,h,sM,sM,fun w L g t=>⟨_,by simp[binOp,Op.intArith],.int⟩⟩
 case and=>exact⟨_,h,sM,sM,fun w L g t=>⟨_,by simp[binOp,Op.intBits],.int⟩⟩
 case or=>exact⟨_,h,sM,sM,fun w L g t=>⟨_,by simp[binOp,Op.intBits],.int⟩⟩
 case xor=>exact⟨_,h,sM,sM,fun w L g t=>⟨_,by simp[binOp,Op.intBits],.int⟩⟩
 case andNot=>exact⟨_,h,sM,sM,fun w L g t=>⟨_,by simp[binOp,Op.intBits],.int⟩⟩
 case lss=>exact⟨_,h,sM,sM,fun w L g t=>⟨_,by simp[binOp,Op.intCmp],.bool⟩⟩
 case leq=>exact⟨_,h,sM,sM,fun w L g t=>⟨_,by simp[binOp,Op.intCmp],.bool⟩⟩
 case gtr=>exact⟨_,h,sM,sM,fun w L g t=>⟨_,by simp[binOp,Op.intCmp],.bool⟩⟩
 case geq=>exact⟨_,h,sM,sM,fun w L g t=>⟨_,by simp[binOp,Op.intCmp],.bool⟩⟩
def atL{op a b k}(h:JM op a b k):∃s,k s/\∀w L g t,∃v,(binOp op t (.string ⟨a.toArray⟩) (.string ⟨b.toArray⟩)).run P w=.ok v w/\af w L g s v:=by
 have dY:∀l:List UInt8,(⟨l.toArray⟩:ByteArray).size=l.length:=fun l=>by simp[ByteArray.size]
 cases op<;>simp only[JM]at h;case add=>
  refine⟨_,h.2,fun w L g t=>⟨.string (⟨a.toArray⟩++⟨b.toArray⟩),?_,?_⟩⟩;simp only[binOp];exact run_string_add_sum w _ _ (by grind);have:(⟨a.toArray⟩++⟨b.toArray⟩:ByteArray)=⟨(a++b).toArray⟩:=by apply ByteArray.ext;simp
  rw[this];exact .str
 case eql=>exact⟨_,h,fun w L g t=>⟨_,by simp[binOp,Op.stringOp];rfl,by first|exact .bool|(rw[show(a==b)=decide (a=b) by grind];exact .bool)⟩⟩
 case neq=>exact⟨_,h,fun w L g t=>⟨_,by simp[binOp,Op.stringOp];rfl,by first|exact .bool|(rw[show(a==b)=decide (a=b) by grind];exact .bool)⟩⟩
 case lss=>exact⟨_,h,fun w L g t=>⟨_,by simp[binOp,Op.stringOp],.bool⟩⟩
 case leq=>exact⟨_,h,fun w L g t=>⟨_,by simp[binOp,Op.stringOp];rfl,by first|exact .bool|(rw[show(a==b)=decide (a=b) by grind];exact .bool)⟩⟩
 case gtr=>exact⟨_,h,fun w L g t=>⟨.bool (!(Op.bytesLess a b||a==b)),by simp[binOp,Op.stringOp],by rw[show(a==b)=decide (a=b) by grind];exact .bool⟩⟩
 case geq=>exact⟨_,h,fun w L g t=>⟨_,by simp[binOp,Op.stringOp],.bool⟩⟩
def adj{ab:Prop}(k:ab:=by rw[hx _ _ _ _ ra,hy _ _ _ _ rb];simp only[binOp];simp[Op.equal,Op.maxDepth,run_equalIn_bool' w 9999 t x y hu]):ab:=k
def afY{op a b k}{t:TypeId}(hu:P.underlying t=some .bool)(h:B6 op a b k):∃s,k s/\∀w L g va vW,af w L g a va->af w L g b vW->∃v,(binOp op t va vW).run P w=.ok v w/\af w L g s v:=by
 cases op<;>simp only[B6]at h;case eql=>have⟨x,h,hx⟩:=uC h;have⟨y,h,hy⟩:=uC h;refine⟨_,h,fun w L g va vW ra rb=>⟨.bool (x==y),?_,.bool⟩⟩;exact adj
 case neq=>have⟨x,h,hx⟩:=uC h;have⟨y,h,hy⟩:=uC h;refine⟨_,h,fun w L g va vW ra rb=>⟨.bool (!(x==y)),?_,.bool⟩⟩;exact adj
def RY{ab:Prop}(k:ab:=by obtain⟨hu,h⟩:=tyb h;obtain⟨s,o,M⟩:=afY hu h;exact plain o (fun w L g vx r=>by cases r;simp) fun w L g vx vy rx ry=>M w L g vx vy rx ry):ab:=k
def acZ{ab:Prop}(k:ab:=by exact plain h.2 Ee fun w L g vx vy rx ry=>by cases rx;cases ry;exact⟨_,by simp[binOp,Op.shift,dH.2 h.1],.int⟩):ab:=k
def axN{ab:Prop}(k:ab:=by cases y with|nilp=>exact ZW h fun w L g vx r=>by cases r<;>exact⟨_,rfl⟩|_=>exact h.elim):ab:=k
def Lv(hT:bl P T){op}{t:TypeId}{x y k}(h:q8 T op t x y k):∃s,k s/\∀w L g vx vy ox oy,af w L g x vx->af w L g y vy->∃v,((do eqGuard op t ox oy vx vy;binOp op t vx vy):Sem Value).run P w=.ok v w/\af w L g s v:=by
 have plain:∀{s},k s->(∀w L g vx,af w L g x vx->(∀cs,vx≠ .agg cs)/\vx≠ .nilIface)->
  (∀w L g vx vy,af w L g x vx->af w L g y vy->∃v,(binOp op t vx vy).run P w=.ok v w/\af w L g s v)->
  ∃s,k s/\∀w L g vx vy ox oy,af w L g x vx->af w L g y vy->
   ∃v,((do eqGuard op t ox oy vx vy;binOp op t vx vy):Sem Value).run P w=.ok v w/\af w L g s v:=by
  intro s o hn M
  refine⟨s,o,fun w L g vx vy ox oy rx ry=>?_⟩
  obtain⟨v,hv,D⟩:=M w L g vx vy rx ry
  exact⟨v,by simp only[bJ,GK (hn w L g vx rx),cb];exact hv,D⟩
 have tyb:∀{R},(aX T t fun te=>match te.ti with|.bool=>R|_=>False)->P.underlying t=some .bool/\R:=by intro R h;replace h:=b4 hT h;generalize ax:(bk P t).ti=ti at h;cases ti<;>first|cases h|exact⟨JW (bm ax sM).1,h⟩
 have ZW:∀{x'},(aX T t fun te=>match(generalizing:=false) te.ti,op with|.ptr _,.eql=>k .ff|.ptr _,.neq=>k .tt|_,_=>False)->(∀w L g vx,af w L g x' vx->∃a:Addr,vx=.pointer (some a))->
  ∃s,k s/\∀w L g vx vy ox oy,af w L g x' vx->af w L g .nilp vy->
   ∃v,((do eqGuard op t ox oy vx vy;binOp op t vx vy):Sem Value).run P w=.ok v w/\af w L g s v:=by
  intro x' h hx
  replace h:=b4 hT h
  generalize ax:(bk P t).ti=ti at h
  cases ti with
  |ptr e=>
   have hu:=Bh (bm ax sM).1
   have hp:P.underlying t=some (.pointer (P.pointee t)):=by simp[Program.pointee,hu]
   have key:∀s,k s->(∀w L g a,∃v,(binOp op t (.pointer (some a)) (.pointer none)).run P w=.ok v w/\af w L g s v)->∃s,k s/\∀w L g vx vy ox oy,af w L g x' vx->af w L g .nilp vy->
    ∃v,((do eqGuard op t ox oy vx vy;binOp op t vx vy):Sem Value).run P w=.ok v w/\af w L g s v:=by
    intro s o M
    refine⟨s,o,fun w L g vx vy ox oy rx ry=>?_⟩
    obtain⟨a,rfl⟩:=hx w L g vx rx
    cases ry
    have⟨v,hv,D⟩:=M w L g a
    exact⟨v,by simp only[bJ,GK (show(∀cs,Value.pointer (some a)≠ .agg cs)/\Value.pointer (some a)≠ .nilIface by simp),cb];exact hv,D⟩
   cases op with
   |eql=>exact key .ff h fun w L g a=>⟨.bool false,by rw[run_eql_pointer_nil w t (some a) hp];rfl,.ff⟩
   |neq=>exact key .tt h fun w L g a=>⟨.bool true,by rw[run_neq_pointer_nil w t (some a) hp];rfl,.tt⟩
   |_=>cases h
  |_=>cases h
 cases x with
 |int q a=>
  cases y with
  |int q' b=>
   have Ee:∀w L g vx,af w L g (.int q a) vx->(∀cs,vx≠ .agg cs)/\vx≠ .nilIface:=fun w L g vx r=>by cases r;simp
   by_cases E:op=.shl;subst E;exact acZ;by_cases F:op=.shr;subst F;exact acZ;replace h:if q=q' then Ao op q a b k else False:=by cases op<;>first|exact absurd rfl E|exact absurd rfl F|exact h
   split at h;rename_i hq;subst hq;obtain⟨s,o,_,_,M⟩:=al5 (P:=P) h;exact plain o Ee fun w L g vx vy rx ry=>by cases rx;cases ry;exact M w L g t
   exact h.elim
  |_=>exact h.elim
 |str a=>cases y with|str b=>obtain⟨s,o,M⟩:=atL (P:=P) h;exact plain o (fun w L g vx r=>by cases r;simp) fun w L g vx vy rx ry=>by cases rx;cases ry;exact M w L g t|_=>exact h.elim
 |tt=>exact RY
 |ff=>exact RY
 |bool b=>exact RY
 |agg xs=>
  cases y with
  |agg ys=>
   have Vq:∀{r},Cx T 8 t (.agg xs) (.agg ys) r->P.eqGuardType P.depth t=false:=by
    intro r D;replace D:=b4 hT (show aX T t _ from D);generalize ax:(bk P t).ti=ti at D;cases ti with
    |struct fs=>obtain⟨xU,i,_,_,_,_,g8⟩:=bm ax (by simp);obtain⟨fields,hu,_,_⟩:=vV xU;rw[g8]at D;cases p5:w9 P t with|false=>rw[p5]at D;exact D.elim|true=>unfold w9 at p5;rw[hu]at p5;simp only[bR,c5]at p5;exact p5.2
    |bool=>exact D.elim
    |_=>exact D.elim
   cases op<;>simp only[q8]at h;case eql=>obtain⟨r,o,H⟩:=UF hT 8 h;have U:=Vq h;refine⟨_,o,fun w L g vx vy ox oy rx ry=>?_⟩;have e:=H w L g vx vy 10000 (by omega) rx ry;cases rx;cases ry;exact⟨_,by simp only[bJ,SA w .eql t ox oy _ _ U,cb,run_eql_struct,e],.bool⟩
   case neq=>obtain⟨r,o,H⟩:=UF hT 8 h;have U:=Vq h;refine⟨_,o,fun w L g vx vy ox oy rx ry=>?_⟩;have e:=H w L g vx vy 10000 (by omega) rx ry;cases rx;cases ry;exact⟨_,by simp only[bJ,SA w .neq t ox oy _ _ U,cb,run_neq_struct,e],.bool⟩
  |_=>exact h.elim
 |nilp=>
  cases y with
  |nilp=>
   replace h:=b4 hT (show aX T t _ from h);generalize ax:(bk P t).ti=ti at h;cases ti with
   |ptr e=>
    have hu:=Bh (bm ax (by simp)).1;have hp:P.underlying t=some (.pointer (P.pointee t)):=by simp[Program.pointee,hu]
    have Ee:∀w L g vx,af w L g .nilp vx->(∀cs,vx≠ .agg cs)/\vx≠ .nilIface:=fun w L g vx r=>by cases r;simp
    cases op with|eql=>refine plain h Ee fun w L g vx vy rx ry=>?_;cases rx;cases ry;exact⟨.bool true,by rw[run_eql_pointer_nil w t none hp];rfl,.tt⟩|neq=>refine plain h Ee fun w L g vx vy rx ry=>?_;cases rx;cases ry;exact⟨.bool false,by rw[run_neq_pointer_nil w t none hp];rfl,.ff⟩|_=>exact h.elim
   |_=>exact h.elim
  |_=>exact h.elim
 |ptr b aa=>exact axN
 |ep b i f=>exact axN
 |rp z es i f=>cases y with|nilp=>exact ZW h fun w L g vx r=>by cases r<;>grind|_=>exact h.elim
 |rs z es=>
  cases y with
  |nils=>
   replace h:=b4 hT (show aX T t _ from h);generalize ax:(bk P t).ti=ti at h;cases ti with
   |slice e=>
    have hu:=fi (bm ax (by simp)).1;cases op with
    |eql=>refine plain h (fun w L g vx r=>by cases r<;>simp) fun w L g vx vy rx ry=>?_;cases ry;cases rx with| @hJ _ _ a c _=>exact⟨_,Lib.run_eql_slice_nil w t e a 0 c 0 0 hu,.qb fun _=>rfl⟩| @rs _ _ _ ec c _ _ _ _ _ _ _ _ _=>exact⟨_,Lib.run_eql_slice_nil w t e (some ec) _ c 0 0 hu,.qb fun h=>by simp at h⟩
    |_=>exact h.elim
   |_=>exact h.elim
  |_=>exact h.elim
 |_=>cases y<;>exact h.elim
def auo{op x k}(h:JV op x k):∃s,k s/\∀w L g vx,af w L g x vx->∃v,(Op.unary op vx).run P w=.ok v w/\af w L g s v:=by
 cases op<;>cases x<;>simp only[JV]at h;case neg.int q n=>exact⟨_,h,fun w L g vx r=>by cases r;exact⟨_,by simp[Op.unary,Op.intArith],.int⟩⟩
 case xor.int q n=>exact⟨_,h,fun w L g vx r=>by cases r;exact⟨_,by simp[Op.unary,Op.intBits],.int⟩⟩
 case not.tt=>exact⟨_,h,fun w L g vx r=>by cases r;exact⟨.bool false,by simp[Op.unary],.ff⟩⟩
 case not.ff=>exact⟨_,h,fun w L g vx r=>by cases r;exact⟨.bool true,by simp[Op.unary],.tt⟩⟩
 case not.bool b=>exact⟨_,h,fun w L g vx r=>by cases r;exact⟨.bool (!b),by simp[Op.unary],.bool⟩⟩
end
section
variable{P:Program} {T:aG}
def ea(P:Program)(m:Sem Next)(w:World)(X:Nat->Prop)(g:Sg)(F:Hp)(s:SV)(ws:Ws):Prop:=
 bO P m w fun v w'=>∃V,af w' (Ex X V) V s v/\Inv w' X V (bF ws F)/\Step g.length w g w' V/\V.length=g.length
structure jH(P:Program)(J:Fr)(h:Hp)(op:Op)(s:SV)(ws:Ws)(aJ:List Nat):Prop where
 ok:∀(w:World)(X:Nat->Prop)(g:Sg)(F:Hp)(A:Operand->Value)(d:Option Tmp)(ty:TypeId)(pos:String)(after:Array Edge)(guard:Option (Nat×Bool)),
  Inv w X g F->(∀x∈op.operands.toList,bA w (Ex X g) g J A x)->(∀i∈aJ,F[i]?=h[i]?)->ea P (execOp A ⟨d,op,ty,pos,after,guard⟩) w X g F s ws
 sub:∀p∈ws,p.1∈aJ
def ea.pure{m w X g F s v}(hm:m.run P w=.ok (.value v) w)(O:Inv w X g F)(D:af w (Ex X g) g s v):ea P m w X g F s []:=by unfold ea bO;rw[hm];exact⟨g,D,O,.refl _ _ _,rfl⟩
def jH.pure{J h op s aJ} (hx:∀w L g A d ty pos after guard,(∀x∈op.operands.toList,bA w L g J A x)->∃v,(execOp A ⟨d,op,ty,pos,after,guard⟩).run P w=.ok (.value v) w/\af w L g s v):jH P J h op s [] aJ:=
 ⟨fun w X g F A d ty pos after guard O I _=>by
  have⟨v,hv,D⟩:=hx w (Ex X g) g A d ty pos after guard I
  exact .pure hv O D,sM⟩
def Qo{w L g}(v):af w L g (qA v) v:=by unfold qA;split;exact .int;exact .tt;exact .ff;exact aax _;exact .nilp;exact .nils;exact .nilm;exact .nili;exact .any
def abZ{i:TypeInfo}{k}(h:iq (zeroOf i) k):k (zeroOf i)/\∃z,i.zero=some z/\zeroOf i=z.cells.toList.map qA/\(∀v∈z.cells.toList,v.oneCell'=true)/\z.cells.size=i.size:=by
 have o:k (zeroOf i)/\zeroOf i≠[.bot]:=by unfold iq at h;split at h;simp_all;grind
 refine⟨o.1,?_⟩;have hn:=o.2;cases hz:i.zero with|none=>exact absurd (by simp[zeroOf,hz]) hn|some z=>cases dl:(z.cells.toList.all (·.oneCell')&&z.cells.size==i.size)with|false=>exact absurd (by simp only[zeroOf,hz,dl];rfl) hn|true=>have F:=dl;simp only[bR,ir,c6]at F;exact⟨z,rfl,by simp only[zeroOf,hz,dl,dw],F.1,F.2⟩
def Fe{w}{L}{g}{z:Value}(cX:∀v∈z.cells.toList,v.oneCell'=true):(z.cells.toList.map qA).length=z.cells.size/\∀(i:Nat)(s:SV)(v:Value),(z.cells.toList.map qA)[i]?=some s->z.cells[i]?=some v->af w L g s v/\v.oneCell'=true:=by refine⟨by simp,fun i s v hs hv=>?_⟩;rw[bz,eF,hv]at hs;simp at hs;subst hs;exact⟨Qo v,cX v (by grind)⟩
def kC(h)(i)(b):bF [(i,b)] h=h.set i b:=rfl
def YM{w X g F}(O:Inv w X g F){ae}(hf:F[ae]?=some .fresh){t:TypeId}{cs vs} (hl:cs.length=vs.size)(hc:∀(i:Nat)(s:SV)(v:Value),cs[i]?=some s->vs[i]?=some v->af w (Ex X g) g s v/\v.oneCell'=true):∃V,af (w.alloc (.cells vs t)) (Ex X V) V (.ptr ae 0) (.pointer (some ⟨w.heap.size,0,none⟩))/\Inv (w.alloc (.cells vs t)) X V (bF [(ae,.fix t cs)] F)/\Step g.length w g (w.alloc (.cells vs t)) V/\V.length=g.length:=by have hS:=pM (w':=w.alloc (.cells vs t)) O hf (e:=.fix w.heap.size) rfl rfl rfl rfl rfl;have ak:=lR O hf;have ai:=(ao.1 ak).1;refine⟨g.set ae (.fix w.heap.size),.ptr (by simp[ai]),?_,hS,sM⟩;rw[kC];refine qW (w':=w.alloc (.cells vs t)) O hf (e:=.fix w.heap.size) (b:=.fix t cs) rfl rfl rfl rfl rfl ⟨vs,su w _,hl,fun i s v hs hv=>⟨(hc i s v hs hv).1.step hS (aC _),(hc i s v hs hv).2⟩⟩
def PA{w X g F}(O:Inv w X g F){ae}(hf:F[ae]?=some .fresh){t:TypeId}{sz cap es vs} (cR:es.length<=cap)(d0:cap<=maxLen)(hl:vs.size=cap*sz) (hc:∀i e,es[i]?=some e->e.length=sz/\∀j s,e[j]?=some s->∃v,vs[i*sz+j]?=some v/\af w (Ex X g) [] s v/\v.oneCell'=true):∃V,af (w.alloc (.cells vs t)) (Ex X V) V (.sl ae) (.slice (some ⟨w.heap.size,0,none⟩) es.length cap)/\Inv (w.alloc (.cells vs t)) X V (bF [(ae,.row t sz es)] F)/\Step g.length w g (w.alloc (.cells vs t)) V/\V.length=g.length:=by have hS:=pM (w':=w.alloc (.cells vs t)) O hf (e:=.row w.heap.size sz es.length cap) rfl rfl rfl rfl rfl;have ak:=lR O hf;have ai:=(ao.1 ak).1;refine⟨g.set ae (.row w.heap.size sz es.length cap),.sl (sz:=sz) (by simp[ai]),?_,hS,sM⟩;rw[kC];refine qW (w':=w.alloc (.cells vs t)) O hf (e:=.row w.heap.size sz es.length cap) (b:=.row t sz es) rfl rfl rfl rfl rfl ⟨rfl,rfl,cR,d0,vs,.of (su w _),hl,fun i e H=>⟨(hc i e H).1,fun j s hs=>?_⟩⟩;have⟨v,a,b,c⟩:=(hc i e H).2 j s hs;exact⟨v,a,b.hP hS,c⟩
def L8(cells:Array Value)(off)(v:Value)(hle:off+v.cells.size<=cells.size):(v.cells.zipIdx.foldl (fun cs x=>cs.setIfInBounds (off+x.2) x.1) cells).size=cells.size/\∀k,(v.cells.zipIdx.foldl (fun cs x=>cs.setIfInBounds (off+x.2) x.1) cells)[k]?=if off<=k/\k<off+v.cells.size then v.cells[k-off]? else cells[k]?:=by have h:=Go.Great.foldl_set off v.cells.toList 0 cells;rw[<-Array.foldl_toList,Array.toList_zipIdx];grind
def r8{α:Type}(cs:List α)(off)(c)(hle:off+c.length<=cs.length)(k):(cs.take off++(c++cs.drop (off+c.length)))[k]?=if off<=k/\k<off+c.length then c[k-off]? else cs[k]?:=by
 have ht:(cs.take off).length=off:=by simp;omega
 grind
def I9{α:Type}(cs:List α)(off)(c)(hle:off+c.length<=cs.length):(cs.take off++(c++cs.drop (off+c.length))).length=cs.length:=by simp;omega
def TP{J fs}(ps:List (Nat×Operand)):∀{cs k},Gm J fs ps cs k->∃bU,k bU/\∀w L g A vs,(∀p∈ps,bA w L g J A p.2)->(cs.length=vs.size/\∀(i:Nat)(s:SV)(v:Value),cs[i]?=some s->vs[i]?=some v->af w L g s v/\v.oneCell'=true)->∃cP,Instr.fill (fun i=>(fs[i]?).map fun q=>(q.1,q.2.2)) vs (ps.map fun p=>(p.1,A p.2))=some cP/\bU.length=cP.size/\∀(i:Nat)(s:SV)(v:Value),bU[i]?=some s->cP[i]?=some v->af w L g s v/\v.oneCell'=true:=by
 induction ps with
 |nil=>intro cs k h;exact⟨cs,h,fun w L g A vs _ hc=>⟨vs,rfl,hc.1,hc.2⟩⟩
 |cons p ps ih=>
  intro cs k h;have⟨q,hq,h⟩:=bg h;have⟨s,h,hs⟩:=bS h;have rD:∃c:List SV,(bd c.length q.2.2 (tJ cs q.1 c fun bU=>Gm J fs ps bU k))/\
   ∀w L g v,af w L g s v->c.length=v.cells.size/\∀(i:Nat)(s:SV)(ag:Value),c[i]?=some s->v.cells[i]?=some ag->af w L g s ag/\ag.oneCell'=true:=by
   revert h
   generalize zK:(fun c:List SV=>bd c.length q.2.2 (tJ cs q.1 c fun bU=>Gm J fs ps bU k))=pp
   intro h
   replace h:lk s pp:=by rw[<-zK];exact h
   have:∃c,pp c/\∀w L g v G',G' c->af w L g s v->lk s G':=by
    cases s<;>simp only[lk]at h⊢ <;>first|cases h|grind
   have⟨c,Vu,hc⟩:=this
   refine⟨c,by grind,fun w L g v D=>?_⟩
   have⟨c',ST,hl,fB⟩:=Zi D (hc w L g v (· =c) rfl D)
   subst ST
   exact⟨hl,fB⟩
  have⟨c,h,hc⟩:=rD;have⟨hlen,h⟩:=b2 h;have⟨hle,h⟩:=EC h;have⟨bU,o,Df⟩:=ih h;refine⟨bU,o,fun w L g A vs I hv=>?_⟩;have bb:=hs w L g A (I p sM);have⟨fc,fB⟩:=hc w L g _ bb;have hf:=L8 vs q.1 (A p.2) (by omega);obtain⟨cP,rG,r1,r2⟩:=Df w L g A ((A p.2).cells.zipIdx.foldl (fun cs x=>cs.setIfInBounds (q.1+x.2) x.1) vs) (fun p' iV=>I p' (by simp[iV]))
   ⟨by rw[hf.1,I9 _ _ _ hle,hv.1],fun i s v bW gl=>by
    rw[r8 _ _ _ hle]at bW
    rw[hf.2,<-fc]at gl
    split at bW
    ·rename_i am
     rw[au am]at gl
     exact fB _ s v bW gl
    ·rename_i am
     rw[ay am]at gl
     exact hv.2 i s v bW gl⟩
  refine⟨cP,?_,r1,r2⟩;simp only[mI,Instr.fill,hq,nC];rw[ay (by rw[<-fc,hlen,<-hv.1];rw[hlen]at hle;simp;omega)];exact rG
def Cc{s pp}(h:lk s pp):∃c:List SV,pp c/\∀w L g v,af w L g s v->c.length=v.cells.size/\∀(i:Nat)(s:SV)(ag:Value),c[i]?=some s->v.cells[i]?=some ag->af w L g s ag/\ag.oneCell'=true:=by
 have:∃c,pp c/\∀w L g v G',G' c->af w L g s v->lk s G':=by cases s<;>simp only[lk]at h⊢ <;>first|cases h|grind
 have⟨c,Vu,hc⟩:=this;refine⟨c,Vu,fun w L g v D=>?_⟩;have⟨c',ST,hl,fB⟩:=Zi D (hc w L g v (· =c) rfl D);grind
def y_(w:World)(L:Nat->Prop)(sz:Nat)(es:List (List SV))(vs:Array Value):Prop:=
 ∀i e,es[i]?=some e->e.length=sz/\∀j s,e[j]?=some s->∃v,vs[i*sz+j]?=some v/\af w L [] s v/\v.oneCell'=true
def ail{J sz}(ps:List (Nat×Operand)):∀{es k},Uz J sz ps es k->∃aS,k aS/\aS.length=es.length/\∀w L g A vs,(∀p∈ps,bA w L g J A p.2)->vs.size=es.length*sz->y_ w L sz es vs->∃cP,Instr.fill (fun i=>some (i*sz,sz)) vs (ps.map fun p=>(p.1,A p.2))=some cP/\cP.size=aS.length*sz/\y_ w L sz aS cP:=by
 induction ps with
 |nil=>intro es k h;exact⟨es,h,rfl,fun w L g A vs _ hs hc=>⟨vs,rfl,hs,hc⟩⟩
 |cons p ps ih=>
  intro es k h;have⟨s,h,hs⟩:=bS h;have⟨c,h,hc⟩:=Cc h;have⟨hlen,h⟩:=b2 h;have⟨h,WH⟩:=Ez h;have⟨hle,h⟩:=jb h;have⟨aS,o,dg,Df⟩:=ih h;refine⟨aS,o,by rw[dg];simp,fun w L g A vs I ql cN=>?_⟩;have bb:=hs w L g A (I p sM);have⟨fc,fB⟩:=hc w L g _ bb;have fd:p.1*sz+sz<=es.length*sz:=by rw[<-oC];exact e8 _ hle
  have hf:=L8 vs (p.1*sz) (A p.2) (by omega);obtain⟨cP,rG,r1,r2⟩:=Df w L g A ((A p.2).cells.zipIdx.foldl (fun cs x=>cs.setIfInBounds (p.1*sz+x.2) x.1) vs) (fun p' iV=>I p' (by simp[iV]))
   (by grind) (fun i e H=>by
    rw[bu]at H
    by_cases Q:p.1=i
    ·subst Q
     rw[au rfl,au hle]at H
     simp at H;subst H
     refine⟨hlen,fun j s' bW=>?_⟩
     have hj:=(ao.1 bW).1
     refine⟨(A p.2).cells[j]'G,?_,?_⟩
     ·rw[hf.2,au ⟨G,G⟩,show p.1*sz+j-p.1*sz=j by omega]
      grind
     ·have:=fB j s' _ bW (c4 G)
      grind
    ·rw[ay Q]at H
     have⟨E,F⟩:=cN i e H
     refine⟨E,fun j s' bW=>?_⟩
     have⟨v,hv,n4⟩:=F j s' bW
     refine⟨v,?_,n4⟩
     have hj:j<sz:=by rw[<-E];exact(ao.1 bW).1
     rw[hf.2,ay,hv]
     rw[<-fc,hlen]
     rcases nD i p.1 with ai|hk
     ·have:=e8 sz ai
      grind
     ·have:=e8 sz (show p.1+1<=i by omega)
      grind)
  refine⟨cP,?_,r1,r2⟩;simp only[mI,Instr.fill];grind
end
section
variable{P:Program} {T:aG}
def cu{m w w' v}(h:m.run P w=.ok v w'):((do pure (.value (<-m)):Sem Next)).run P w=.ok (.value v) w':=by simp[h]
def aaL{m w w'}(h:m.run P w=.ok () w'):((do m;pure .skip:Sem Next)).run P w=.ok .skip w':=by simp[h]
def oQ{w:World}{u}{vs}{t:TypeId}{fr}(h:w.heap[u]?=some (.cells vs t fr))(off j):w.cell? ((⟨u,off,none⟩:Addr).add j)=vs[off+j]?:=by unfold Addr.add;split;rename_i hj;subst hj;simp[World.cell?,h];simp[World.cell?,h]
def lf(u off n):(⟨u,off,none⟩:Addr).add n=⟨u,off+n,none⟩:=by unfold Addr.add;simp_all
def sV{w}{X}{g}{h}(O:Inv w X g h){b:Nat}{t:TypeId}{cs}(M:h[b]?=some (.fix t cs)):∃u vs,g[b]?=some (.fix u)/\w.heap[u]?=some (.cells vs t (0,0))/\cs.length=vs.size/\∀(i:Nat)(s:SV)(v:Value),cs[i]?=some s->vs[i]?=some v->af w (Ex X g) g s v/\v.oneCell'=true:=by
 have ai:b<g.length:=by rw[O.len];exact(ao.1 M).1
 have H:=aD ai;have:=O.ok b _ _ M H;cases ak:g[b]'ai<;>rw[ak]at this H<;>simp only[aB]at this<;>simp_all
def yu{w}{X}{g}{h}(O:Inv w X g h){b:Nat}{t:TypeId}{sz}{es}(M:h[b]?=some (.row t sz es)):(∃u cap vs,g[b]?=some (.row u sz es.length cap)/\es.length<=cap/\cap<=maxLen/\gj w u vs t/\vs.size=cap*sz/\y_ w (Ex X g) sz es vs)\/(g[b]?=some .rownil/\es=[]):=by
 have ai:b<g.length:=by rw[O.len];exact(ao.1 M).1
 have H:=aD ai;have:=O.ok b _ _ M H;cases ak:g[b]'ai<;>rw[ak]at this H<;>simp only[aB]at this;obtain⟨rfl,rfl,h3,h4,vs,h5,h6,h7⟩:=this;exact .inl ⟨_,_,vs,H,h3,h4,h5,h6,h7⟩;simp_all
def mv{w L g s v}(h:af w L [] s v):af w L g s v:=
 h.mono g (fun _ _ _=>rfl) (aC _) (fun _ _ h=>h) sM
def qE{w:World}{u}{cs}:(w.setRow u cs).os=w.os/\(w.setRow u cs).tape=w.tape/\(w.setRow u cs).output=w.output/\(w.setRow u cs).heap.size=w.heap.size/\∀k,k≠u->(w.setRow u cs).heap[k]?=w.heap[k]?:=
 ⟨rfl,rfl,rfl,sM,fun k o=>setRow_other w u k cs o⟩
def gj.set{w u vs cP}{t:TypeId}(h:gj w u vs t)(hs:cP.size=vs.size):gj (w.setRow u cP) u cP t:=by have⟨fr,E,F,h3⟩:=h;exact⟨fr,Kn w u vs cP t fr E,fun k o=>F k G,h3⟩
def yw(u aa)(t:TypeId):∀vs i cur w,gj w u cur t->aa+i+vs.length<=cur.size->(∀v∈vs,v.oneCell'=true)->(storeCells ⟨u,aa,none⟩ vs i).run P w=.ok () (w.setRow u (cur.toList.take (aa+i)++vs++cur.toList.drop (aa+i+vs.length)).toArray)
 |[],i,cur,w,U,_,_=>by have⟨fr,U,_⟩:=U;simp;rw[setRow_self w u cur t fr U];rfl
 |v::rest,i,cur,w,U,hl,E=>by
  have Q:aa+i<cur.size:=by simp at hl;omega
  have xq:(⟨u,aa,none⟩:Addr).add i=⟨u,aa+i,none⟩:=by unfold Addr.add;split<;>simp_all
  have ih:=yw u aa t rest (i+1) (cur.setIfInBounds (aa+i) v) (w.setRow u (cur.setIfInBounds (aa+i) v)) (U.set sM) (by grind) (fun x hx=>E x (by simp[hx]));have⟨fr,U,dp,_⟩:=U;have d2:w.cell? ⟨u,aa+i,none⟩=some cur[aa+i]:=by simp[World.cell?,U,Q]
  have akn:w.frozen? ⟨u,aa+i,none⟩=false:=by have:=dp (aa+i) Q;simp[World.frozen?,U];omega
  have bQ:(store ((⟨u,aa,none⟩:Addr).add i) v).run P w=.ok () (w.setRow u (cur.setIfInBounds (aa+i) v)):=by rw[xq,run_store P w _ v _ (E v sM),d2];simp[akn,Sf w u (aa+i) cur t fr v U]
  simp only[storeCells,bJ,bQ,cb,ih,setRow_setRow];congr 3;have e:=list_seg_step cur.toList (aa+i) v rest (by omega);simpa[Array.toList_setIfInBounds,sB]using e
def yJ{ab:Prop}(k:ab:=by
 obtain⟨i,Q,rfl⟩:=Sv hv;have f_:i<(A y).cells.size:=by simpa using Q
 have:=fB i (c[i]'G) ((A y).cells[i]) (aD G) (c4 f_);simpa using this.2):ab:=k
def atJ(hT:bl P T){J}{h}{ae}{t:TypeId}{x y}{K}(o:cH T J h ae (.store t x y) K):∃s ws aJ,K s ws aJ/\jH P J h (.store t x y) s ws aJ:=by
 have⟨sx,o,hx⟩:=bS o;have⟨sy,o,hy⟩:=bS o;have⟨c,o,hc⟩:=Cc o;have⟨n,h1,o,_,hn⟩:=kY hT o;have⟨hlen,o⟩:=b2 o;have Dr:∀w L g A,(∀z∈(Op.store t x y).operands.toList,bA w L g J A z)->af w L g sx (A x):=fun w L g A I=>hx w L g A (I x rO);have Dt:∀w L g A,(∀z∈(Op.store t x y).operands.toList,bA w L g J A z)->af w L g sy (A y):=fun w L g A I=>hy w L g A (I y rO);have a7:∀(w:World)(A:Operand->Value)(u off:Nat)(vs:Array Value)(t0:TypeId),A x=.pointer (some ⟨u,off,none⟩)->c.length=(A y).cells.size->(∀v∈(A y).cells.toList,v.oneCell'=true)->
  gj w u vs t0->off+c.length<=vs.size->
  (Instr.storeAt t (A x) (A y)).run P w=.ok () (w.setRow u (vs.toList.take off++(A y).cells.toList++vs.toList.drop (off+c.length)).toArray):=by
  exact adT
 cases sx with
 |ptr b off=>
  have⟨aT,M,o⟩:=bg o;cases aT with
  |fix T0 cs=>
   have⟨hle,o⟩:=EC o;refine⟨_,_,_,o,fun w X g cn A d ty pos after guard O I ap=>?_,sM⟩;have D:=Dr w _ g A I;have aP:=(ap b sM).trans M;have⟨u,vs,ak,U,hl,V2⟩:=sV O aP;have hv:A x=.pointer (some ⟨u,off,none⟩):=by generalize aF:A x=vx at D;cases D with|ptr h'=>grind|eD h'=>grind
   have⟨fc,fB⟩:=hc w _ g _ (Dt w _ g A I);have cX:∀v∈(A y).cells.toList,v.oneCell'=true:=fun v hv=>by exact yJ
   have D:=a7 w A u off vs T0 hv fc cX (.of U) G;have⟨f1,f2,f3,f4,f5⟩:=qE (w:=w) (u:=u) (cs:=(vs.toList.take off++(A y).cells.toList++vs.toList.drop (off+c.length)).toArray);have hS:=pE ak rfl f1 f2 f3 f4 f5;unfold ea bO;rw[show execOp A ⟨d,.store t x y,ty,pos,after,guard⟩=(do Instr.storeAt t (A x) (A y);pure .skip)from rfl,aaL D];refine⟨g,.undef,?_,hS,rfl⟩;exact acI
  |_=>cases o
 |ep b i f=>
  have⟨aT,M,o⟩:=bg o;cases aT with
  |row T0 sz es=>
   have⟨o,WH⟩:=Ez o;have⟨e,H,o⟩:=o;have⟨hle,o⟩:=EC o;refine⟨_,_,_,o,fun w X g cn A d ty pos after guard O I ap=>?_,sM⟩;have D:=Dr w _ g A I;have aP:=(ap b sM).trans M;have Nm:=(ao.1 H).1;rcases yu O aP with⟨u,cap,vs,ak,cR,d0,U,hl,cN⟩|⟨_,dA⟩;have hv:A x=.pointer (some ⟨u,i*sz+f,none⟩):=by generalize aF:A x=vx at D;cases D with|ep h'=>grind|hb h'=>grind
   have⟨nS,d2⟩:=cN i e H;have hblk:i*sz+sz<=vs.size:=by
    rw[hl];calc i*sz+sz=(i+1)*sz:=by rw[oC]
     _<=cap*sz:=e8 _ G
   have⟨fc,fB⟩:=hc w _ g _ (Dt w _ g A I);have cX:∀v∈(A y).cells.toList,v.oneCell'=true:=fun v hv=>by exact yJ
   have D:=a7 w A u (i*sz+f) vs T0 hv fc cX U G;have⟨f1,f2,f3,f4,f5⟩:=qE (w:=w) (u:=u) (cs:=(vs.toList.take (i*sz+f)++(A y).cells.toList++vs.toList.drop (i*sz+f+c.length)).toArray);have hS:=pE ak rfl f1 f2 f3 f4 f5;unfold ea bO;rw[show execOp A ⟨d,.store t x y,ty,pos,after,guard⟩=(do Instr.storeAt t (A x) (A y);pure .skip)from rfl,aaL D];refine⟨g,.undef,?_,hS,rfl⟩;rw[kC];have iO:∀k,(vs.toList.take (i*sz+f)++(A y).cells.toList++vs.toList.drop (i*sz+f+c.length)).toArray[k]?=if i*sz+f<=k/\k<i*sz+f+c.length then(A y).cells[k-(i*sz+f)]? else vs[k]?:=fun k=>by exact ab9
   refine pC O ak rfl f1 f2 f3 f4 f5 (b:=.row T0 sz (es.set i (e.take f++(c++e.drop (f+c.length))))) ⟨rfl,sM,by simpa using cR,d0,_,U.set sO,sO,fun k e' aK=>?_⟩;rw[bu]at aK;by_cases Dg:i=k;subst Dg;rw[au rfl,au Nm]at aK;simp only[BH]at aK;subst aK;refine⟨by rw[I9 _ _ _ hle,nS],fun j s hs=>?_⟩;rw[r8 _ _ _ hle]at hs;rw[iO];split at hs;have hj:j-f<c.length:=G;rw[au G,show i*sz+j-(i*sz+f)=j-f by omega];have l_:(A y).cells[j-f]?=some ((A y).cells[j-f]'(by omega)):=c4 G;have:=fB _ s _ hs l_;exact⟨_,l_,(WH s (bN hs) w _ g [] _ this.1).hP hS,this.2⟩;rw[ay G];have⟨v,E,F,h3⟩:=d2 j s hs;exact⟨v,E,F.hP hS,h3⟩;rw[ay Dg]at aK;have⟨C5,MQ⟩:=cN k e' aK;refine⟨C5,fun j s hs=>?_⟩;have⟨v,E,F,h3⟩:=MQ j s hs;have hj:j<sz:=by rw[<-C5];exact(ao.1 hs).1
   refine⟨v,?_,F.hP hS,h3⟩;exact ab3;grind
  |_=>cases o
 |_=>cases o
end
section
variable{P:Program} {T:aG}
def aN(P:Program)(J:Fr)(h:Hp)(op:Op)(K:bC):Prop:=∃s ws aJ,K s ws aJ/\jH P J h op s ws aJ
def ed{J h op K s aJ}(o:K s [] aJ) (hx:∀w L g A d ty pos after guard,(∀x∈op.operands.toList,bA w L g J A x)->∃v,(execOp A ⟨d,op,ty,pos,after,guard⟩).run P w=.ok (.value v) w/\af w L g s v):aN P J h op K:=
 ⟨s,[],aJ,o,jH.pure hx⟩
def ac0{ab:Prop}(k:ab:=by have⟨s,o,hx⟩:=bS o;exact ed o fun w L g A d ty pos after guard I=>⟨A x,rfl,hx w L g A (I x rO)⟩):ab:=k
def anM{J h ae x K}(o:cH T J h ae (.move x) K):aN P J h (.move x) K:=by exact ac0
def afu{J h ae x K}(o:cH T J h ae (.assign x) K):aN P J h (.assign x) K:=by exact ac0
def apk{J h ae c a b K}(o:cH T J h ae (.pick c a b) K):aN P J h (.pick c a b) K:=by have⟨aaO,o,hc⟩:=bS o;have zW:∀w L g A,(∀x∈(Op.pick c a b).operands.toList,bA w L g J A x)->af w L g aaO (A c):=fun w L g A I=>hc w L g A (I c rO);cases aaO with|tt=>have⟨s,o,hx⟩:=bS o;exact ed o fun w L g A d ty pos after guard I=>by have E:=zW w L g A I;have F:=hx w L g A (I a rO);generalize aF:A c=abs at E;cases E;exact⟨A a,by simp[execOp,aF,asBool],F⟩|ff=>have⟨s,o,hx⟩:=bS o;exact ed o fun w L g A d ty pos after guard I=>by have E:=zW w L g A I;have F:=hx w L g A (I b rO);generalize aF:A c=abs at E;cases E;exact⟨A b,by simp[execOp,aF,asBool],F⟩|bool x=>have⟨sa,o,ha⟩:=bS o;have⟨va,o,Ac⟩:=uC o;have⟨arm,o,M⟩:=bS o;have⟨vW,o,hvb⟩:=uC o;exact ed o fun w L g A d ty pos after guard I=>by have E:=zW w L g A I;have F:=Ac _ _ _ _ (ha w L g A (I a rO));have h3:=hvb _ _ _ _ (M w L g A (I b rO));generalize aF:A c=abs at E;cases E;refine⟨.bool (cond x va vW),?_,.bool⟩;simp only[execOp,aF,F,h3,asBool,bJ,da,cb];cases x<;>rfl|_=>cases o
def aeY(hT:bl P T){J h ae}(hf:h[ae]?=some .fresh){t:TypeId}{K}(o:cH T J h ae (.alloc t) K):aN P J h (.alloc t) K:=by
 replace o:=b4 hT o;have Q:∃i,P.info? t=some i/\(bk P t).zero=zeroOf i:=by cases Q:P.info? t with|none=>simp only[bk,Q]at o;cases o|some i=>exact⟨i,rfl,by simp[bk,Q]⟩
 have⟨i,Q,hz⟩:=Q;rw[hz]at o;have⟨o,z,d8,HY,hi,_⟩:=abZ o;refine⟨_,_,_,o,fun w X g F A d ty pos after guard O I ap=>?_,sM⟩;have cE:=(ap ae sM).trans hf;have⟨hl,D⟩:=Fe (w:=w) (L:=Ex X g) (g:=g) hi;rw[<-HY]at hl D;have hn:=YM O cE (t:=t) hl D;unfold ea bO
 rw[show execOp A ⟨d,.alloc t,ty,pos,after,guard⟩=(do pure (.value (<-Instr.alloc t true (.tuple #[]))))from rfl,
  cu (v:=.pointer (some ⟨w.heap.size,0,none⟩)) (w':=w.alloc (.cells z.cells t)) (by simp[Instr.alloc,zeroValue,EM Q,d8,newVar,newRow])]
 exact hn
def af5{J h ae}(hf:h[ae]?=some .fresh){t:TypeId}{x K}(o:cH T J h ae (.box t x) K):aN P J h (.box t x) K:=by
 have⟨s,o,hx⟩:=bS o;have⟨c,o,hc⟩:=Cc o;refine⟨_,_,_,o,fun w X g F A d ty pos after guard O I ap=>?_,sM⟩;have cE:=(ap ae sM).trans hf;have⟨hl,D⟩:=hc w _ g _ (hx w _ g A (I x rO));have hn:=YM O cE (t:=t) hl D;unfold ea bO
 rw[show execOp A ⟨d,.box t x,ty,pos,after,guard⟩=(do pure (.value (<-Instr.box t (A x))))from rfl,
  cu (v:=.pointer (some ⟨w.heap.size,0,none⟩)) (w':=w.alloc (.cells (A x).cells t)) (by simp[Instr.box,newVar,newRow])]
 exact hn
def TH(hT:bl P T){J h ae op}{t ag:TypeId}{x y K}(o:cH T J h ae (.binOp op t x y ag) K):aN P J h (.binOp op t x y ag) K:=by have⟨sx,o,hx⟩:=bS o;have⟨sy,o,hy⟩:=bS o;have⟨s,o,M⟩:=Lv hT o;exact ed o fun w L g A d ty pos after guard I=>by have⟨v,hv,D⟩:=M w L g _ _ x y (hx w L g A (I x rO)) (hy w L g A (I y rO));exact⟨v,cu hv,D⟩
def aup{J h ae op}{t:TypeId}{x K}(o:cH T J h ae (.unOp op t x) K):aN P J h (.unOp op t x) K:=by have⟨sx,o,hx⟩:=bS o;have⟨s,o,M⟩:=auo (P:=P) o;exact ed o fun w L g A d ty pos after guard I=>by have⟨v,hv,D⟩:=M w L g _ (hx w L g A (I x rO));exact⟨v,cu hv,D⟩
def aiS{J h ae x i K}(o:cH T J h ae (.extract x i) K):aN P J h (.extract x i) K:=by
 have⟨sx,o,hx⟩:=bS o;cases sx with
 |tup vs=>
  have⟨s,hs,o⟩:=bg o;exact ed o fun w L g A d ty pos after guard I=>by
   have E:=hx w L g A (I x rO);generalize aF:A x=vx at E;cases E with
   |tup hl hc=>
    rename_i auu;have Q:i<auu.size:=by rw[<-hl];exact(ao.1 hs).1
    have hv:=c4 Q;exact⟨_,cu (by rw[aF];simp[Instr.extract,hv]),hc i s _ hs hv⟩
 |_=>cases o
def aiV(hT:bl P T){J h ae}{t:TypeId}{x f K}(o:cH T J h ae (.field t x f) K):aN P J h (.field t x f) K:=by
 replace o:=b4 hT o;have⟨sx,o,hx⟩:=bS o;generalize ax:(bk P t).ti=ti at o;obtain⟨fs,cs,xU,th,o⟩:∃fs cs,ti=.struct fs/\sx=.agg cs/\av fs f fun p=>r7 T cs p.1 p.2.1 fun s=>K s [] []:=by grind
 subst xU;subst th;have⟨q,hq,o⟩:=bg o;have⟨s,n,b,ga,E,F,h3,h4⟩:=tG hT o;obtain⟨fields,hu,jP,_⟩:=vV (bm ax (by simp)).1;subst jP;rw[bz,eF]at hq;cases xy:fields[f]? with|none=>simp_all|some CC=>rw[xy]at hq;simp at hq;subst hq;exact ed ga fun w L g A d ty pos after guard I=>by have D:=hx w L g A (I x rO);generalize aF:A x=vx at D;cases D with|agg hl cX hc=>have⟨v,hv,bb⟩:=PV (P:=P) (w:=w) (E w) (F w) h3 h4 hl cX hc;exact⟨v,cu (by rw[aF];simp[Instr.field,bB hu,xy,asAgg,hv]),bb⟩
def H_(hT:bl P T){J h ae}{t:TypeId}{x i K}(o:cH T J h ae (.index t x i) K):aN P J h (.index t x i) K:=by
 replace o:=b4 hT o;have⟨sx,o,hx⟩:=bS o;have⟨si,o,Q⟩:=bS o;generalize ax:(bk P t).ti=ti at o;obtain⟨s,q,n,xU,th,DC,o⟩:∃s q n,ti=.str/\sx=.str s/\si=.int q n/\(0<=n/\n<(s.length:Int))/\K (.int .u8 ((s.getD n.toNat 0).toNat:Int)) [] []:=by cases ti with|str=>grind|_=>simp_all
 subst xU;subst th;subst DC;have hu:=qG (bm ax (by simp)).1;have⟨⟨h0,E⟩,o⟩:=o;exact ed o fun w L g A d ty pos after guard I=>by
  have D:=hx w L g A (I x rO);have dB:=Q w L g A (I i rO);generalize aF:A x=vx at D;generalize jU:A i=vX at dB;cases D;cases dB;have ai:n.toNat<s.length:=G;have bc:(⟨s.toArray⟩:ByteArray)[n.toNat]?=some s[n.toNat]:=by rw[getElem?_pos (⟨s.toArray⟩:ByteArray) n.toNat (by simpa[ByteArray.size]using ai)];rfl
  refine⟨_,cu (v:=.int .u8 ((s.getD n.toNat 0).toNat:Int)) ?_,.int⟩;rw[aF,jU];simp[Instr.index,asIntOf,bB hu,h0,bc,mK,aD ai]
def aol{J h ae x K}(o:cH T J h ae (.nilCheck x) K):aN P J h (.nilCheck x) K:=by
 have⟨sx,o,hx⟩:=bS o;cases sx<;>try cases o
 all_goals
  exact ed o fun w L g A d ty pos after guard I=>by
   have D:=hx w L g A (I x rO)
   refine⟨A x,?_,D⟩
   generalize aF:A x=vx at D
   cases D<;>simp[execOp,aF]
def aiU(hT:bl P T){J h ae}{t:TypeId}{x f K}(o:cH T J h ae (.fieldAddr t x f) K):aN P J h (.fieldAddr t x f) K:=by
 replace o:=b4 hT o;have⟨sx,o,hx⟩:=bS o;generalize ax:(bk P t).ti=ti at o;cases ti with
 |struct fs=>
  have⟨fields,hu,jP,Di⟩:=vV (bm ax sM).1;have key:∀{q},fs[f]?=some q->q.2.2≠0->∀(w:World)(A:Operand->Value)(a:Addr),A x=.pointer (some a)->
   (Instr.fieldAt t (A x) f).run P w=.ok (.pointer (some (a.add q.1))) w:=by
   intro q hq cW w A a ha
   subst jP
   rw[bz,eF]at hq
   cases xy:fields[f]? with
   |none=>simp_all
   |some CC=>
    rw[xy]at hq
    simp at hq;subst hq
    have am:=Di CC (by grind)
    have⟨i,Q⟩:=FE.1 am
    exact J7
  cases sx with
  |ptr b off=>have⟨q,hq,o⟩:=bg o;have⟨cW,o⟩:=D9 o;exact ed o fun w L g A d ty pos after guard I=>by have D:=hx w L g A (I x rO);generalize aF:A x=vx at D;cases D with|ptr h'=>exact⟨_,cu (key hq cW w A _ aF),by rw[lf];exact .ptr h'⟩|eD h'=>exact⟨_,cu (key hq cW w A _ aF),by rw[lf];exact .eD h'⟩
  |ep b i aa=>have⟨q,hq,o⟩:=bg o;have⟨cW,o⟩:=D9 o;exact ed o fun w L g A d ty pos after guard I=>by have D:=hx w L g A (I x rO);generalize aF:A x=vx at D;cases D with|ep h'=>exact⟨_,cu (key hq cW w A _ aF),by rw[lf,sB];exact .ep h'⟩|hb h'=>exact⟨_,cu (key hq cW w A _ aF),by rw[lf];exact .hb h'⟩
  |rp z es i aa=>have⟨q,hq,o⟩:=bg o;have⟨cW,o⟩:=D9 o;exact ed o fun w L g A d ty pos after guard I=>by have D:=hx w L g A (I x rO);generalize aF:A x=vx at D;cases D with|rp hE ai hlen d2 cX bb=>exact⟨_,cu (key hq cW w A _ aF),by rw[add_add,sB];exact .rp hE ai hlen d2 cX bb⟩
  |_=>cases o
 |_=>simp_all
end
section
variable{P:Program} {T:aG}
def oc{t:TypeId}{k}(h:iq (bk P t).zero k):∃i z,P.info? t=some i/\(bk P t).size=i.size/\(bk P t).bytes=i.bytes/\(bk P t).zero=z.cells.toList.map qA/\i.zero=some z/\(∀v∈z.cells.toList,v.oneCell'=true)/\z.cells.size=i.size/\k (bk P t).zero:=by
 cases Q:P.info? t with
 |none=>simp only[bk,Q]at h;cases h
 |some i=>
  have e:(bk P t).zero=zeroOf i:=by simp[bk,Q]
  rw[e]at h⊢;have⟨o,z,E,F,h3,h4⟩:=abZ h;exact⟨i,z,rfl,by simp[bk,Q],by simp[bk,Q],F,E,h3,h4,o⟩
def aga(hT:bl P T){J h ae}{t:TypeId}{ps K}(o:cH T J h ae (.build t ps) K):aN P J h (.build t ps) K:=by
 replace o:=b4 hT o;generalize ax:(bk P t).ti=ti at o;cases ti with
 |struct fs=>
  obtain⟨i,z,Q,_,_,hz,d8,hi,_,o⟩:=oc o;rw[hz]at o;obtain⟨cs,o,M⟩:=TP ps.toList o;obtain⟨fields,hu,jP,Di⟩:=vV (bm ax (by simp)).1;have alb:fields.toList.mapM (fun f=>(P.info? f.type).map fun i=>(f.offset,i.size))=some (fields.toList.map fun f=>(f.offset,P.cellsOf f.type)):=by
   have:∀l:List Field,(∀f∈l,(P.info? f.type).isSome=true)->l.mapM (fun f=>(P.info? f.type).map fun i=>(f.offset,i.size))=some (l.map fun f=>(f.offset,P.cellsOf f.type)):=by intro l;induction l with|nil=>intro _;rfl|cons f l ih=>intro hl;obtain⟨j,hj⟩:=FE.1 (hl f (by simp));simp[List.mapM_cons,hj,ih fun u U=>hl u (by simp[U]),Program.cellsOf]
   exact this _ Di
  exact ed o fun w L g A d ty pos after guard I=>by
   obtain⟨cP,rG,hl,hc⟩:=M w L g A z.cells (fun p hp=>I p.2 (by simp only[Op.operands,ew];grind)) (Fe hi);refine⟨.agg cP,cu (m:=Instr.build t (ps.map fun(i,x)=>(i,A x))) (run_build w t _ cP ?_),.agg hl (fun j v hv=>?_) fun j s v hs hv=>(hc j s v hs hv).1⟩;unfold Program.built;simp only[Q,hu,d8,alb];have e:(fun x=>((fields.toList.map fun f=>(f.offset,P.cellsOf f.type)).toArray[x]?:Option (Nat×Nat)))=fun i:Nat=>(fs[i]?).map fun q:Nat×TypeId×Nat=>(q.1,q.2.2):=by funext x;subst jP;simp only[lG,bz];cases fields.toList[x]?<;>rfl
   have e2:(ps.map fun(i,x)=>(i,A x)).toList=ps.toList.map fun p=>(p.1,A p.2):=by simp
   grind;exact Ka
 |array n e=>
  replace o:=b4 hT (show aX T e _ from o);obtain⟨alS,auN,g9,_,_,_,_,_,_,o⟩:=oc o;split at o;rename_i xN;obtain⟨i,z,Q,_,_,hz,d8,hi,_,o⟩:=oc o;rw[hz]at o;have hu:=vU (bm ax (by simp)).1;exact ed o fun w L g A d ty pos after guard I=>by
   obtain⟨hl,D⟩:=Fe (w:=w) (L:=L) (g:=g) hi;refine⟨.agg z.cells,cu (m:=Instr.build t (ps.map fun(i,x)=>(i,A x))) (run_build w t _ z.cells ?_),.agg hl (fun j v hv=>?_) fun j s v hs hv=>(D j s v hs hv).1⟩;unfold Program.built;simp only[Q,hu,d8,g9];have e2:(ps.map fun(i,x)=>(i,A x)).toList=[]:=by simp[xN]
   rw[e2];rfl;grind
  exact o.elim
 |_=>exact o.elim
def Fg{w}{L}{z:Value}{n sz}(dY:z.cells.size=sz)(cX:∀v∈z.cells.toList,v.oneCell'=true):y_ w L sz (List.replicate n (z.cells.toList.map qA)) ((Array.range (n*sz)).map (z.cells[· % z.cells.size]!)):=by
 intro i e H;have Q:i<n:=by have:=(ao.1 H).1;simpa using this
 rw[List.getElem?_replicate,au Q]at H;simp at H;subst H;refine⟨by simpa using dY,fun j s hs=>?_⟩;have hj:j<z.cells.size:=by have:=(ao.1 hs).1;simpa using this
 have ai:i*sz+j<n*sz:=by have:=e8 sz Q;rw[oC]at this;omega
 have awh:(i*sz+j)% z.cells.size=j:=by rw[dY,BJ,Nat.mul_add_mod];exact Fq G
 refine⟨z.cells[j],?_,?_,cX _ sM⟩;grind;rw[bz,eF,c4 hj]at hs;simp at hs;subst hs;exact Qo _
def af7(hT:bl P T){J}{h}{ae}(hf:h[ae]?=some .fresh){t:TypeId}{n}{ps}{K}(o:cH T J h ae (.buildSlice t n ps) K):aN P J h (.buildSlice t n ps) K:=by
 replace o:=b4 hT o;generalize ax:(bk P t).ti=ti at o;cases ti with
 |slice e=>
  replace o:=b4 hT o;have⟨i,z,Q,iW,_,hz,d8,hi,kW,o⟩:=oc o;have⟨HN,o⟩:=qq o;have⟨dX,o⟩:=qq o;replace o:=Jm o;have⟨es,o,hlen,M⟩:=ail ps.toList o;have hu:=fi (bm ax sM).1;refine⟨_,_,_,o,fun w X g F A d ty pos after guard O I ap=>?_,sM⟩;have cE:=(ap ae sM).trans hf;rw[iW]at M HN dX⊢;obtain⟨vs,rG,hl,cN⟩:=M w (Ex X g) g A ((Array.range (n*i.size)).map (z.cells[· % z.cells.size]!)) (fun p hp=>I p.2 (by simp only[Op.operands,ew];grind)) sM
   (by rw[hz];exact Fg kW hi)
  have dg:es.length=n:=by rw[hlen];simp
  unfold ea bO;rw[show execOp A ⟨d,.buildSlice t n ps,ty,pos,after,guard⟩=(do pure (.value (<-Instr.buildSlice t n (ps.map fun(i,x)=>(i,A x)))))from rfl];have a7:(Instr.buildSlice t n (ps.map fun(i,x)=>(i,A x))).run P w=.ok (.slice (some ⟨w.heap.size,0,none⟩) n n) (w.alloc (.cells vs e)):=by exact adx
  rw[cu a7];have:=PA O cE (t:=e) (sz:=i.size) (cap:=n) (es:=es) (vs:=vs) G (by simp only[maxLen];have:=Nat.le_mul_of_pos_right n dX;omega) (by rw[hl,dg]) cN;simp_all
 |_=>cases o
def ann{J h ae fn a b K}(o:cH T J h ae (.makeFunc fn a b) K):aN P J h (.makeFunc fn a b) K:=by
 cases fn with
 |func f=>
  replace o:(match Fn.func f,a.toList with|.func f,[]=>mT J b.toList fun l=>K (.fn f l) [] []|_,_=>False):=o;cases ha:a.toList with
  |nil=>
   rw[ha]at o;have⟨ss,ga,hs⟩:=nN o;have g6:a= #[]:=by simpa using ha
   exact ed ga fun w L g A d ty pos after guard I=>by have D:=hs w L g A fun y hy=>I y (by simp[Op.operands];simp_all);refine⟨.func (.func f) #[] (b.map A),cu (m:=Instr.makeFunc (.func f) (a.map A) (b.map A)) (by simp[Instr.makeFunc,g6]),.fn (by have:=D.1;simpa using this) fun j s v bW hv=>D.2 j s v bW ?_⟩;simp_all
  |cons _ _=>simp_all
 |_=>cases o
end
section
variable{P:Program} {T:aG}
def sN{J x d k}(h:cH.pP J x d k):∃n:Int,k n/\((x=none/\n=d)\/ ∃y,x=some y/\∀w L g A,bA w L g J A y->∃q,A y=.int q n):=by cases x with|none=>exact⟨d,h,.inl ⟨rfl,rfl⟩⟩|some y=>have⟨s,h,hs⟩:=bS h;cases s with|int q n=>exact⟨n,h,.inr ⟨y,rfl,fun w L g A I=>⟨q,by have:=hs w L g A I;generalize A y=v at this;cases this;rfl⟩⟩⟩|_=>cases h
def wT{isSlice}{len cap:Nat}{lo Q}{l ag:Int}{A:Operand->Value}{w} (hl:(lo=none/\l=0)\/ ∃y,lo=some y/\∃q,A y=.int q l)(hu:(Q=none/\ag=len)\/ ∃y,Q=some y/\∃q,A y=.int q ag)(h0:0<=l)(E:l<=ag)(F:ag<=(cap:Int)):(Instr.sliceBounds isSlice len cap (lo.map A) (Q.map A) none).run P w=.ok (l.toNat,ag.toNat,cap) w:=by
 have M:∀(v:Value)(q:IntKind)(n:Int)(y:Nat)(c:BoundsCode),v=.int q n->0<=n->n<=(y:Int)->(Instr.sliceBound v y c).run P w=.ok n.toNat w:=by intro v q n y c hv h0 E;subst hv;simp[Instr.sliceBound,asIntOf,h0,E]
 unfold Instr.sliceBounds;rcases hu with⟨rfl,rfl⟩|⟨yH,rfl,Jh,xZ⟩<;>rcases hl with⟨rfl,rfl⟩|⟨auM,rfl,Qa,HV⟩;simp;simp_all;simp_all;simp only[nC,bJ,da,cb,M _ Jh ag cap _ xZ (by omega) F,M _ Qa l ag.toNat _ HV h0 (by omega)]
def QI(hT:bl P T){J h ae}{t:TypeId}{x lo Q mx K}(o:cH T J h ae (.slice t x lo Q mx) K):aN P J h (.slice t x lo Q mx) K:=by
 replace o:=b4 hT o;have⟨sx,o,hx⟩:=bS o;generalize ax:(bk P t).ti=ti at o;cases mx with
 |some _=>cases o
 |none=>
  have⟨l,o,hl⟩:=sN o;have fo:∀w L g A,(∀z∈(Op.slice t x lo Q none).operands.toList,bA w L g J A z)->(lo=none/\l=0)\/ ∃y,lo=some y/\∃q,A y=.int q l:=fun w L g A I=>by rcases hl with⟨E,F⟩|⟨y,hy,D⟩;simp_all;exact yK
  cases ti with
  |str=>
   have hu:=qG (bm ax sM).1;cases sx with
   |str s=>
    have⟨ag,⟨⟨h0,E,F⟩,o⟩,N2⟩:=sN o;exact ed o fun w L g A d ty pos after guard I=>by
     have D:=hx w L g A (I x rO);generalize aF:A x=vx at D;cases D;have l3:(Q=none/\ag=s.length)\/ ∃y,Q=some y/\∃q,A y=.int q ag:=by exact Kc
     have dY:(⟨s.toArray⟩:ByteArray).size=s.length:=by simp[ByteArray.size]
     have M:=wT (P:=P) (w:=w) (isSlice:=false) (len:=s.length) (cap:=s.length) (fo w L g A I) l3 h0 E F;refine⟨.string ⟨((s.take ag.toNat).drop l.toNat).toArray⟩,cu (m:=Instr.sliceAt t (A x) (lo.map A) (Q.map A) none) ?_,.str⟩;rw[aF];simp only[Instr.sliceAt,Instr.slice,bJ,bB hu,cb,dY,M,Option.isSome_none,dI,ek,da];rw[Lib.extract_eq];have:(List.drop l.toNat s).take (ag.toNat-l.toNat)=(s.take ag.toNat).drop l.toNat:=by rw[List.drop_take]
     simp only[this]
   |_=>cases o
  |slice e=>
   have hu:=fi (bm ax sM).1;cases sx with
   |rs z es=>
    have⟨sz,h1,o,_,hn⟩:=kY hT o;cases M:Nat.beq sz z with
    |false=>simp_all
    |true=>
     rw[M]at o;have⟨ag,⟨⟨h0,E,F⟩,ga⟩,N2⟩:=sN o;have kX:=gS M;subst kX;exact ed ga fun w L g A d ty pos after guard I=>by
      have D:=hx w L g A (I x rO);have l3:(Q=none/\ag=es.length)\/ ∃y,Q=some y/\∃q,A y=.int q ag:=by exact Kc
      have hlen:((es.take ag.toNat).drop l.toNat).length=ag.toNat-l.toNat:=sO;have key:∀a c,es.length<=c->c<=maxLen->A x=.slice a es.length c->
       af w L g (.rs sz ((es.take ag.toNat).drop l.toNat)) (.slice (if c=l.toNat then a else a.map (·.add (l.toNat*sz))) (ag.toNat-l.toNat) (c-l.toNat))->
       ∃v,(execOp A ⟨d,.slice t x lo Q none,ty,pos,after,guard⟩).run P w=.ok (.value v) w/\af w L g (.rs sz ((es.take ag.toNat).drop l.toNat)) v:=by
       intro a c hc hm aF bb
       have M:=wT (P:=P) (w:=w) (isSlice:=true) (len:=es.length) (cap:=c) (fo w L g A I) l3 h0 E G
       refine⟨_,cu (m:=Instr.sliceAt t (A x) (lo.map A) (Q.map A) none) ?_,bb⟩
       rw[aF]
       simp only[Instr.sliceAt,Instr.slice,bJ,bB hu,cb,M,hn w,da]
      generalize aF:A x=vx at D;cases D with
      | @hJ _ _ a c hc=>
       refine key a c sM hc aF ?_;have e0:(([]:List (List SV)).take ag.toNat).drop l.toNat=[]:=sM;rw[e0];have:ag.toNat-l.toNat=0:=by simp at F;omega
       rw[this];exact .hJ G
      | @rs _ _ _ ec c val hc hm hE ai nS d2 cX bb=>
       refine key (some ec) c hc hm aF ?_;by_cases o6:(es.take ag.toNat).drop l.toNat=[];rw[o6]at hlen⊢;simp at hlen;rw[<-hlen];exact .hJ G;have dX:0<((es.take ag.toNat).drop l.toNat).length:=SB.2 o6;rw[ay (by omega),<-hlen];have bc:∀i e',((es.take ag.toNat).drop l.toNat)[i]?=some e'->es[l.toNat+i]?=some e':=fun i e' H=>by grind
       have hmul:∀i j,(ec.add (l.toNat*sz)).add (i*sz+j)=ec.add ((l.toNat+i)*sz+j):=fun i j=>by rw[add_add,jg,sB]
       refine .rs (ec:=ec.add (l.toNat*sz)) (val:=fun i j=>val (l.toNat+i) j) G G (by rw[ze];exact hE) (by rw[ze];exact ai)
        (fun i e' H=>nS _ e' (bc i e' H)) (fun i e' j s H hs=>by grind) (fun i e' j s H hs=>cX _ e' j s (bc i e' H) hs) fun i e' j s H hs=>bb _ e' j s (bc i e' H) hs
   |_=>cases o
  |_=>simp_all
def Yi(hT:bl P T){J h ae}(hf:h[ae]?=some .fresh){t:TypeId}{x y K}(o:cH T J h ae (.makeSlice t x y) K):aN P J h (.makeSlice t x y) K:=by
 replace o:=b4 hT o;generalize ax:(bk P t).ti=ti at o;cases ti with
 |slice e=>
  replace o:=b4 hT o;have⟨i,z,Q,iW,jM,hz,d8,hi,kW,o⟩:=oc o;have⟨sx,o,hx⟩:=bS o;have⟨sy,o,hy⟩:=bS o;have hu:=fi (bm ax sM).1;obtain⟨q1,n,q2,c,th,hsy,⟨hc,h0,M,sW,dX⟩,ga⟩:∃q1 n q2 c,sx=.int q1 n/\sy=.int q2 c/\(c=n/\0<=n/\n*(bk P e).bytes<=281474976710656/\n<=9223372036854775807/\0<(bk P e).size)/\
   K (.sl ae) [(ae,.row e (bk P e).size (List.replicate n.toNat (bk P e).zero))] [ae]:=by
   grind
  subst th;subst hsy;subst hc;refine⟨_,_,_,ga,fun w X g F A d ty pos after guard O I ap=>?_,sM⟩;have cE:=(ap ae sM).trans hf;have r1:=hx w _ g A (I x rO);have r2:=hy w _ g A (I y rO);generalize HZ:A x=vx at r1;generalize DJ:A y=vy at r2;cases r1;cases r2;rw[iW]at dX⊢;rw[jM]at M;obtain⟨n,rfl⟩:=oD h0;have a7:=run_make (P:=P) w t e i z hu Q d8 q1 q2 (n:Int) (n:Int) G G (by grind) sW;unfold ea bO;rw[show execOp A ⟨d,.makeSlice t x y,ty,pos,after,guard⟩=(do pure (.value (<-Instr.makeSlice t (A x) (A y))))from rfl,HZ,DJ,cu a7];have hm:madeCells z.cells (n*i.size)=(Array.range (n*i.size)).map (z.cells[· % z.cells.size]!)\/n*i.size=0:=by by_cases h0:n*i.size=0;exact .inr h0;exact .inl (by simp[madeCells])
  have:=PA O cE (t:=e) (sz:=i.size) (cap:=n) (es:=List.replicate n (z.cells.toList.map qA)) (vs:=madeCells z.cells (n*i.size)) sM (by simp only[maxLen];omega)
   (by rcases hm with hm|hm<;>simp[madeCells]) (by
    rcases hm with hm|hm
    ·rw[hm];exact Fg kW hi
    ·have:n=0:=by rcases Nat.mul_eq_zero.1 hm with h|h<;>omega
     grind)
  grind
 |_=>cases o
end
section
variable{P:Program} {T:aG}
def F8(w:World)(e:TypeId)(size:Nat)(v:Value)(n:Nat)(xs:List Value):Prop:=
 xs.length=n*size/\((v=.slice none 0 0/\n=0)\/
  ∃u cap cur,v=.slice (some ⟨u,0,none⟩) n cap/\gj w u cur e/\n<=cap/\cap<=maxLen/\cur.size=cap*size/\cur.toList.take (n*size)=xs)
def FY(w:World)(e:TypeId)(size:Nat)(v:Value)(n m:Nat)(all:List Value)(v':Value)(w':World):Prop:=
 (v=.slice none 0 0/\n+m=0/\v'=.slice none 0 0/\w'=w)\/
 (∃u cap cur un,v=.slice (some ⟨u,0,none⟩) n cap/\gj w u cur e/\v'=.slice (some ⟨u,0,none⟩) (n+m) cap/\w'=w.setRow u un/\un.size=cur.size/\n+m<=cap/\cap<=maxLen/\cur.size=cap*size/\un.toList.take ((n+m)*size)=all)\/
 (∃cap cur,v'=.slice (some ⟨w.heap.size,0,none⟩) (n+m) cap/\w'=w.drew.alloc (.cells cur e)/\n+m<=cap/\cap<=maxLen/\cur.size=cap*size/\cur.toList.take ((n+m)*size)=all)
def Tn(w)(t ag ty e:TypeId)(du:TypeDesc)(i:TypeInfo)(ht:P.underlying t=some (.slice e))(hu:P.underlying ag=some du)(fC:(∃e',du=.slice e')\/du=.string) (Q:P.info? e=some i)(x)(hlen:∀w':World,(Builtin.lenOf x).run P w'=.ok 0 w')(kl:(Builtin.firstCells i.size 0 x).run P w=.ok #[] w):(Builtin.append_ #[t,ag] ty #[.slice none 0 0,x]).run P w=.ok (.slice none 0 0) w:=by rcases fC with⟨e',rfl⟩|rfl<;>simp[Builtin.append_,en ht,en hu,sizeOf,typeInfo,Q,hlen,kl]
def Le(w)(t ag ty e:TypeId)(du:TypeDesc)(i:TypeInfo)(z)(ht:P.underlying t=some (.slice e))(hu:P.underlying ag=some du)(fC:(∃e',du=.slice e')\/du=.string) (Q:P.info? e=some i)(hz:i.zero=some z)(x)(m)(news:List Value)(hlen:∀w':World,(Builtin.lenOf x).run P w'=.ok m w')(kl:(Builtin.firstCells i.size m x).run P w.drew=.ok news.toArray w.drew) (hn:m≠0)(lV:¬(9223372036854775807<(m:Int)))(lU:¬(281474976710656<Builtin.nextslicecap m 0*i.bytes)):(Builtin.append_ #[t,ag] ty #[.slice none 0 0,x]).run P w=.ok (.slice (some ⟨w.heap.size,0,none⟩) m (grownCap w m 0 e)) (w.drew.alloc (.cells (news.toArray++Builtin.zeroCells z.cells (grownCap w m 0 e-m)) e)):=by rcases fC with⟨e',rfl⟩|rfl<;>simp[Builtin.append_,en ht,en hu,sizeOf,typeInfo,zeroValue,Q,hz,hlen,hn,lV,lU,Question.forced,run_firstCells_none,kl,newRow,grownCap]
def afb(w)(t ag ty e:TypeId)(du:TypeDesc)(i:TypeInfo)(ht:P.underlying t=some (.slice e))(hu:P.underlying ag=some du)(fC:(∃e',du=.slice e')\/du=.string) (Q:P.info? e=some i)(x)(m)(news)(hlen:∀w':World,(Builtin.lenOf x).run P w'=.ok m w')(kl:(Builtin.firstCells i.size m x).run P w=.ok news.toArray w) (u n cap)(w')(fd:n+m<=cap)(bQ:(storeCells ⟨u,n*i.size,none⟩ news 0).run P w=.ok () w'):(Builtin.append_ #[t,ag] ty #[.slice (some ⟨u,0,none⟩) n cap,x]).run P w=.ok (.slice (some ⟨u,0,none⟩) (n+m) cap) w':=by rcases fC with⟨e',rfl⟩|rfl<;>simp[Builtin.append_,en ht,en hu,sizeOf,typeInfo,Q,hlen,fd,kl,Addr.add_lit,bQ]
def ae7(w)(t ag ty e:TypeId)(du:TypeDesc)(i:TypeInfo)(z)(ht:P.underlying t=some (.slice e))(hu:P.underlying ag=some du)(fC:(∃e',du=.slice e')\/du=.string) (Q:P.info? e=some i)(hz:i.zero=some z)(x)(m)(news:List Value)(hlen:∀w':World,(Builtin.lenOf x).run P w'=.ok m w')(kl:(Builtin.firstCells i.size m x).run P w.drew=.ok news.toArray w.drew) (u n cap)(xs:List Value)(hn:¬(n+m<=cap))(lV:¬(9223372036854775807<((n:Int)+(m:Int))))(lU:¬(281474976710656<Builtin.nextslicecap (n+m) cap*i.bytes)) (s3:(Builtin.firstCells i.size n (.slice (some ⟨u,0,none⟩) n cap)).run P w.drew=.ok xs.toArray w.drew):(Builtin.append_ #[t,ag] ty #[.slice (some ⟨u,0,none⟩) n cap,x]).run P w=.ok (.slice (some ⟨w.heap.size,0,none⟩) (n+m) (grownCap w (n+m) cap e)) (w.drew.alloc (.cells (xs.toArray++news.toArray++Builtin.zeroCells z.cells (grownCap w (n+m) cap e-(n+m))) e)):=by exact ab8
def aaK(w)(e:TypeId)(i:TypeInfo)(z:Value)(n6:z.cells.size=i.size)(f:Value->Sem Value) (v)(n)(xs)(br:F8 w e i.size v n xs) (m)(news)(hl:news.length=m*i.size)(E:∀ag∈news,ag.oneCell'=true) (sW:n+m<=maxLen)(jM:(n+m)*i.bytes<=140737488355328) (R0:m=0->(f (.slice none 0 0)).run P w=.ok (.slice none 0 0) w) (R1:m≠0->¬(9223372036854775807<(m:Int))->¬(281474976710656<Builtin.nextslicecap m 0*i.bytes)->(f (.slice none 0 0)).run P w=.ok (.slice (some ⟨w.heap.size,0,none⟩) m (grownCap w m 0 e)) (w.drew.alloc (.cells (news.toArray++Builtin.zeroCells z.cells (grownCap w m 0 e-m)) e))) (R2:∀u n cap w',n+m<=cap->(storeCells ⟨u,n*i.size,none⟩ news 0).run P w=.ok () w'->(f (.slice (some ⟨u,0,none⟩) n cap)).run P w=.ok (.slice (some ⟨u,0,none⟩) (n+m) cap) w') (R3:∀(u n cap:Nat)(xs:List Value),¬(n+m<=cap)->¬(9223372036854775807<((n:Int)+(m:Int)))->¬(281474976710656<Builtin.nextslicecap (n+m) cap*i.bytes)->(Builtin.firstCells i.size n (.slice (some ⟨u,0,none⟩) n cap)).run P w.drew=.ok xs.toArray w.drew->(f (.slice (some ⟨u,0,none⟩) n cap)).run P w=.ok (.slice (some ⟨w.heap.size,0,none⟩) (n+m) (grownCap w (n+m) cap e)) (w.drew.alloc (.cells (xs.toArray++news.toArray++Builtin.zeroCells z.cells (grownCap w (n+m) cap e-(n+m))) e))):∃v' w',(f v).run P w=.ok v' w'/\FY w e i.size v n m (xs++news) v' w':=by
 have HN:n+m<=9223372036854775807:=by simp only[maxLen]at sW;omega
 have av6:(xs++news).length=(n+m)*i.size:=by rw[c_,br.1,hl,jg]
 have grown:∀old,old<n+m->
  n+m<=grownCap w (n+m) old e/\grownCap w (n+m) old e<=maxLen/\
  (xs.toArray++news.toArray++Builtin.zeroCells z.cells (grownCap w (n+m) old e-(n+m))).size=grownCap w (n+m) old e*i.size/\
  (xs.toArray++news.toArray++Builtin.zeroCells z.cells (grownCap w (n+m) old e-(n+m))).toList.take ((n+m)*i.size)=xs++news:=by
  intro old I
  have hk:=FF w (n+m) old e
  have mX:=KE w (n+m) old e sW
  refine⟨hk,mX,?_,?_⟩
  ·simp only[KF,FC,BK,n6,br.1,hl,<-jg]
   simp_all
  ·grind
 rcases br.2 with⟨rfl,rfl⟩|⟨u,cap,cur,rfl,U,xK,mX,co,NZ⟩;have hx:=pH (by simpa using br.1);subst hx;by_cases hm:m=0;subst hm;have hn:=pH (by simpa using hl);refine⟨.slice none 0 0,w,?_,.inl ⟨rfl,rfl,rfl,rfl⟩⟩;exact R0 rfl;have s6:=grown 0 G;simp only[jE,SC,Array.empty_append]at s6⊢;have hn:m≠0:=hm;have lV:¬(9223372036854775807<(m:Int)):=by omega
 have lU:¬(281474976710656<Builtin.nextslicecap m 0*i.bytes):=by rw[SD G];have M:=jM;simp only[jE]at M;omega
 refine⟨_,_,?_,.inr (.inr ⟨_,_,by rw[jE],rfl,by simpa using s6.1,s6.2.1,s6.2.2.1,by simp_all⟩)⟩;simp_all;by_cases fd:n+m<=cap;have jp:n*i.size+news.length<=cur.size:=by rw[hl,co,<-jg];exact e8 _ fd
 have bQ:=yw (P:=P) u (n*i.size) e news 0 cur w U (by simpa using jp) E
 refine⟨.slice (some ⟨u,0,none⟩) (n+m) cap,w.setRow u (cur.toList.take (n*i.size)++news++cur.toList.drop (n*i.size+news.length)).toArray,?_,
  .inr (.inl ⟨u,cap,cur,_,rfl,U,rfl,rfl,?_,fd,mX,co,?_⟩)⟩
 exact R2 u n cap _ fd bQ;simp;omega;grind;have holds:∀j ag,xs[j]?=some ag->w.drew.cell? ((⟨u,0,none⟩:Addr).add j)=some ag:=by intro j ag hj;have⟨fr,U,_⟩:=U;rw[oQ (w:=w.drew) U 0 j,jE];rw[<-NZ,je]at hj;split at hj;simpa using hj;simp at hj
 have hn:=fd;have lV:¬(9223372036854775807<((n:Int)+(m:Int))):=by omega
 have lU:¬(281474976710656<Builtin.nextslicecap (n+m) cap*i.bytes):=by have:=growslice_fits (old:=cap) (need:=n+m) G jM;omega
 have s3:=FG (P:=P) w.drew i.size n ⟨u,0,none⟩ n cap xs br.1 holds;have s6:=grown cap G;refine⟨_,_,?_,.inr (.inr ⟨_,_,rfl,rfl,s6.1,s6.2.1,s6.2.2.1,s6.2.2.2⟩)⟩;grind
def asu(w)(t ag ty e:TypeId)(du:TypeDesc)(i:TypeInfo)(z)(size bytes)(ht:P.underlying t=some (.slice e))(hu:P.underlying ag=some du)(fC:(∃e',du=.slice e')\/du=.string) (Q:P.info? e=some i)(hz:i.zero=some z)(iW:i.size=size)(hby:i.bytes=bytes)(n6:z.cells.size=size) (v)(n)(xs)(br:F8 w e size v n xs) (x)(m)(news)(hl:news.length=m*size)(hlen:∀w':World,(Builtin.lenOf x).run P w'=.ok m w') (kl:∀w':World,w'.heap=w.heap->(Builtin.firstCells size m x).run P w'=.ok news.toArray w')(E:∀ag∈news,ag.oneCell'=true) (sW:n+m<=maxLen)(jM:(n+m)*bytes<=140737488355328):∃v' w',(Builtin.append_ #[t,ag] ty #[v,x]).run P w=.ok v' w'/\FY w e size v n m (xs++news) v' w':=by
 subst iW;subst hby;have hd:w.drew.heap=w.heap:=rfl;exact aaK w e i z n6 (fun v=>Builtin.append_ #[t,ag] ty #[v,x]) v n xs br m news hl E sW jM
  (fun h=>by
   subst h
   have hn:=pH (by simpa using hl)
   subst hn
   exact Tn w t ag ty e du i ht hu fC Q x hlen (by simp_all))
  (fun a b c=>Le w t ag ty e du i z ht hu fC Q hz x m news hlen (kl w.drew hd) a b c)
  (fun u n cap w' a b=>afb w t ag ty e du i ht hu fC Q x m news hlen (kl w rfl) u n cap w' a b)
  (fun u n cap xs a b c d=>ae7 w t ag ty e du i z ht hu fC Q hz x m news hlen (kl w.drew hd) u n cap xs a b c d)
def aff(w)(t ag ty e:TypeId)(q kk)(i:TypeInfo)(ht:P.underlying t=some (.slice e))(hu:P.underlying ag=some (.int q))(Q:P.info? e=some i):(Builtin.append_ #[t,ag] ty #[.slice none 0 0,.int kk 0]).run P w=.ok (.slice none 0 0) w:=by have hw:IntKind.i64.wrap 0=0:=dC;simp[Builtin.append_,en ht,en hu,sizeOf,typeInfo,Q,asInt,asIntOf,hw]
def afe(w)(t ag ty e:TypeId)(q kk)(i:TypeInfo)(z)(ht:P.underlying t=some (.slice e))(hu:P.underlying ag=some (.int q)) (Q:P.info? e=some i)(hz:i.zero=some z)(dX:i.size≠0)(m:Nat)(hw:IntKind.i64.wrap (m:Int)=m)(nX:¬(281474976710656<(m:Int)*i.bytes)) (hn:m≠0)(lV:¬(9223372036854775807<(m:Int)))(lU:¬(281474976710656<Builtin.nextslicecap m 0*i.bytes)):(Builtin.append_ #[t,ag] ty #[.slice none 0 0,.int kk (m:Int)]).run P w=.ok (.slice (some ⟨w.heap.size,0,none⟩) m (grownCap w m 0 e)) (w.drew.alloc (.cells (Builtin.zeroCells z.cells m++Builtin.zeroCells z.cells (grownCap w m 0 e-m)) e)):=by
 have h0:¬((m:Int)<0):=by omega
 simp[Builtin.append_,en ht,en hu,sizeOf,typeInfo,zeroValue,Q,hz,hn,asInt,asIntOf,hw,h0,nX,lV,lU,Question.forced,run_firstCells_none,newRow,grownCap];exact fun h=>absurd h (KG hn dX)
def afg(w)(t ag ty e:TypeId)(q kk)(i:TypeInfo)(z)(ht:P.underlying t=some (.slice e))(hu:P.underlying ag=some (.int q)) (Q:P.info? e=some i)(hz:i.zero=some z)(dX:i.size≠0)(m:Nat)(hw:IntKind.i64.wrap (m:Int)=m)(nX:¬(281474976710656<(m:Int)*i.bytes)) (u n cap)(w')(fd:n+m<=cap)(bQ:(storeCells ⟨u,n*i.size,none⟩ (Builtin.zeroCells z.cells m).toList 0).run P w=.ok () w'):(Builtin.append_ #[t,ag] ty #[.slice (some ⟨u,0,none⟩) n cap,.int kk (m:Int)]).run P w=.ok (.slice (some ⟨u,0,none⟩) (n+m) cap) w':=by
 have h0:¬((m:Int)<0):=by omega
 by_cases hn:m=0;subst hn;have H:(Builtin.zeroCells z.cells 0).toList=[]:=by simp[Builtin.zeroCells]
 rw[H]at bQ;simp[Builtin.append_,en ht,en hu,sizeOf,typeInfo,zeroValue,Q,hz,asInt,asIntOf,show IntKind.i64.wrap 0=0 from by decide,dX,show n<=cap by omega,Addr.add_lit,bQ];simp[Builtin.append_,en ht,en hu,sizeOf,typeInfo,zeroValue,Q,hz,hn,asInt,asIntOf,hw,h0,nX,fd,Addr.add_lit,bQ];exact fun h=>absurd h (KG hn dX)
def afd(w)(t ag ty e:TypeId)(q kk)(i:TypeInfo)(z)(ht:P.underlying t=some (.slice e))(hu:P.underlying ag=some (.int q)) (Q:P.info? e=some i)(hz:i.zero=some z)(dX:i.size≠0)(m:Nat)(hw:IntKind.i64.wrap (m:Int)=m)(nX:¬(281474976710656<(m:Int)*i.bytes))(he:m≠0) (u n cap)(xs:List Value)(hn:¬(n+m<=cap))(lV:¬(9223372036854775807<((n:Int)+(m:Int))))(lU:¬(281474976710656<Builtin.nextslicecap (n+m) cap*i.bytes)) (s3:(Builtin.firstCells i.size n (.slice (some ⟨u,0,none⟩) n cap)).run P w.drew=.ok xs.toArray w.drew):(Builtin.append_ #[t,ag] ty #[.slice (some ⟨u,0,none⟩) n cap,.int kk (m:Int)]).run P w=.ok (.slice (some ⟨w.heap.size,0,none⟩) (n+m) (grownCap w (n+m) cap e)) (w.drew.alloc (.cells (xs.toArray++Builtin.zeroCells z.cells m++Builtin.zeroCells z.cells (grownCap w (n+m) cap e-(n+m))) e)):=by have h0:¬((m:Int)<0):=G;simp[Builtin.append_,en ht,en hu,sizeOf,typeInfo,zeroValue,Q,hz,hn,he,asInt,asIntOf,hw,h0,nX,lV,lU,Question.forced,s3,newRow,grownCap];exact fun h=>absurd h (KG he dX)
def Rt{z:Value}(cX:∀v∈z.cells.toList,v.oneCell'=true)(m):∀ag∈(Builtin.zeroCells z.cells m).toList,ag.oneCell'=true:=by
 intro ag hu;simp only[Builtin.zeroCells,KD,ew,Array.toList_range,pG]at hu;obtain⟨k,o,rfl⟩:=hu;have hp:0<z.cells.size:=by rcases yP z.cells.size with h|h;simp_all;exact h
 have ai:k % z.cells.size<z.cells.size:=BG _ hp;simp_all
def asv(w)(t ag ty e:TypeId)(q kk)(i:TypeInfo)(z)(ht:P.underlying t=some (.slice e))(hu:P.underlying ag=some (.int q)) (Q:P.info? e=some i)(hz:i.zero=some z)(dX:i.size≠0)(n6:z.cells.size=i.size)(cX:∀v∈z.cells.toList,v.oneCell'=true) (v)(n)(xs)(br:F8 w e i.size v n xs)(m) (sW:n+m<=4611686018427387903)(jM:(n+m)*i.bytes<=140737488355328):∃v' w',(Builtin.append_ #[t,ag] ty #[v,.int kk (m:Int)]).run P w=.ok v' w'/\FY w e i.size v n m (xs++(Builtin.zeroCells z.cells m).toList) v' w':=by
 have hw:IntKind.i64.wrap (m:Int)=m:=by rw[yS];omega
 have hle:m*i.bytes<=(n+m)*i.bytes:=e8 _ (by omega);have nX:¬(281474976710656<(m:Int)*i.bytes):=by
  have:((m*i.bytes:Nat):Int)=(m:Int)*i.bytes:=by push_cast;rfl
  omega
 refine aaK w e i z n6 (fun v=>Builtin.append_ #[t,ag] ty #[v,.int kk (m:Int)]) v n xs br m _ (by simp[BK,n6]) (Rt cX m) (by simp only[maxLen];omega) jM ?_ ?_ ?_ ?_;intro h;subst h;exact aff w t ag ty e q kk i ht hu Q;intro a b c;exact afe w t ag ty e q kk i z ht hu Q hz dX m hw nX a b c;intro u n cap w' a b;exact afg w t ag ty e q kk i z ht hu Q hz dX m hw nX u n cap w' a b;intro u n cap xs a b c d;by_cases he:m=0;subst he;have H:(Builtin.zeroCells z.cells 0)= #[]:=by simp[Builtin.zeroCells]
 rw[H];have h0:IntKind.i64.wrap 0=0:=dC;have a':¬(n<=cap):=by simpa using a
 have b':¬(9223372036854775807<(n:Int)):=by simpa using b
 have c':¬(281474976710656<Builtin.nextslicecap n cap*i.bytes):=by simpa using c
 simp[Builtin.append_,en ht,en hu,sizeOf,typeInfo,zeroValue,Q,hz,a',asInt,asIntOf,h0,dX,b',c',Question.forced,d,newRow,grownCap];simpa using afd w t ag ty e q kk i z ht hu Q hz dX m hw nX he u n cap xs a b c d
def aog{w w' X g F}(O:Inv w X g F){ae}(hf:F[ae]?=some .fresh){t:TypeId}{sz cap es vs} (I:w'.os=w.os)(ht:w'.tape=w.tape)(b3:w'.output=w.output){aa}(hw:w'.heap=w.heap.push aa)(h2:gj w' w.heap.size vs t) (cR:es.length<=cap)(d0:cap<=maxLen)(hl:vs.size=cap*sz) (hc:∀i e,es[i]?=some e->e.length=sz/\∀j s,e[j]?=some s->∃v,vs[i*sz+j]?=some v/\af w (Ex X g) [] s v/\v.oneCell'=true):∃V,af w' (Ex X V) V (.sl ae) (.slice (some ⟨w.heap.size,0,none⟩) es.length cap)/\Inv w' X V (bF [(ae,.row t sz es)] F)/\Step g.length w g w' V/\V.length=g.length:=by have hS:=pM (w':=w') O hf (e:=.row w.heap.size sz es.length cap) rfl I ht b3 hw;have ak:=lR O hf;have ai:=(ao.1 ak).1;refine⟨g.set ae (.row w.heap.size sz es.length cap),.sl (sz:=sz) (by simp[ai]),?_,hS,sM⟩;rw[kC];refine qW (w':=w') O hf (e:=.row w.heap.size sz es.length cap) (b:=.row t sz es) rfl I ht b3 hw ⟨rfl,rfl,cR,d0,vs,h2,hl,fun i e H=>⟨(hc i e H).1,fun j s hs=>?_⟩⟩;have⟨v,a,b,c⟩:=(hc i e H).2 j s hs;exact⟨v,a,b.hP hS,c⟩
structure auQ(P:Program)(w:World)(L:Nat->Prop)(z:Nat)(es:List (List SV))(x:Value)(news:List Value):Prop where
 len:news.length=es.length*z
 lenOf:∀w':World,(Builtin.lenOf x).run P w'=.ok es.length w'
 first:∀w':World,w'.heap=w.heap->(Builtin.firstCells z es.length x).run P w'=.ok news.toArray w'
 one:∀ag∈news,ag.oneCell'=true
 row:∀(i:Nat)(e:List SV),es[i]?=some e->e.length=z/\∀(j:Nat)(s:SV),e[j]?=some s->∃v,news[i*z+j]?=some v/\af w L [] s v/\v.oneCell'=true
def flat_get{α:Type}(f:Nat->Nat->α)(n z i j)(Q:i<n)(hj:j<z):((List.range (n*z)).map fun k=>f (k/z) (k % z))[i*z+j]?=some (f i j):=by
 have ai:i*z+j<n*z:=by have:=e8 z Q;rw[oC]at this;omega
 rw[bz,Fm ai];have E:(i*z+j)/z=i:=by rw[BJ,Nat.mul_add_div G,Nat.div_eq_of_lt hj];omega
 have F:(i*z+j)% z=j:=by rw[BJ,Nat.mul_add_mod];exact Fq hj
 simp[E,F]
def U0{n z k:Nat}(h:k<n*z):k/z<n/\k % z<z/\k/z*z+k % z=k:=by
 have hz:0<z:=by rcases yP z with rfl|h';simp at h;exact h'
 exact⟨SE (by grind),BG _ hz,by rw[BJ];exact FK k z⟩
end
section
variable{P:Program} {T:aG}
def atb(l:List UInt8):(⟨l.toArray⟩:ByteArray).size=l.length:=by simp[ByteArray.size]
def AZ{w L g s vs}(h:b5 w L g [s] vs):∃v,vs=[v]/\af w L g s v:=by obtain⟨hl,D⟩:=h;match vs,hl with|[v],_=>exact⟨v,rfl,D 0 s v rfl rfl⟩
def vH{w L g s t vs}(h:b5 w L g [s,t] vs):∃v ag,vs=[v,ag]/\af w L g s v/\af w L g t ag:=by obtain⟨hl,D⟩:=h;match vs,hl with|[v,ag],_=>exact⟨v,ag,rfl,D 0 s v rfl rfl,D 1 t ag rfl rfl⟩
def aay{w L g s t r vs}(h:b5 w L g [s,t,r] vs):∃v ag x,vs=[v,ag,x]/\af w L g s v/\af w L g t ag/\af w L g r x:=by obtain⟨hl,D⟩:=h;match vs,hl with|[v,ag,x],_=>exact⟨v,ag,x,rfl,D 0 s v rfl rfl,D 1 t ag rfl rfl,D 2 r x rfl rfl⟩
def vk{xs:Array Operand}{A}{l:List Value}(h:xs.toList.map A=l):xs.map A=l.toArray:=by grind
def sU(A:Operand->Value)(d:Option Tmp)(b)(xs)(kB)(ty:TypeId)(pos)(after)(guard:Option (Nat×Bool)):execOp A ⟨d,.call ⟨.builtin b,xs,kB⟩,ty,pos,after,guard⟩=builtin b kB ty (xs.map fun|.const _=>true|_=>false) (xs.map A):=rfl
def Cs{w X g h}(O:Inv w X g h):Inv w.drew X g h/\Step g.length w g w.drew g:=by have hS:Step g.length w g w.drew g:=⟨rfl,rfl,rfl,aC _,fun _ _ _=>rfl,fun _ h _=>h,fun _ _ _ h _=>.inl h⟩;exact⟨⟨O.len,fun i b e M H=>(O.ok i b e M H).step hS (aC _) fun _ _=>rfl,O.lt,O.inj,O.cU,O.df⟩,hS⟩
def Inv.drop{w X g h}(O:Inv w X g h)(m b):Inv w X (g.set b .dead) (h.set b .dead)/\Step m w g w (g.set b .dead):=by
 have bc:∀i e,(g.set b .dead)[i]?=some e->(i=b/\e=.dead)\/(i≠b/\g[i]?=some e):=by intro i e H;rw[bu]at H;by_cases nU:b=i;simp_all;grind
 have br:∀u,bM (g.set b .dead) u->bM g u:=by rintro u ⟨i,e,H,U⟩;rcases bc i e H with⟨_,rfl⟩|⟨E,F⟩;simp[ba.owns]at U;exact⟨i,e,F,U⟩
 have hS:Step m w g w (g.set b .dead):=⟨rfl,rfl,rfl,aC _,fun _ _ _=>rfl,fun u I _=>br u I,fun i e _ H hf=>by grind⟩;have ca:Step g.length w g w (g.set b .dead):=⟨hS.os,hS.tape,hS.output,hS.size,hS.frame,hS.gG,fun i e _ H hf=>by grind⟩;refine⟨⟨by simp[O.len],fun i bw e M H=>?_,fun i e u H U=>?_,fun i j e e' u Q hj U bP=>?_,fun u hx I=>O.cU u hx (br u I),O.df⟩,hS⟩;rcases bc i e H with⟨rfl,rfl⟩|⟨E,F⟩;exact axQ;rw[bu,ay (fun e=>E e.symm)]at M;exact(O.ok i bw e M F).step ca (aC _) fun _ _=>rfl
 rcases bc i e H with⟨_,rfl⟩|⟨_,F⟩;simp[ba.owns]at U;exact O.lt i e u F U;exact ace
def Pn{w w' X g h}(O:Inv w X g h){b ae u e e'}(hf:h[ae]?=some .fresh)(M:g[b]?=some e)(U:e.owns u)(bP:e'.zm u) (I:w'.os=w.os)(ht:w'.tape=w.tape)(b3:w'.output=w.output)(hs:w'.heap.size=w.heap.size)(hw:∀k,k≠u->w'.heap[k]?=w.heap[k]?){bw} (aw:Step g.length w g w' ((g.set ae e').set b .dead)->aB w' (Ex X ((g.set ae e').set b .dead)) ((g.set ae e').set b .dead) bw e'):Inv w' X ((g.set ae e').set b .dead) ((h.set ae bw).set b .dead)/\Step g.length w g w' ((g.set ae e').set b .dead):=by
 have H2:=lR O hf;have cW:b≠ae:=by rintro rfl;rw[H2]at M;simp at M;subst M;simp[ba.owns]at U
 have bc:∀i a,((g.set ae e').set b .dead)[i]?=some a->(i=b/\a=.dead)\/(i=ae/\a=e')\/(i≠b/\i≠ae/\g[i]?=some a):=by intro i a ha;rw[bu,bu]at ha;by_cases nU:b=i;simp_all;grind
 have br:∀k,bM ((g.set ae e').set b .dead) k->bM g k:=by rintro k ⟨i,a,ha,o⟩;rcases bc i a ha with⟨_,rfl⟩|⟨_,rfl⟩|⟨_,_,F⟩;simp[ba.owns]at o;have e1:=bP.eq o;subst e1;exact⟨b,e,M,U⟩;exact⟨i,a,F,o⟩
 have hS:Step g.length w g w' ((g.set ae e').set b .dead):=by refine⟨I,ht,b3,G,fun k _ o=>hw k fun e1=>o (e1▸⟨b,e,M,U⟩),fun k o _=>br k o,fun i a Q ha dp=>?_⟩;rw[bu,bu];by_cases nU:b=i;simp_all;rw[ay nU];by_cases am:ae=i;subst am;rw[H2]at ha;simp at ha;exact absurd (by rw[<-ha];trivial) dp;simp_all
 refine⟨⟨by simp[O.len],fun i c a hc ha=>?_,fun i a k ha o=>?_,fun i j a a' k Q hj o bV=>?_,fun k hx bf=>O.cU k hx (br k bf),fun k hx=>by rw[hs];exact O.df k hx⟩,hS⟩;rw[bu,bu]at hc;rcases bc i a ha with⟨rfl,rfl⟩|⟨rfl,rfl⟩|⟨E,F,h3⟩;rw[au rfl]at hc;split at hc;simp at hc;subst hc;trivial;simp at hc;simp_all;rw[ay (fun e=>E e.symm),ay (fun e=>F e.symm)]at hc;refine(O.ok i c a hc h3).step hS (aC _) fun k o=>hw k fun e1=>?_;subst e1;exact E (O.inj i b a e k h3 M o U)
 rw[hs];rcases bc i a ha with⟨_,rfl⟩|⟨_,rfl⟩|⟨_,_,h3⟩;simp[ba.owns]at o;have e1:=bP.eq o;subst e1;exact O.lt b e _ M U;exact O.lt i a k h3 o;rcases bc i a Q with⟨_,rfl⟩|⟨Hs,rfl⟩|⟨nU,am,h3⟩;simp[ba.owns]at o;rcases bc j a' hj with⟨_,rfl⟩|⟨Dk,_⟩|⟨mY,No,h4⟩;simp[ba.owns]at bV;omega;have e1:=bP.eq o;subst e1;exact absurd (O.inj j b a' e _ h4 M bV U) mY;rcases bc j a' hj with⟨_,rfl⟩|⟨Dk,rfl⟩|⟨mY,No,h4⟩;simp[ba.owns]at bV;have e1:=bP.eq bV;subst e1;exact absurd (O.inj i b a e _ h3 M o U) nU;exact O.inj i j a a' k h3 h4 o bV
def at0{z n m}{news}{vs:Array Value}{xs}(h:vs.toList.take ((n+m)*z)=xs++news)(k)(o:k<(n+m)*z):vs[k]?=(xs++news)[k]?:=by grind
def atf(hT:bl P T){t e:TypeId}(h:∃te,vO T t=some te)(ax:(bk P t).ti=.slice e):QG T t=true:=by have⟨te,h⟩:=h;unfold QG;rw[h,hT t te h];simp only[ax]
def Ap(hT:bl P T){e:TypeId}{k}(h:jv T e k):P.underlying e=some (.int .u8)/\k:=by have h:=b4 hT h;split at h;rename_i MU;exact⟨so (bm MU sM).1,h⟩;cases h
def age(w)(a t e:TypeId){L g v}(ha:P.underlying a=some (.slice e))(H:P.underlying e=some (.int .u8))(ht:P.underlying t=some .string) (s:List UInt8)(D:af w L g (.rs 1 (s.map fX)) v):(convert a t v).run P w=.ok (.string ⟨s.toArray⟩) w:=by
 generalize dA:s.map fX=es at D;cases D with
 | @hJ _ _ ec c _=>
  have:s=[]:=by simpa using dA
  subst this;cases ec with|none=>rw[run_convert_bytes_nil w a e ha H 0 c t ht];rfl|some ec=>exact run_convert_bytes_back w a t e ec c [] ha H ht sM
 | @rs _ _ _ ec c val hc hm hE ai hlen d2 cX bb=>
  subst dA;rw[bh];refine run_convert_bytes_back w a t e ec c s ha H ht fun j hj=>?_;have E:(s.map fX)[j]?=some (fX s[j]):=by simp[hj]
  have F:=d2 j _ 0 (.int .u8 (s[j].toNat:Int)) E rfl;have h3:=bb j _ 0 (.int .u8 (s[j].toNat:Int)) E rfl;rw[show j*1+0=j by omega]at F;rw[F];generalize val j 0=q at h3;cases h3;rfl
def Ue(hT:bl P T){J h ae}{a t:TypeId}{x K}(hf:qX T (.convert a t x)=true->h[ae]?=some .fresh)(o:cH T J h ae (.convert a t x) K):aN P J h (.convert a t x) K:=by
 have hf:=hf;have⟨ta,alx,bi⟩:=JU o;have⟨tt,WZ,aU⟩:=JU bi;have⟨sx,o,hx⟩:=bS aU;have aly:=hT a ta alx;have alD:=hT t tt WZ;subst aly;subst alD;generalize Ab:(bk P a).ti=ta at o;generalize DF:(bk P t).ti=tt at o;have qh:ta≠ .none->(P.underlying a).isSome=true:=fun cW=>by have:=(bm Ab cW).1;cases hu:P.underlying a with|none=>simp[hQ,hu]at this;simp_all|some _=>rfl
 have key:∀k,tt=.int k->ta≠ .none->∀q n,sx=.int q n->K (.int k (k.wrap n)) [] []->aN P J h (.convert a t x) K:=by intro k l9 cW q n hs ga;subst l9;subst hs;exact ed ga fun w L g A d ty pos after guard I=>by have E:=hx w L g A (I x (by simp[Op.operands]));generalize aF:A x=vx at E;cases E;refine⟨_,cu ?_,.int⟩;rw[aF];obtain⟨auX,kj⟩:=FE.1 (qh cW);simp[convert,bB kj,bB (so (bm DF (by simp)).1),Conv.intToInt]
 have toB:∀e,tt=.slice e->ta=.str->∀s,sx=.str s->jv T e (s.length<=4611686018427387903/\K (.sl ae) [(ae,.row e 1 (s.map fX))] [ae])->aN P J h (.convert a t x) K:=by
  intro e d5 NY s hs ga;subst d5;subst NY;subst hs;obtain⟨H,tg,ga⟩:=Ap hT ga;have hu:=qG (bm Ab (by simp)).1;have hd:=fi (bm DF (by simp)).1;refine⟨_,_,_,ga,fun w X g F A d ty pos after guard O I ap=>?_,by simp⟩;have cE:F[ae]?=some .fresh:=(ap ae (by simp)).trans (hf (atf hT ⟨_,WZ⟩ DF));have E:=hx w _ g A (I x (by simp[Op.operands]));generalize aF:A x=vx at E;cases E;unfold ea bO;rw[show execOp A ⟨d,.convert a t x,ty,pos,after,guard⟩=(do pure (.value (<-convert a t (A x))))from rfl,aF,cu (run_bytes_of_string w a t e ⟨s.toArray⟩ hu hd H)];obtain⟨aE,ca⟩:=Cs O;have dY:(ByteArray.size ⟨s.toArray⟩)=s.length:=by simp[ByteArray.size]
  rw[dY];generalize cR:grownCap w s.length 0 e=cap;have hk:s.length<=cap:=by rw[<-cR];exact FF _ _ _ _
  have mX:cap<=maxLen:=by rw[<-cR];exact KE _ _ _ _ (by simp only[maxLen];omega)
  have VV:(bytesRow ⟨s.toArray⟩ cap).size=cap:=by simp[bytesRow,dY];omega
  have:=aog (w':=w.drew.alloc (.cells (bytesRow ⟨s.toArray⟩ cap) e ((bytesRow ⟨s.toArray⟩ cap).size,(bytesRow ⟨s.toArray⟩ cap).size+1))) aE cE (t:=e) (sz:=1) (cap:=cap) (es:=s.map fX) (vs:=bytesRow ⟨s.toArray⟩ cap)
   rfl rfl rfl rfl ⟨_,su w.drew _,fun k o h=>by omega,e7 _⟩ (by simpa using hk) mX (by rw[VV];omega) (fun i b M=>by
    rw[bz]at M
    cases Q:s[i]? with
    |none=>simp_all
    |some c=>
     rw[Q]at M
     simp[fX]at M
     subst M
     refine⟨rfl,fun j q hj=>?_⟩
     have Dj:j=0:=by
      have:=(ao.1 hj).1;simpa using this
     subst Dj
     simp at hj
     subst hj
     refine⟨.int .u8 (c.toNat:Int),?_,.int,rfl⟩
     have cj:=(ao.1 Q).1
     have MP:s[i]=c:=(ao.1 Q).2
     simp[bytesRow,Array.getElem?_append,cj,MP])
  rw[bh]at this;obtain⟨V,a1,a2,a3,a4⟩:=this;exact⟨V,a1,a2,ca.trans a3,a4⟩
 have Pi:∀e,ta=.slice e->tt=.str->∀es rd,P.underlying e=some (.int .u8)->(uz es fun s=>K (.str s) [] rd)->(∀w X g F v,Inv w X g F->(∀i∈rd,F[i]?=h[i]?)->af w (Ex X g) g sx v->∃L,af w L g (.rs 1 es) v)->aN P J h (.convert a t x) K:=by intro e NY alC es rd H ga bb;subst NY;subst alC;obtain⟨s,rfl,ga⟩:=ga;have hu:=fi (bm Ab (by simp)).1;have hd:=qG (bm DF (by simp)).1;refine⟨_,_,_,ga,fun w X g F A d ty pos after guard O I ap=>?_,by simp⟩;obtain⟨L,E⟩:=bb w X g F _ O ap (hx w _ g A (I x (by simp[Op.operands])));exact .pure (cu (age w a t e hu H hd s E)) O .str
 cases ta<;>cases tt<;>first|exact o.elim|(cases sx<;>first|exact o.elim|exact key _ rfl (by simp) _ _ rfl o|exact toB _ rfl rfl _ rfl o|skip)
 case slice.slice.sl e e2 b=>
  obtain⟨H,o⟩:=Ap hT o;obtain⟨h2,o⟩:=b2 o;obtain⟨aT,M,o⟩:=bg (show av h b _ from o);have hu:=fi (bm Ab (by simp)).1;have hd:=fi (bm DF (by simp)).1;subst h2;rw[hu]at hd;simp at hd;subst hd;cases aT with
  |row t0 z es=>
   cases es with
   |nil=>exact o.elim
   |cons e0 es=>
    refine⟨_,_,_,o,fun w X g F A d ty pos after guard O I ap=>?_,by simp⟩;have aP:F[b]?=some (.row t0 z (e0::es)):=(ap b (by simp)).trans M;have D:=hx w _ g A (I x (by simp[Op.operands]));generalize aF:A x=vx at D;rcases yu O aP with⟨u,cap,vs,ak,cR,d0,U,hl,cN⟩|⟨ak,dA⟩;cases D with
    |sl h'=>
     rw[ak]at h';simp at h';obtain⟨rfl,rfl,rfl,rfl⟩:=h';obtain⟨fr,M3,dp,hle⟩:=U;have qg:w.shape? u=some (t0,vs.size):=by unfold World.shape?;rw[M3]
     have a7:(convert a a (.slice (some ⟨u,0,none⟩) (es.length+1) cap)).run P w=.ok (.slice (some ⟨u,0,none⟩) (es.length+1) cap) (w.freeze ⟨u,vs.size,none⟩ 1):=by simp[convert,bB hu,bB H,markStringish,qg]
     have uR:w.freeze ⟨u,vs.size,none⟩ 1={w with heap:=w.heap.modify u fun
      |.cells c elem (lo,Q)=>.cells c elem (if lo==Q then(vs.size,vs.size+1)else(min lo vs.size,max Q (vs.size+1)))
      |aa=>aa}:=by unfold World.freeze;rw[ay (by decide)];rfl
     have f1:(w.freeze ⟨u,vs.size,none⟩ 1).os=w.os:=by rw[uR]
     have f2:(w.freeze ⟨u,vs.size,none⟩ 1).tape=w.tape:=by rw[uR]
     have f3:(w.freeze ⟨u,vs.size,none⟩ 1).output=w.output:=by rw[uR]
     have f4:(w.freeze ⟨u,vs.size,none⟩ 1).heap.size=w.heap.size:=by rw[uR];simp
     have f5:∀k,k≠u->(w.freeze ⟨u,vs.size,none⟩ 1).heap[k]?=w.heap[k]?:=fun k o=>by grind
     have f6:(w.freeze ⟨u,vs.size,none⟩ 1).heap[u]?=some (.cells vs t0 (if fr.1==fr.2 then(vs.size,vs.size+1)else(min fr.1 vs.size,max fr.2 (vs.size+1)))):=by rw[uR];simp[Fy,M3]
     have hS:=pE ak rfl f1 f2 f3 f4 f5;unfold ea bO;rw[show execOp A ⟨d,.convert a a x,ty,pos,after,guard⟩=(do pure (.value (<-convert a a (A x))))from rfl,aF,cu a7];refine⟨g,.sl ak,?_,hS,rfl⟩;rw[kC];refine pC O ak rfl f1 f2 f3 f4 f5 ⟨rfl,rfl,cR,d0,vs,⟨_,f6,fun k o hc=>?_,?_⟩,hl,fun i e H=>⟨(cN i e H).1,fun j s hs=>?_⟩⟩;have h3:=dp k o;by_cases hq:fr.1=fr.2;simp[hq]at hc;omega;simp[hq]at hc;have h4:vs.size<=fr.1:=by by_cases h5:fr.1<vs.size;grind;omega
     omega;grind;obtain⟨v,a1,b1,c1⟩:=(cN i e H).2 j s hs;exact⟨v,a1,b1.hP hS,c1⟩
    |dE h'=>simp_all
    |c9 h'=>simp_all
    simp at dA
  |_=>exact o.elim
 case slice.str.nils e=>obtain⟨H,o⟩:=Ap hT o;refine Pi e rfl rfl [] [] H ⟨[],rfl,o⟩ fun w X g F v _ _ D=>⟨fun _=>False,?_⟩;cases D;exact .hJ (cx _)
 case slice.str.rs e z es=>obtain⟨H,o⟩:=Ap hT o;obtain⟨hz,o⟩:=b2 o;subst hz;exact Pi e rfl rfl es [] H o fun w X g F v _ _ D=>⟨_,D⟩
 case slice.str.sl e b=>
  obtain⟨H,o⟩:=Ap hT o;obtain⟨aT,M,o⟩:=bg (show av h b _ from o);cases aT with
  |row t0 z es=>
   obtain⟨hz,o⟩:=b2 o;subst hz;refine Pi e rfl rfl es [b] H o fun w X g F v O ap D=>⟨fun _=>False,?_⟩;have aP:F[b]?=some (.row t0 1 es):=(ap b (by simp)).trans M;rcases yu O aP with⟨u,cap,vs,ak,cR,d0,U,hl,cN⟩|⟨ak,dA⟩
   ·cases D with
    |sl h'=>
     rw[ak]at h';simp at h';obtain⟨rfl,rfl,rfl,rfl⟩:=h';obtain⟨fr,U,_⟩:=U;refine .rs (val:=fun i j=>(vs[i*1+j]?).getD Go.undef) cR d0 (fun h=>h) (iF.1 U).1 (fun i e H=>(cN i e H).1) (fun i e j s H hs=>?_) (fun i e j s H hs=>?_) (fun i e j s H hs=>?_);all_goals obtain⟨v,a,b,c⟩:=(cN i e H).2 j s hs
     rw[oQ U,jE,a];rfl;rw[a];exact c;rw[a];exact b.mono [] (fun _ _ _=>rfl) (aC _) (fun _ _ _ h=>h.elim) (by simp)
    |dE h'=>simp_all
    |c9 h'=>simp_all
   subst dA;cases D with|sl h'=>simp_all|dE h'=>exact .hJ (cx _)|c9 h'=>simp_all
  |_=>exact o.elim
end
section
variable{P:Program} {T:aG}
def amN(hT:bl P T){J h ae xs kB K}(o:cH T J h ae (.call ⟨.builtin .len,xs,kB⟩) K):aN P J h (.call ⟨.builtin .len,xs,kB⟩) K:=by
 have⟨ss,o,hs⟩:=nN o;have kU:∀w L g A,(∀z∈(Op.call ⟨.builtin .len,xs,kB⟩).operands.toList,bA w L g J A z)->b5 w L g ss (xs.toList.map A):=fun w L g A I=>hs w L g A fun y hy=>I y (by simp[Op.operands,Call.operands];simpa using hy);cases h2:kB.toList with
 |nil=>simp_all
 |cons t l=>
  cases l with
  |cons _ _=>simp_all
  |nil=>
   rw[h2]at o;have aU:=b4 hT o;generalize ax:(bk P t).ti=ti at aU;have bD:kB= #[t]:=by rw[<-yR (xs:=kB),h2]
   subst bD;have hlen:∀{w A v n d ty pos after guard},xs.toList.map A=[v]->(Builtin.len_ #[t] ty #[v]).run P w=.ok (.int .i64 n) w->
    (execOp A ⟨d,.call ⟨.builtin .len,xs,#[t]⟩,ty,pos,after,guard⟩).run P w=.ok (.value (.int .i64 n)) w:=by
    intro w A v n d ty pos after guard hv D
    rw[sU,vk hv,BigFrame.builtin_len]
    exact cu D
   have one:∀s,ss=[s]->∀w L g A,(∀z∈(Op.call ⟨.builtin .len,xs,#[t]⟩).operands.toList,bA w L g J A z)->∃v,xs.toList.map A=[v]/\af w L g s v:=by intro s bW w L g A I;subst bW;exact AZ (kU w L g A I)
   split at aU;have hu:=qG (bm ax sM).1;exact ed aU fun w L g A d ty pos after guard I=>by have⟨v,hv,D⟩:=one _ rfl w L g A I;cases D;exact⟨_,hlen hv (by simp[Builtin.len_,bB hu,goInt,atb]),.int⟩
   have hu:=fi (bm ax sM).1;exact ed aU fun w L g A d ty pos after guard I=>by have⟨v,hv,D⟩:=one _ rfl w L g A I;cases D;exact⟨_,hlen (n:=0) hv (by simp[Builtin.len_,bB hu,goInt]),.int⟩
   have hu:=fi (bm ax sM).1;exact ed aU fun w L g A d ty pos after guard I=>by have⟨v,hv,D⟩:=one _ rfl w L g A I;cases D with|hJ _=>exact⟨_,hlen (n:=0) hv (by simp[Builtin.len_,bB hu,goInt]),.int⟩|rs _ _ _ _ _ _ _ _=>exact⟨_,hlen hv (by simp[Builtin.len_,bB hu,goInt]),.int⟩
   have hu:=fi (bm ax sM).1;exact ed aU fun w L g A d ty pos after guard I=>by have⟨v,hv,D⟩:=one _ rfl w L g A I;cases D with|qu=>exact⟨_,hlen hv (by simp[Builtin.len_,bB hu,goInt]),.int⟩
   rename_i e b;have hu:=fi (bm ax sM).1;have⟨aT,dn,o⟩:=bg aU;cases aT with
   |row T0 z es=>
    refine⟨_,_,_,o,fun w X g F A d ty pos after guard O I ap=>?_,sM⟩;have aP:F[b]?=some (.row T0 z es):=(ap b (by simp)).trans dn;have⟨v,hv,D⟩:=one _ rfl w _ g A I;rcases yu O aP with⟨u,cap,vs,ak,_⟩|⟨ak,dA⟩;cases D with|sl h'=>rw[ak]at h';simp at h';obtain⟨rfl,rfl,rfl,rfl⟩:=h';exact .pure (hlen hv (by simp[Builtin.len_,bB hu,goInt])) O .int|dE h'=>grind|c9 h'=>grind
    cases D with|sl h'=>grind|dE h'=>subst dA;exact .pure (hlen (n:=0) hv (by simp[Builtin.len_,bB hu,goInt])) O .int|c9 h'=>grind
   |_=>exact o.elim
   cases aU
def Yt{b}(M:b=.min\/b=.max){J h ae xs kB K}(o:cH T J h ae (.call ⟨.builtin b,xs,kB⟩) K):aN P J h (.call ⟨.builtin b,xs,kB⟩) K:=by
 rcases M with rfl|rfl;have⟨ss,o,hs⟩:=nN o;have kU:∀w L g A,(∀z∈(Op.call ⟨.builtin .min,xs,kB⟩).operands.toList,bA w L g J A z)->b5 w L g ss (xs.toList.map A):=fun w L g A I=>hs w L g A fun y hy=>I y (by simp[Op.operands,Call.operands];simpa using hy);split at o;rename_i k x k' y;exact ed o fun w L g A d ty pos after guard I=>by have⟨v,ag,hv,D,ds⟩:=vH (kU w L g A I);cases D;cases ds;exact⟨.int k (if y<x then y else x),by rw[sU,vk hv,BigFrame.builtin_min];exact cu (by simp[Builtin.min_,Builtin.min2]),.int⟩
 rename_i k x k' y Or z;exact ed o fun w L g A d ty pos after guard I=>by have⟨v,ag,x',hv,D,ds,NO⟩:=aay (kU w L g A I);cases D;cases ds;cases NO;exact⟨_,by rw[sU,vk hv,BigFrame.builtin_min];exact cu (run_min_int3 w kB ty k k' Or x y z),.int⟩
 cases o;have⟨ss,o,hs⟩:=nN o;have kU:∀w L g A,(∀z∈(Op.call ⟨.builtin .max,xs,kB⟩).operands.toList,bA w L g J A z)->b5 w L g ss (xs.toList.map A):=fun w L g A I=>hs w L g A fun y hy=>I y (by simp[Op.operands,Call.operands];simpa using hy);split at o;rename_i k x k' y;exact ed o fun w L g A d ty pos after guard I=>by have⟨v,ag,hv,D,ds⟩:=vH (kU w L g A I);cases D;cases ds;exact⟨.int k (if y>x then y else x),by rw[sU,vk hv,BigFrame.builtin_max];exact cu (by simp[Builtin.max_,Builtin.max2]),.int⟩
 rename_i k x k' y Or z;exact ed o fun w L g A d ty pos after guard I=>by have⟨v,ag,x',hv,D,ds,NO⟩:=aay (kU w L g A I);cases D;cases ds;cases NO;exact⟨_,by rw[sU,vk hv,BigFrame.builtin_max];exact cu (run_max_int3 w kB ty k k' Or x y z),.int⟩
 cases o
def lz(hT:bl P T){J h ae op K}(hf:qX T op=true->h[ae]?=some .fresh)(o:cH T J h ae op K):aN P J h op K:=by
 cases op with
 |move x=>exact anM o
 |assign x=>exact afu o
 |pick c a b=>exact apk o
 |alloc t=>exact aeY hT (hf rfl) o
 |box t x=>exact af5 (hf rfl) o
 |build t ps=>exact aga hT o
 |buildSlice t n ps=>exact af7 hT (hf rfl) o
 |store t x y=>exact atJ hT o
 |nilCheck x=>exact aol o
 |binOp op t x y ag=>exact TH hT o
 |unOp op t x=>exact aup o
 |convert a t x=>exact Ue hT hf o
 |makeFunc fn a b=>exact ann o
 |makeSlice t x y=>exact Yi hT (hf rfl) o
 |slice t x lo Q mx=>exact QI hT o
 |fieldAddr t x f=>exact aiU hT o
 |field t x f=>exact aiV hT o
 |index t x i=>exact H_ hT o
 |extract x i=>exact aiS o
 |call c=>
  have⟨callee,xs,kB⟩:=c;cases callee with
  |builtin b=>cases b with|len=>exact amN hT o|min=>exact Yt (.inl rfl) o|max=>exact Yt (.inr rfl) o|_=>cases o
  |_=>cases o
 |_=>cases o
end
